/- audit: contracts, second part: links. -/
import Derived.Test.YtcdakcemcehfiaaRng
namespace Go.Proofs.Ytcdakcemcehfiaa
open Go
set_option maxRecDepth 100000

abbrev NP := List (Hlf × Hlf) × List (Hlf × Hlf)
def aL1 (ring : List Hlf) (s : NP) (i : Nat) : NP :=
  (mset (ring.getD i (0, false)) (ring.getD ((i + 1) % ring.length) (0, false)) s.1, mset (ring.getD ((i + 1) % ring.length) (0, false)) (ring.getD i (0, false)) s.2)
def aLR (s : NP) (ring : List Hlf) : NP := (List.range ring.length).foldl (aL1 ring) s
def aLks (s : NP) (rings : List (List Hlf)) : NP := rings.foldl aLR s
def aRings (p : Pln) : List (List Hlf) := if pRight p then sRings p else []
def aLinks (p : Pln) : NP := aLks ([], []) (aRings p)

theorem sRgs_len (nx : List (Hlf × Hlf)) (F : Nat) : ∀ (es : List Edg) (s : List (List Hlf) × Met), (sRgs nx F s es).1.length ≤ s.1.length + 2 * es.length
  | [], s => Nat.le_refl _
  | e :: es, s => by
    have h := sRgs_len nx F es (sOneR nx F (sOneR nx F s (e.1, false)) (e.1, true))
    have h1 := sOneR_len nx F s (e.1, false)
    have h2 := sOneR_len nx F (sOneR nx F s (e.1, false)) (e.1, true)
    simp only [sRgs, List.foldl_cons, List.length_cons] at h ⊢
    omega
theorem sRgs_each (nx : List (Hlf × Hlf)) (F : Nat) {P : List Hlf → Prop} (hP : ∀ met h, (sRing nx F met h).1 ≠ [] → P (sRing nx F met h).1) : ∀ (es : List Edg) (s : List (List Hlf) × Met), (∀ r ∈ s.1, P r) → ∀ r ∈ (sRgs nx F s es).1, P r
  | [], s, hs => hs
  | e :: es, s, hs => by
    have key : ∀ (s : List (List Hlf) × Met) (h : Hlf), (∀ r ∈ s.1, P r) → ∀ r ∈ (sOneR nx F s h).1, P r := fun s h hs r hr => by
      simp only [sOneR] at hr
      split at hr
      · exact hs r hr
      · rename_i hne
        rcases List.mem_append.1 hr with hr | hr
        · exact hs r hr
        · rw [List.mem_singleton.1 hr]; exact hP _ _ hne
    exact sRgs_each nx F hP es _ (key _ _ (key _ _ hs))
theorem aRings_len (p : Pln) : (aRings p).length ≤ 2 * p.2.length := by
  unfold aRings
  split
  · have := sRgs_len (sNext p) (hvU p.2).length p.2 ([], [])
    simpa [sRings] using this
  · exact Nat.zero_le _
theorem aRings_ring (p : Pln) {r : List Hlf} (hr : r ∈ aRings p) : r ≠ [] ∧ r.length ≤ 2 * p.2.length + 1 := by
  unfold aRings at hr
  split at hr
  · refine sRgs_each (sNext p) (hvU p.2).length (P := fun r => r ≠ [] ∧ r.length ≤ 2 * p.2.length + 1) (fun met h hne => ⟨hne, ?_⟩) p.2 ([], []) (by simp) r hr
    have := sRing_len (sNext p) (hvU p.2).length met h
    have := hvs_len p.2
    simp only [hvU, List.length_cons] at *
    omega
  · cases hr

set_option maxHeartbeats 1000000 in
theorem links_ok (p : Pln) (hp : p.1.length < 100000000) (hp2 : p.2.length < 100000000) (hT : pRight p = true → TOk p) : FunOk cx 17 [dPl p] (.tup [mpD kH dH (aLinks p).1, mpD kH dH (aLinks p).2]) := by
  refine fn_ok (c := _) _ Try.func17 rfl Try.ntmps17 rfl fun A w => ?_
  refine w_seq ?_
  refine w_reg ?_
  refine o_box rfl rfl rfl rfl rfl rfl ?_; intro b0
  refine Qv.step (u_p rfl rfl rfl) rfl rfl ?_
  refine Qv.step (u_p rfl rfl rfl) rfl rfl ?_
  refine o_nil ?_
  refine x_go ?_
  refine w_seq ?_
  refine w_reg ?_
  refine o_mk kH dH rfl rfl rfl rfl ?_; intro b1
  refine o_mk kH dH rfl rfl rfl rfl ?_; intro b2
  refine Qv.step (u_p rfl rfl rfl) rfl rfl ?_
  refine Qv.step (u_p rfl rfl rfl) rfl rfl ?_
  refine o_nil ?_
  refine x_go ?_
  refine w_seq ?_
  refine w_seq ?_
  refine w_reg ?_
  refine Qv.step (d := .agg [_, _]) (.as (u_ld 0 rfl rfl rfl rfl rfl rfl) rfl) rfl rfl ?_
  refine Qv.step (u_call (Rings_ok p hp hp2 hT) Try.call31 rfl rfl rfl) rfl rfl ?_
  refine Qv.step (u_len rfl rfl rfl rfl rfl rfl) rfl rfl ?_
  refine Qv.step (u_p rfl rfl rfl) rfl rfl ?_
  refine o_nil ?_
  refine x_go ?_
  refine w_block ?_
  
  have hRl := aRings_len p
  refine w_loop (fun s : Nat × NP => s.1 ≤ (aRings p).length ∧ aLks s.2 ((aRings p).drop s.1) = aLinks p) (fun s => ([(1, .v (.pointer (some ⟨b0, 0, none⟩))), (4, .v (.map (some b1))), (5, .v (.map (some b2))), (14, .sl 1 ((aRings p).map rRg)), (15, .i (aRings p).length), (16, .i s.1)],
    [cellsR b0 36 (rPl p), mapR b1 kH dH s.2.1, mapR b2 kH dH s.2.2])) (fun s => (aRings p).length - s.1) (0, [], []) ⟨Nat.zero_le _, rfl⟩ ⟨rfl, rfl, rfl, rfl, lenS rfl, rfl, trivial⟩ rfl ?_
  rintro ⟨k, s0⟩ ⟨hk, hI⟩
  simp only at hk hI
  refine w_seq ?_
  refine w_reg ?_
  refine Qv.step (u_p rfl rfl rfl) rfl rfl ?_
  refine o_nil ?_
  refine x_go ?_
  refine w_seq ?_
  refine w_if rfl (fun h => ?_) (fun h => ?_)
  · have hlt : k < (aRings p).length := by simpa using h
    rw [List.drop_eq_getElem_cons hlt, aLks, List.foldl_cons] at hI
    clear h
    obtain ⟨hne, hrl⟩ := aRings_ring p (List.getElem_mem hlt)
    generalize hring : (aRings p)[k] = ring at hI hne hrl
    have hpos : 0 < ring.length := List.length_pos_iff.2 hne
    refine w_skip ?_
    refine x_go ?_
    refine w_seq ?_
    refine w_block ?_
    refine w_seq ?_
    refine w_reg ?_
    refine Qv.step (u_ix rfl rfl rfl rfl rfl rfl rfl rfl (by omega) (by simp; omega)) rfl rfl ?_
    refine Qv.step (u_lde (r := rRg ring) (by simp [hlt, hring]) rfl rfl rfl rfl rfl) rfl rfl ?_
    refine Qv.step (u_p rfl rfl rfl) rfl rfl ?_
    refine o_nil ?_
    refine x_go ?_
    refine w_seq ?_
    refine w_reg ?_
    refine Qv.step (u_p rfl rfl rfl) rfl rfl ?_
    refine Qv.step (u_len rfl rfl rfl rfl rfl rfl) rfl rfl ?_
    refine Qv.step (u_p rfl rfl rfl) rfl rfl ?_
    refine o_nil ?_
    refine x_go ?_
    refine w_block ?_
    
    refine w_loop (fun s : Nat × NP => s.1 ≤ ring.length ∧ ((List.range ring.length).drop s.1).foldl (aL1 ring) s.2 = aLR s0 ring) (fun s => ([(1, .v (.pointer (some ⟨b0, 0, none⟩))), (4, .v (.map (some b1))), (5, .v (.map (some b2))), (14, .sl 1 ((aRings p).map rRg)), (15, .i (aRings p).length), (16, .i k), (7, .sl 2 (ring.map rH)), (20, .sl 2 (ring.map rH)), (21, .i ring.length), (22, .i s.1)],
      [cellsR b0 36 (rPl p), mapR b1 kH dH s.2.1, mapR b2 kH dH s.2.2])) (fun s => ring.length - s.1) (0, s0) ⟨Nat.zero_le _, rfl⟩ ⟨rfl, rfl, rfl, rfl, rfl, rfl, rfl, rfl, lenS rfl, rfl, trivial⟩ rfl ?_
    rintro ⟨i, s⟩ ⟨hi, hJ⟩
    simp only at hi hJ
    refine w_seq ?_
    refine w_reg ?_
    refine Qv.step (u_p rfl rfl rfl) rfl rfl ?_
    refine o_nil ?_
    refine x_go ?_
    refine w_seq ?_
    refine w_if rfl (fun h => ?_) (fun h => ?_)
    · have hlt : i < ring.length := by simpa using h
      clear h
      rw [List.drop_eq_getElem_cons (by simpa using hlt), List.getElem_range, List.foldl_cons] at hJ
      have hm : (i + 1) % ring.length < ring.length := Nat.mod_lt _ hpos
      have hgi : ring.getD i (0, false) = ring[i] := by simp [hlt]
      refine w_skip ?_
      refine x_go ?_
      refine w_seq ?_
      refine w_block ?_
      refine w_seq ?_
      refine w_reg ?_
      refine Qv.step (u_p rfl rfl rfl) rfl rfl ?_
      refine Qv.step (u_ix rfl rfl rfl rfl rfl rfl rfl rfl (by omega) (by simp; omega)) rfl rfl ?_
      refine Qv.step (d := .agg [_, _]) (.as (u_lde (r := rH ring[i]) (by simp [hlt]) rfl rfl rfl rfl rfl) rfl) rfl rfl ?_
      refine o_alloc rfl rfl rfl rfl rfl rfl ?_; intro b3
      refine Qv.step (u_p rfl rfl rfl) rfl rfl ?_
      refine o_st 3 rfl rfl rfl rfl rfl rfl rfl rfl rfl rfl (by first | rfl | kernel_rfl) ?_
      refine o_nil ?_
      refine x_go ?_
      refine w_seq ?_
      refine w_reg ?_
      refine Qv.step (u_p rfl rfl rfl) rfl rfl ?_
      refine Qv.step (u_p rfl rfl rfl) rfl rfl ?_
      refine Qv.step (d := .i ((i + 1 : Nat) : Int)) (.as (u_p rfl rfl rfl) (congrArg (fun n : Int => DV.i n) (wrapS (by omega)).symm.symm)) rfl rfl ?_
      refine Qv.step (u_p rfl rfl rfl) rfl rfl ?_
      refine Qv.step (u_len rfl rfl rfl rfl rfl rfl) rfl rfl ?_
      refine Qv.step (d := .i (((i + 1) % ring.length : Nat) : Int)) (.as (u_rem rfl rfl rfl rfl (by rw [List.length_map]; omega)) (congrArg (fun n : Int => DV.i n) (by rw [List.length_map, remN]))) rfl rfl ?_
      refine Qv.step (u_ix rfl rfl rfl rfl rfl rfl rfl rfl (Int.natCast_nonneg _) (by rw [List.length_map]; exact Int.ofNat_lt.2 hm)) rfl rfl ?_
      refine Qv.step (d := .agg [_, _]) (.as (u_lde (r := rH (ring.getD ((i + 1) % ring.length) (0, false))) (by rw [Int.toNat_natCast]; simp [hm]) rfl rfl rfl rfl rfl) rfl) rfl rfl ?_
      refine o_alloc rfl rfl rfl rfl rfl rfl ?_; intro b4
      refine o_st 4 rfl rfl rfl rfl rfl rfl rfl rfl rfl rfl (by first | rfl | kernel_rfl) ?_
      refine o_nil ?_
      refine x_go ?_
      refine w_asG [cellsR _ _ [_, _], mapR _ _ _ _, mapR _ _ _ _, cellsR _ _ [_, _], cellsR _ _ [_, _]] rfl ?_
      apply d_begin1 1 _ _ rfl
      refine d_qE [] (by kernel_rfl) rfl (fun _ _ _ _ => .onk (L' := []) rfl (u_p rfl rfl rfl) rfl) ?_
      refine d_qE (d := .agg [_, _]) [] (by kernel_rfl) rfl (fun _ _ _ _ => .onk (L' := []) rfl (u_ld 3 rfl rfl rfl rfl rfl rfl) rfl) ?_
      refine d_qE [] (by kernel_rfl) rfl (fun _ _ _ _ => .onk (L' := []) rfl (u_p rfl rfl rfl) rfl) ?_
      refine d_qE (d := .agg [_, _]) [] (by kernel_rfl) rfl (fun _ _ _ _ => .onk (L' := []) rfl (u_ld 4 rfl rfl rfl rfl rfl rfl) rfl) ?_
      refine d_qE (d := .agg [_, _]) [] (by kernel_rfl) rfl (fun _ _ _ _ => .onk (L' := []) rfl (u_ld 4 rfl rfl rfl rfl rfl rfl) rfl) ?_
      refine d_qE (d := .agg [_, _]) [] (by kernel_rfl) rfl (fun _ _ _ _ => .onk (L' := []) rfl (u_ld 3 rfl rfl rfl rfl rfl rfl) rfl) ?_
      refine d_mu 1 KH ring[i] (ring.getD ((i + 1) % ring.length) (0, false)) [0, 1, 4] 0 (by kernel_rfl) rfl rfl rfl (by kernel_rfl) (fun _ _ => rfl) (fun _ _ => rfl) (fun _ _ => rfl) rfl rfl (fun _ _ => rfl) rfl rfl (fun _ _ => rfl) ?_
      refine d_endE (by kernel_rfl) (by kernel_rfl) (by kernel_rfl) (fun _ => rfl) (fun bs _ => so_asE (L' := [(35, _), (36, _), (37, _), (38, _), (39, _), (40, _)]) (G' := []) (Γ' := [_, _, _, _, _]) rfl rfl rfl ?_)
      refine o_mu 2 KH (ring.getD ((i + 1) % ring.length) (0, false)) ring[i] rfl rfl rfl rfl rfl rfl rfl rfl rfl rfl rfl ?_
      refine o_nil ?_
      refine x_go ?_
      refine w_reg ?_
      refine Qv.step (u_p rfl rfl rfl) rfl rfl ?_
      refine Qv.step (u_p rfl rfl rfl) rfl rfl ?_
      refine o_nil ?_
      refine x_rd (i + 1, aL1 ring s i) 3 (by show ring.length - (i + 1) < ring.length - i; omega) ⟨by show i + 1 ≤ _; omega, hJ⟩ (by simp only [aL1, hgi]; rfl) ⟨rfl, rfl, rfl, rfl, rfl, rfl, rfl, rfl, rfl, lkS rfl (by omega), trivial⟩
    
    have hge : ¬ i < ring.length := by simpa using h
    clear h
    rw [List.drop_eq_nil_of_le (by simp; omega)] at hJ
    refine w_exit ?_
    refine x_go ?_
    refine w_reg ?_
    refine Qv.step (u_p rfl rfl rfl) rfl rfl ?_
    refine Qv.step (u_p rfl rfl rfl) rfl rfl ?_
    refine o_nil ?_
    exact x_rd (k + 1, s) 3 (by show (aRings p).length - (k + 1) < (aRings p).length - k; omega) ⟨by show k + 1 ≤ _; omega, by show aLks s _ = _; rw [← hI, ← hJ]; rfl⟩ rfl ⟨rfl, rfl, rfl, rfl, rfl, lkS rfl (by omega), trivial⟩
  
  have hge : ¬ k < (aRings p).length := by simpa using h
  clear h
  rw [List.drop_eq_nil_of_le (by omega)] at hI
  have hI : s0 = aLinks p := hI
  subst hI
  refine w_frm 1 4 (.refl _) rfl rfl ?_
  refine w_frm 2 5 (.refl _) rfl rfl ?_
  refine w_exit ?_
  refine x_go ?_
  refine w_seq ?_
  refine w_reg ?_
  refine Qv.step (u_p rfl rfl rfl) rfl rfl ?_
  refine Qv.step (u_p rfl rfl rfl) rfl rfl ?_
  refine Qv.step (u_p rfl rfl rfl) rfl rfl ?_
  refine Qv.step (u_p rfl rfl rfl) rfl rfl ?_
  refine o_nil ?_
  refine x_go ?_
  exact w_ret (x_r2 rfl (rs_t rfl) (rs_t rfl) rfl)
end Go.Proofs.Ytcdakcemcehfiaa
