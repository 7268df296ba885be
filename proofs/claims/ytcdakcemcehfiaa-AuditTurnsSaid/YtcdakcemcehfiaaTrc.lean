/- spin: contracts, third part: turn. -/
import Derived.Test.YtcdakcemcehfiaaTrb
namespace Go.Proofs.Ytcdakcemcehfiaa
open Go
set_option maxRecDepth 100000

theorem rwOf_er (key : Int) (m : List (Int × Rw)) : (mget key (er m)).getD [] = (rwOf key m).2 := by
  rw [er_mget]
  unfold rwOf
  cases mget key m <;> rfl
theorem sOne_er (fr : List (Hlf × Int)) (m : List (Int × Rw)) (e : Edg) (b : Bool) (c : Value) : sOne (fr, er m) e b = (sFr fr e b, er (mset (sKey fr e b) (c, (rwOf (sKey fr e b) m).2 ++ [(e.1, b)]) m)) := by
  simp only [sOne, er_mset, rwOf_er]
/-- No row is longer than so. -/
def Bnd (n : Nat) (m : List (Int × Rw)) : Prop := ∀ x ∈ m, x.2.2.length ≤ n
theorem Bnd.of {n : Nat} {m : List (Int × Rw)} (h : Bnd n m) (key : Int) : (rwOf key m).2.length ≤ n := by
  unfold rwOf
  cases hg : ixK key m with
  | none => rw [(ixK_none hg).2]; exact Nat.zero_le _
  | some j =>
    obtain ⟨_, v, h2, h3⟩ := ixK_some hg
    rw [h3]
    exact h _ (List.mem_of_getElem? h2)
theorem Bnd.set {n : Nat} {m : List (Int × Rw)} (h : Bnd n m) (key : Int) (c : Value) (x : Hlf) : Bnd (n + 1) (mset key (c, (rwOf key m).2 ++ [x]) m) := by
  have hn := h.of key
  intro y hy
  cases hg : ixK key m with
  | none =>
    rw [(ixK_none hg).1] at hy
    rcases List.mem_append.1 hy with hy | hy
    · have := h y hy; omega
    · rw [List.mem_singleton.1 hy]; simp; omega
  | some j =>
    rw [(ixK_some hg).1] at hy
    rcases List.mem_or_eq_of_mem_set hy with hy | hy
    · have := h y hy; omega
    · rw [hy]; simp; omega

@[reducible] def dWh (b2 b3 b4 b5 : Nat) : List DV := [.v (.map (some b2)), .v (.map (some b3)), .v (.map (some b4)), .v (.map (some b5))]
def fO (x : Rw) : DV := .os x.1
def dMapNil : List DV := [.v (.map none), .v (.map none), .v (.map none), .v (.map none)]

/-- What is asked of a plan. -/
structure TOk (p : Pln) : Prop where
  ord : ∀ x ∈ (sFO ([], []) p.2).2, OrdOn (sLt (sCen (sAt [] p.1) x.1) (sAt [] p.1) (sFO ([], []) p.2).1) x.2
  nod : ((sFO ([], []) p.2).2.flatMap (·.2)).Nodup
  nem : ∀ x ∈ (sFO ([], []) p.2).2, x.2 ≠ []

set_option maxHeartbeats 1000000 in
theorem turn_ok' (p : Pln) (hp : p.1.length < 100000000) (hp2 : p.2.length < 100000000) (hT : TOk p) : FunOk cx 38 [dPl p] (.agg [.un, .un, .un, mpD kH dH (sNext p)]) := by
  refine fn_ok (c := _) _ Try.func38 rfl Try.ntmps38 rfl fun A w => ?_
  refine w_seq ?_
  refine w_reg ?_
  refine o_box rfl rfl rfl rfl rfl rfl ?_; intro b0
  refine o_alloc rfl rfl rfl rfl rfl rfl ?_; intro b1
  refine o_nil ?_
  refine x_go ?_
  refine w_seq ?_
  refine w_reg ?_
  refine o_mk kI dV rfl rfl rfl rfl ?_; intro b2
  refine o_mk kH DV.i rfl rfl rfl rfl ?_; intro b3
  refine o_mk kI fO rfl rfl rfl rfl ?_; intro b4
  refine o_mk kH dH rfl rfl rfl rfl ?_; intro b5
  refine Qv.step (d := .agg [_, _, _, _]) (.as (u_bst rfl rfl rfl rfl rfl rfl rfl rfl) rfl) rfl rfl ?_
  refine o_alloc rfl rfl rfl rfl rfl rfl ?_; intro b6
  refine o_st 6 rfl rfl rfl rfl rfl rfl rfl rfl rfl rfl (by first | rfl | kernel_rfl) ?_
  refine o_nil ?_
  refine x_go ?_
  skip
  refine w_star0 ?_
  skip
  refine w_seq ?_
  refine w_seq ?_
  refine w_reg ?_
  refine Qv.step (u_p rfl rfl rfl) rfl rfl ?_
  refine Qv.step (u_ld 0 rfl rfl rfl rfl rfl rfl) rfl rfl ?_
  refine Qv.step (u_len rfl rfl rfl rfl rfl rfl) rfl rfl ?_
  refine Qv.step (u_p rfl rfl rfl) rfl rfl ?_
  refine o_nil ?_
  refine x_go ?_
  refine w_block ?_
  
  refine w_loop (fun s : Nat × List (Int × Vtx) => s.1 ≤ p.1.length ∧ sAt s.2 (p.1.drop s.1) = sAt [] p.1) (fun s => ([(1, .v (.pointer (some ⟨b0, 0, none⟩))), (2, .v (.pointer (some ⟨b1, 0, none⟩))), (3, .v (.pointer (some ⟨b6, 0, none⟩))), (22, .sl 3 (p.1.map rV)), (23, .i p.1.length), (24, .i s.1)],
    [cellsR b0 36 (rPl p), cellsR b1 104 dMapNil, mapR b2 kI dV s.2, mapR b3 kH DV.i [], mapR b4 kI fO [], mapR b5 kH dH [], cellsR b6 104 (dWh b2 b3 b4 b5), starR []])) (fun s => p.1.length - s.1) (0, []) ⟨Nat.zero_le _, rfl⟩ ⟨rfl, rfl, rfl, rfl, lenS rfl, rfl, trivial⟩ rfl ?_
  rintro ⟨k, at_⟩ ⟨hk, hI⟩
  refine w_seq ?_
  refine w_reg ?_
  refine Qv.step (u_p rfl rfl rfl) rfl rfl ?_
  refine o_nil ?_
  refine x_go ?_
  refine w_seq ?_
  refine w_if rfl (fun h => ?_) (fun h => ?_)
  · have hlt : k < p.1.length := by simpa using h
    rw [List.drop_eq_getElem_cons hlt, sAt, List.foldl_cons] at hI
    clear h
    refine w_skip ?_
    refine x_go ?_
    refine w_seq ?_
    refine w_block ?_
    refine w_seq ?_
    refine w_reg ?_
    refine Qv.step (u_ix rfl rfl rfl rfl rfl rfl rfl rfl (by omega) (by simp; omega)) rfl rfl ?_
    refine Qv.step (d := .agg [_, _, _]) (.as (u_lde (r := rV p.1[k]) (by simp [hlt]) rfl rfl rfl rfl rfl) rfl) rfl rfl ?_
    refine o_alloc rfl rfl rfl rfl rfl rfl ?_; intro b8
    refine o_st 8 rfl rfl rfl rfl rfl rfl rfl rfl rfl rfl (by first | rfl | kernel_rfl) ?_
    refine o_nil ?_
    refine x_go ?_
    refine w_reg ?_
    refine Qv.step (u_p rfl rfl rfl) rfl rfl ?_
    refine Qv.step (u_ld 6 rfl rfl rfl rfl rfl rfl) rfl rfl ?_
    refine Qv.step (u_p rfl rfl rfl) rfl rfl ?_
    refine Qv.step (u_ld 8 rfl rfl rfl rfl rfl rfl) rfl rfl ?_
    refine Qv.step (d := .agg [_, _, _]) (.as (u_ld 8 rfl rfl rfl rfl rfl rfl) rfl) rfl rfl ?_
    refine o_mu 2 KI p.1[k].1 p.1[k] rfl rfl rfl rfl rfl rfl rfl rfl rfl rfl rfl ?_
    refine o_nil ?_
    refine x_go ?_
    refine w_reg ?_
    refine Qv.step (u_p rfl rfl rfl) rfl rfl ?_
    refine Qv.step (u_p rfl rfl rfl) rfl rfl ?_
    refine o_nil ?_
    exact x_rd (k + 1, mset p.1[k].1 p.1[k] at_) 8 (by show p.1.length - (k + 1) < p.1.length - k; omega) ⟨by show k + 1 ≤ _; omega, hI⟩ rfl ⟨rfl, rfl, rfl, rfl, rfl, lkS rfl (by omega), trivial⟩
  
  have hge : ¬ k < p.1.length := by simpa using h
  clear h
  have hAt : at_ = sAt [] p.1 := by
    rw [← hI]
    simp only
    rw [List.drop_eq_nil_of_le (by omega)]
    rfl
  clear hI hk hge
  subst hAt
  refine w_exit ?_
  refine x_go ?_
  refine w_seq ?_
  refine w_seq ?_
  refine w_reg ?_
  refine Qv.step (u_p rfl rfl rfl) rfl rfl ?_
  refine Qv.step (u_ld 0 rfl rfl rfl rfl rfl rfl) rfl rfl ?_
  refine Qv.step (u_len rfl rfl rfl rfl rfl rfl) rfl rfl ?_
  refine Qv.step (u_p rfl rfl rfl) rfl rfl ?_
  refine o_nil ?_
  refine x_go ?_
  refine w_block ?_
  
  refine w_loop (fun s : Nat × List (Hlf × Int) × List (Int × Rw) => s.1 ≤ p.2.length ∧ sFO (s.2.1, er s.2.2) (p.2.drop s.1) = sFO ([], []) p.2 ∧ Bnd (2 * s.1) s.2.2) (fun s => ([(1, .v (.pointer (some ⟨b0, 0, none⟩))), (2, .v (.pointer (some ⟨b1, 0, none⟩))), (3, .v (.pointer (some ⟨b6, 0, none⟩))), (35, .sl 3 (p.2.map rE)), (36, .i p.2.length), (37, .i s.1)],
    [cellsR b0 36 (rPl p), cellsR b1 104 dMapNil, mapR b2 kI dV (sAt [] p.1), mapR b3 kH DV.i s.2.1, mapR b4 kI fO s.2.2, mapR b5 kH dH [], cellsR b6 104 (dWh b2 b3 b4 b5), starR (s.2.2.map rho)])) (fun s => p.2.length - s.1) (0, [], []) ⟨Nat.zero_le _, rfl, fun x h => by cases h⟩ ⟨rfl, rfl, rfl, rfl, lenS rfl, rfl, trivial⟩ rfl ?_
  rintro ⟨k, fr0, m0⟩ ⟨hk, hI, hB⟩
  simp only at hk hI hB
  refine w_seq ?_
  refine w_reg ?_
  refine Qv.step (u_p rfl rfl rfl) rfl rfl ?_
  refine o_nil ?_
  refine x_go ?_
  refine w_seq ?_
  refine w_if rfl (fun h => ?_) (fun h => ?_)
  · have hlt : k < p.2.length := by simpa using h
    rw [List.drop_eq_getElem_cons hlt, sFO, List.foldl_cons] at hI
    clear h
    refine w_skip ?_
    refine x_go ?_
    refine w_seq ?_
    refine w_block ?_
    refine w_seq ?_
    refine w_reg ?_
    refine Qv.step (u_ix rfl rfl rfl rfl rfl rfl rfl rfl (by omega) (by simp; omega)) rfl rfl ?_
    refine Qv.step (d := .agg [_, _, _]) (.as (u_lde (r := rE p.2[k]) (by simp [hlt]) rfl rfl rfl rfl rfl) rfl) rfl rfl ?_
    refine o_alloc rfl rfl rfl rfl rfl rfl ?_; intro b8
    refine o_st 8 rfl rfl rfl rfl rfl rfl rfl rfl rfl rfl (by first | rfl | kernel_rfl) ?_
    refine o_nil ?_
    refine x_go ?_
    refine w_seq ?_
    refine w_reg ?_
    refine Qv.step (q_bsl rfl rfl rfl rfl rfl rfl rfl rfl rfl rfl rfl) rfl rfl ?_
    refine Qv.step (u_len rfl rfl rfl rfl rfl rfl) rfl rfl ?_
    refine Qv.step (u_p rfl rfl rfl) rfl rfl ?_
    refine o_nil ?_
    refine x_go ?_
    refine w_block ?_
    
    refine w_loop (fun s : Nat × List (Hlf × Int) × List (Int × Rw) => s.1 ≤ 2 ∧ Bnd (2 * k + s.1) s.2.2 ∧ (match s.1 with | 0 => sOne (sOne (s.2.1, er s.2.2) p.2[k] false) p.2[k] true | 1 => sOne (s.2.1, er s.2.2) p.2[k] true | _ => (s.2.1, er s.2.2)) = sOne (sOne (fr0, er m0) p.2[k] false) p.2[k] true)
      (fun s => ([(1, .v (.pointer (some ⟨b0, 0, none⟩))), (2, .v (.pointer (some ⟨b1, 0, none⟩))), (3, .v (.pointer (some ⟨b6, 0, none⟩))), (35, .sl 3 (p.2.map rE)), (36, .i p.2.length), (37, .i k), (7, .v (.pointer (some ⟨b8, 0, none⟩))), (41, .sl 1 [[.b false], [.b true]]), (42, .i ((2 : Nat) : Int)), (43, .i (s.1 : Int))],
      [cellsR b0 36 (rPl p), cellsR b1 104 dMapNil, mapR b2 kI dV (sAt [] p.1), mapR b3 kH DV.i s.2.1, mapR b4 kI fO s.2.2, mapR b5 kH dH [], cellsR b6 104 (dWh b2 b3 b4 b5), starR (s.2.2.map rho), cellsR b8 55 (rE p.2[k])])) (fun s => 2 - s.1) (0, fr0, m0) ⟨Nat.zero_le _, hB, rfl⟩ ⟨rfl, rfl, rfl, rfl, rfl, rfl, rfl, rfl, rfl, rfl, trivial⟩ rfl ?_
    rintro ⟨j, fr, m⟩ ⟨hj, hBj, hJ⟩
    simp only at hj hBj hJ
    refine w_seq ?_
    refine w_reg ?_
    refine Qv.step (u_p rfl rfl rfl) rfl rfl ?_
    refine o_nil ?_
    refine x_go ?_
    refine w_seq ?_
    refine w_if rfl (fun h => ?_) (fun h => ?_)
    · have hj2 : j = 0 ∨ j = 1 := by
        have : (j : Int) < 2 := by simpa using h
        omega
      clear h
      rcases hj2 with rfl | rfl
      · skip
        refine w_skip ?_
        refine x_go ?_
        refine w_seq ?_
        refine w_block ?_
        refine w_seq ?_
        refine w_reg ?_
        refine Qv.step (u_ix rfl rfl rfl rfl rfl rfl rfl rfl (Int.natCast_nonneg _) (by simp)) rfl rfl ?_
        refine Qv.step (u_lde (r := [.b false]) rfl rfl rfl rfl rfl rfl) rfl rfl ?_
        refine Qv.step (u_p rfl rfl rfl) rfl rfl ?_
        refine o_nil ?_
        refine x_go ?_
        refine w_seq ?_
        refine w_reg ?_
        refine Qv.step (u_p rfl rfl rfl) rfl rfl ?_
        refine Qv.step (u_ld 8 rfl rfl rfl rfl rfl rfl) rfl rfl ?_
        refine Qv.step (u_p rfl rfl rfl) rfl rfl ?_
        refine Qv.step (d := .agg [_, _]) (.as (u_bst rfl rfl rfl rfl rfl rfl rfl rfl) rfl) rfl rfl ?_
        refine o_alloc rfl rfl rfl rfl rfl rfl ?_; intro b9
        refine o_st 9 rfl rfl rfl rfl rfl rfl rfl rfl rfl rfl (by first | rfl | kernel_rfl) ?_
        refine o_nil ?_
        refine x_go ?_
        refine w_seq ?_
        refine w_reg ?_
        refine Qv.step (u_p rfl rfl rfl) rfl rfl ?_
        refine Qv.step (u_ld 6 rfl rfl rfl rfl rfl rfl) rfl rfl ?_
        refine Qv.step (d := .agg [_, _]) (.as (u_ld 9 rfl rfl rfl rfl rfl rfl) rfl) rfl rfl ?_
        refine Qv.step (u_p rfl rfl rfl) rfl rfl ?_
        refine Qv.step (u_ld 8 rfl rfl rfl rfl rfl rfl) rfl rfl ?_
        refine o_mu 3 KH (p.2[k].1, false) p.2[k].2.1 rfl rfl rfl rfl rfl rfl rfl rfl rfl rfl rfl ?_
        refine o_nil ?_
        refine x_go ?_
        refine w_seq ?_
        refine w_seq ?_
        refine w_reg ?_
        refine Qv.step (u_p rfl rfl rfl) rfl rfl ?_
        refine o_nil ?_
        refine x_go ?_
        refine w_iff rfl ?_
        refine w_skip ?_
        refine x_go ?_
        refine w_res 7 (starR (starL (sKey fr p.2[k] false) m)) rfl (starL_ok _ _) (starL_fp _ _) ?_
        apply d_begins 7 (starP (sKey fr p.2[k] false) m) 40 2 (starL (sKey fr p.2[k] false) m) ((rwOf (sKey fr p.2[k] false) m).2.map rH ++ [rH (p.2[k].1, false)]) rfl
        refine d_qE [] (by kernel_rfl) rfl (fun _ _ _ _ => .onk (L' := []) rfl (u_p rfl rfl rfl) rfl) ?_
        refine d_qE [0] (by kernel_rfl) rfl (fun _ _ _ _ => .onk (L' := [(62, _)]) rfl (u_ld 6 rfl rfl rfl rfl rfl rfl) rfl) ?_
        refine d_qE [] (by kernel_rfl) rfl (fun _ _ _ _ => .onk (L' := []) rfl (u_p rfl rfl rfl) rfl) ?_
        refine d_qE [2] (by kernel_rfl) rfl (fun _ _ _ _ => .onk (L' := [(64, _)]) rfl (u_ld 6 rfl rfl rfl rfl rfl rfl) rfl) ?_
        refine d_qE (d := .agg [_, _]) [] (by kernel_rfl) rfl (fun _ _ _ _ => .onk (L' := []) rfl (u_ld 9 rfl rfl rfl rfl rfl rfl) rfl) ?_
        refine d_qE [3, 4] (by kernel_rfl) rfl (fun _ _ _ _ => .onk (L' := [(65, _), (66, _)]) rfl (u_lo 3 KH (p.2[k].1, false) 0 rfl rfl rfl rfl rfl rfl rfl rfl rfl rfl) rfl) ?_
        refine d_qE [] (by kernel_rfl) rfl (fun _ _ _ _ => .onk (L' := []) rfl (u_p rfl rfl rfl) rfl) ?_
        refine d_qE [6] (by kernel_rfl) rfl (fun _ _ _ _ => .onk (L' := [(68, _)]) rfl (u_ld 6 rfl rfl rfl rfl rfl rfl) rfl) ?_
        refine d_qE [] (by kernel_rfl) rfl (fun _ _ _ _ => .onk (L' := []) rfl (u_p rfl rfl rfl) rfl) ?_
        refine d_qE [8] (by kernel_rfl) rfl (fun _ _ _ _ => .onk (L' := [(70, _)]) rfl (u_ld 6 rfl rfl rfl rfl rfl rfl) rfl) ?_
        refine d_qE (d := .agg [_, _]) [] (by kernel_rfl) rfl (fun _ _ _ _ => .onk (L' := []) rfl (u_ld 9 rfl rfl rfl rfl rfl rfl) rfl) ?_
        refine d_qE [9, 10] (by kernel_rfl) rfl (fun _ _ _ _ => .onk (L' := [(71, _), (72, _)]) rfl (u_lo 3 KH (p.2[k].1, false) 0 rfl rfl rfl rfl rfl rfl rfl rfl rfl rfl) rfl) ?_
        refine d_qE [7, 11] (by kernel_rfl) rfl (fun _ _ _ _ => .onk (L' := [(69, _), (73, _)]) rfl (u_lo 4 KI (sKey fr p.2[k] false) (nilV, []) rfl rfl rfl rfl rfl rfl rfl rfl rfl rfl) rfl) ?_
        refine d_qE (d := .agg [_, _]) [] (by kernel_rfl) rfl (fun _ _ _ _ => .onk (L' := []) rfl (u_ld 9 rfl rfl rfl rfl rfl rfl) rfl) ?_
        refine d_qE [13] (by kernel_rfl) rfl (fun _ _ _ _ => .onk (L' := [(75, _)]) rfl (q_bsl rfl rfl rfl rfl rfl rfl rfl rfl rfl rfl rfl) rfl) ?_
        refine d_apps 7 (starP (sKey fr p.2[k] false) m) (N := 2000000000) (rows2 := [rH (p.2[k].1, false)]) [12, 14] (by have := hBj.of (sKey fr p.2[k] false); simp; omega) (starL_get _ _) (by simp [one1]) (by kernel_rfl) rfl rfl rfl (by kernel_rfl) rfl (fun _ _ => rfl) (fun _ _ => rfl) (fun _ _ => rfl) (fun _ _ _ => rfl) rfl rfl rfl rfl rfl rfl ?_
        refine d_endE (by kernel_rfl) (by kernel_rfl) (by kernel_rfl) (fun _ => rfl) (fun bs c10 => so_asE (L' := [(62, _), (63, _), (64, _), (65, _), (66, _), (67, _), (68, _), (69, _), (70, _), (71, _), (72, _), (73, _), (74, _), (75, _), (76, _), (77, _)]) (G' := []) (Γ' := [_, _, _, _, _, _, _, _, _, _]) rfl rfl rfl ?_)
        refine o_mu 4 KI (sKey fr p.2[k] false) (c10, (rwOf (sKey fr p.2[k] false) m).2 ++ [(p.2[k].1, false)]) rfl rfl rfl rfl rfl rfl rfl rfl rfl rfl rfl ?_
        refine o_nil ?_
        refine x_go ?_
        refine w_reg ?_
        refine Qv.step (u_p rfl rfl rfl) rfl rfl ?_
        refine Qv.step (u_p rfl rfl rfl) rfl rfl ?_
        refine o_nil ?_
        have hS := starL_set (sKey fr p.2[k] false) m (c10, (rwOf (sKey fr p.2[k] false) m).2 ++ [(p.2[k].1, false)])
        rw [List.map_append] at hS
        refine x_rd (1, sFr fr p.2[k] false, mset (sKey fr p.2[k] false) (c10, (rwOf (sKey fr p.2[k] false) m).2 ++ [(p.2[k].1, false)]) m) 9 (by show 2 - 1 < 2 - 0; omega) ⟨by show 1 ≤ 2; omega, hBj.set _ _ _, ?_⟩ (by simp only [← hS]; rfl) ⟨rfl, rfl, rfl, rfl, rfl, rfl, rfl, rfl, rfl, rfl, trivial⟩
        rw [← hJ]
        simp only [sOne_er fr m p.2[k] false c10]
      · skip
        refine w_skip ?_
        refine x_go ?_
        refine w_seq ?_
        refine w_block ?_
        refine w_seq ?_
        refine w_reg ?_
        refine Qv.step (u_ix rfl rfl rfl rfl rfl rfl rfl rfl (Int.natCast_nonneg _) (by simp)) rfl rfl ?_
        refine Qv.step (u_lde (r := [.b true]) rfl rfl rfl rfl rfl rfl) rfl rfl ?_
        refine Qv.step (u_p rfl rfl rfl) rfl rfl ?_
        refine o_nil ?_
        refine x_go ?_
        refine w_seq ?_
        refine w_reg ?_
        refine Qv.step (u_p rfl rfl rfl) rfl rfl ?_
        refine Qv.step (u_ld 8 rfl rfl rfl rfl rfl rfl) rfl rfl ?_
        refine Qv.step (u_p rfl rfl rfl) rfl rfl ?_
        refine Qv.step (d := .agg [_, _]) (.as (u_bst rfl rfl rfl rfl rfl rfl rfl rfl) rfl) rfl rfl ?_
        refine o_alloc rfl rfl rfl rfl rfl rfl ?_; intro b9
        refine o_st 9 rfl rfl rfl rfl rfl rfl rfl rfl rfl rfl (by first | rfl | kernel_rfl) ?_
        refine o_nil ?_
        refine x_go ?_
        refine w_seq ?_
        refine w_reg ?_
        refine Qv.step (u_p rfl rfl rfl) rfl rfl ?_
        refine Qv.step (u_ld 6 rfl rfl rfl rfl rfl rfl) rfl rfl ?_
        refine Qv.step (d := .agg [_, _]) (.as (u_ld 9 rfl rfl rfl rfl rfl rfl) rfl) rfl rfl ?_
        refine Qv.step (u_p rfl rfl rfl) rfl rfl ?_
        refine Qv.step (u_ld 8 rfl rfl rfl rfl rfl rfl) rfl rfl ?_
        refine o_mu 3 KH (p.2[k].1, true) p.2[k].2.1 rfl rfl rfl rfl rfl rfl rfl rfl rfl rfl rfl ?_
        refine o_nil ?_
        refine x_go ?_
        refine w_seq ?_
        refine w_seq ?_
        refine w_reg ?_
        refine Qv.step (u_p rfl rfl rfl) rfl rfl ?_
        refine o_nil ?_
        refine x_go ?_
        refine w_ift rfl ?_
        refine w_reg ?_
        refine Qv.step (u_p rfl rfl rfl) rfl rfl ?_
        refine Qv.step (u_ld 6 rfl rfl rfl rfl rfl rfl) rfl rfl ?_
        refine Qv.step (d := .agg [_, _]) (.as (u_ld 9 rfl rfl rfl rfl rfl rfl) rfl) rfl rfl ?_
        refine Qv.step (u_p rfl rfl rfl) rfl rfl ?_
        refine Qv.step (u_ld 8 rfl rfl rfl rfl rfl rfl) rfl rfl ?_
        refine o_mu 3 KH (p.2[k].1, true) p.2[k].2.2 rfl rfl rfl rfl rfl rfl rfl rfl rfl rfl rfl ?_
        refine o_nil ?_
        refine x_go ?_
        refine w_res 7 (starR (starL (sKey fr p.2[k] true) m)) rfl (starL_ok _ _) (starL_fp _ _) ?_
        apply d_begins 7 (starP (sKey fr p.2[k] true) m) 40 2 (starL (sKey fr p.2[k] true) m) ((rwOf (sKey fr p.2[k] true) m).2.map rH ++ [rH (p.2[k].1, true)]) rfl
        refine d_qE [] (by kernel_rfl) rfl (fun _ _ _ _ => .onk (L' := []) rfl (u_p rfl rfl rfl) rfl) ?_
        refine d_qE [0] (by kernel_rfl) rfl (fun _ _ _ _ => .onk (L' := [(62, _)]) rfl (u_ld 6 rfl rfl rfl rfl rfl rfl) rfl) ?_
        refine d_qE [] (by kernel_rfl) rfl (fun _ _ _ _ => .onk (L' := []) rfl (u_p rfl rfl rfl) rfl) ?_
        refine d_qE [2] (by kernel_rfl) rfl (fun _ _ _ _ => .onk (L' := [(64, _)]) rfl (u_ld 6 rfl rfl rfl rfl rfl rfl) rfl) ?_
        refine d_qE (d := .agg [_, _]) [] (by kernel_rfl) rfl (fun _ _ _ _ => .onk (L' := []) rfl (u_ld 9 rfl rfl rfl rfl rfl rfl) rfl) ?_
        refine d_qE [3, 4] (by kernel_rfl) rfl (fun _ _ _ _ => .onk (L' := [(65, _), (66, _)]) rfl (u_lo 3 KH (p.2[k].1, true) 0 rfl rfl rfl rfl rfl rfl rfl rfl rfl rfl) rfl) ?_
        refine d_qE [] (by kernel_rfl) rfl (fun _ _ _ _ => .onk (L' := []) rfl (u_p rfl rfl rfl) rfl) ?_
        refine d_qE [6] (by kernel_rfl) rfl (fun _ _ _ _ => .onk (L' := [(68, _)]) rfl (u_ld 6 rfl rfl rfl rfl rfl rfl) rfl) ?_
        refine d_qE [] (by kernel_rfl) rfl (fun _ _ _ _ => .onk (L' := []) rfl (u_p rfl rfl rfl) rfl) ?_
        refine d_qE [8] (by kernel_rfl) rfl (fun _ _ _ _ => .onk (L' := [(70, _)]) rfl (u_ld 6 rfl rfl rfl rfl rfl rfl) rfl) ?_
        refine d_qE (d := .agg [_, _]) [] (by kernel_rfl) rfl (fun _ _ _ _ => .onk (L' := []) rfl (u_ld 9 rfl rfl rfl rfl rfl rfl) rfl) ?_
        refine d_qE [9, 10] (by kernel_rfl) rfl (fun _ _ _ _ => .onk (L' := [(71, _), (72, _)]) rfl (u_lo 3 KH (p.2[k].1, true) 0 rfl rfl rfl rfl rfl rfl rfl rfl rfl rfl) rfl) ?_
        refine d_qE [7, 11] (by kernel_rfl) rfl (fun _ _ _ _ => .onk (L' := [(69, _), (73, _)]) rfl (u_lo 4 KI (sKey fr p.2[k] true) (nilV, []) rfl rfl rfl rfl rfl rfl rfl rfl rfl rfl) rfl) ?_
        refine d_qE (d := .agg [_, _]) [] (by kernel_rfl) rfl (fun _ _ _ _ => .onk (L' := []) rfl (u_ld 9 rfl rfl rfl rfl rfl rfl) rfl) ?_
        refine d_qE [13] (by kernel_rfl) rfl (fun _ _ _ _ => .onk (L' := [(75, _)]) rfl (q_bsl rfl rfl rfl rfl rfl rfl rfl rfl rfl rfl rfl) rfl) ?_
        refine d_apps 7 (starP (sKey fr p.2[k] true) m) (N := 2000000000) (rows2 := [rH (p.2[k].1, true)]) [12, 14] (by have := hBj.of (sKey fr p.2[k] true); simp; omega) (starL_get _ _) (by simp [one1]) (by kernel_rfl) rfl rfl rfl (by kernel_rfl) rfl (fun _ _ => rfl) (fun _ _ => rfl) (fun _ _ => rfl) (fun _ _ _ => rfl) rfl rfl rfl rfl rfl rfl ?_
        refine d_endE (by kernel_rfl) (by kernel_rfl) (by kernel_rfl) (fun _ => rfl) (fun bs c10 => so_asE (L' := [(62, _), (63, _), (64, _), (65, _), (66, _), (67, _), (68, _), (69, _), (70, _), (71, _), (72, _), (73, _), (74, _), (75, _), (76, _), (77, _)]) (G' := []) (Γ' := [_, _, _, _, _, _, _, _, _, _]) rfl rfl rfl ?_)
        refine o_mu 4 KI (sKey fr p.2[k] true) (c10, (rwOf (sKey fr p.2[k] true) m).2 ++ [(p.2[k].1, true)]) rfl rfl rfl rfl rfl rfl rfl rfl rfl rfl rfl ?_
        refine o_nil ?_
        refine x_go ?_
        refine w_reg ?_
        refine Qv.step (u_p rfl rfl rfl) rfl rfl ?_
        refine Qv.step (u_p rfl rfl rfl) rfl rfl ?_
        refine o_nil ?_
        have hS := starL_set (sKey fr p.2[k] true) m (c10, (rwOf (sKey fr p.2[k] true) m).2 ++ [(p.2[k].1, true)])
        rw [List.map_append] at hS
        refine x_rd (2, sFr fr p.2[k] true, mset (sKey fr p.2[k] true) (c10, (rwOf (sKey fr p.2[k] true) m).2 ++ [(p.2[k].1, true)]) m) 9 (by show 2 - 2 < 2 - 1; omega) ⟨by show 2 ≤ 2; omega, hBj.set _ _ _, ?_⟩ (by simp only [← hS]; rfl) ⟨rfl, rfl, rfl, rfl, rfl, rfl, rfl, rfl, rfl, rfl, trivial⟩
        rw [← hJ]
        simp only [sOne_er fr m p.2[k] true c10]
    
    have hj2 : j = 2 := by
      have : ¬ (j : Int) < 2 := by simpa using h
      omega
    clear h
    subst hj2
    simp only at hJ
    rw [← hJ] at hI
    refine w_exit ?_
    refine x_go ?_
    refine w_reg ?_
    refine Qv.step (u_p rfl rfl rfl) rfl rfl ?_
    refine Qv.step (u_p rfl rfl rfl) rfl rfl ?_
    refine o_nil ?_
    exact x_rd (k + 1, fr, m) 8 (by show p.2.length - (k + 1) < p.2.length - k; omega) ⟨by show k + 1 ≤ _; omega, hI, by show Bnd (2 * (k + 1)) m; exact hBj⟩ rfl ⟨rfl, rfl, rfl, rfl, rfl, lkS rfl (by omega), trivial⟩
  
  have hge : ¬ k < p.2.length := by simpa using h
  clear h
  have hFO : (fr0, er m0) = sFO ([], []) p.2 := by
    rw [← hI, List.drop_eq_nil_of_le (by omega)]
    rfl
  clear hI
  have hB0 : ∀ x ∈ m0, x.2.2.length < 1000000000 := fun x hx => by have := hB x hx; omega
  obtain ⟨hTo, hTn, hTe⟩ := hT
  have hsN : sNext p = (er m0).flatMap fun x => sNx (sRow (sAt [] p.1) fr0 x) := by
    unfold sNext
    rw [← hFO]
  rw [← hFO] at hTo hTn hTe
  simp only at hTo hTn hTe
  rw [hsN]
  clear hsN hFO hB hge hk
  generalize hAT : sAt [] p.1 = AT at hTo ⊢
  have hrw : ∀ (q : Nat) (x : Int × Rw), m0[q]? = some x → (x.1, x.2.2) ∈ er m0 := fun q x hx => List.mem_map.2 ⟨x, List.mem_of_getElem? hx, rfl⟩
  let row : Nat → List Hlf := fun i => sRow AT fr0 ((er m0).getD i (0, []))
  have hrow : ∀ (q : Nat) (x : Int × Rw), m0[q]? = some x → row q = sSort (sCen AT x.1) AT fr0 x.2.2 := fun q x hx => by
    simp only [row, er, List.getD_eq_getElem?_getD, List.getElem?_map, hx]
    rfl
  have hlen : (er m0).length = m0.length := by simp [er]
  have hperm : ∀ (i : Nat) (r : List Hlf), ((er m0).map (·.2))[i]? = some r → (row i).Perm r := fun i r h => by
    simp only [List.getElem?_map] at h
    cases hx : (er m0)[i]? with
    | none => simp [hx] at h
    | some x =>
      simp only [hx, Option.map_some, Option.some.injEq] at h
      subst h
      simp only [row, List.getD_eq_getElem?_getD, hx, Option.getD_some, sRow, sSort]
      exact List.mergeSort_perm _ _
  have hnd : ((er m0).map (·.2)).flatten.Nodup := by rw [← List.flatMap_def]; exact hTn
  refine w_exit ?_
  refine x_go ?_
  refine w_seq ?_
  refine w_seq ?_
  refine w_reg ?_
  refine Qv.step (u_p rfl rfl rfl) rfl rfl ?_
  refine Qv.step (u_ld 6 rfl rfl rfl rfl rfl rfl) rfl rfl ?_
  refine o_rng 4 rfl rfl rfl rfl rfl rfl rfl rfl ?_; intro b8
  refine o_nil ?_
  refine x_go ?_
  refine w_block ?_
  
  refine w_loop (fun seen : List Nat => seen.Nodup ∧ ∀ i ∈ seen, i < m0.length) (fun seen => ([(1, .v (.pointer (some ⟨b0, 0, none⟩))), (2, .v (.pointer (some ⟨b1, 0, none⟩))), (3, .v (.pointer (some ⟨b6, 0, none⟩))), (82, .v (.pointer (some ⟨b8, 0, none⟩)))],
    [cellsR b0 36 (rPl p), cellsR b1 104 dMapNil, mapR b2 kI dV AT, mapR b3 kH DV.i fr0, mapR b4 kI fO m0, mapR b5 kH dH (seen.flatMap fun i => sNx (row i)), cellsR b6 104 (dWh b2 b3 b4 b5), starR (stS m0 seen), iterR b8 b4 m0.length seen])) (fun seen => m0.length - seen.length) [] ⟨List.nodup_nil, fun i h => by cases h⟩ ⟨rfl, rfl, rfl, rfl, trivial⟩ (by simp only [stS_nil]; rfl) ?_
  rintro seen ⟨hs1, hs2⟩
  refine w_seq ?_
  refine w_reg ?_
  refine o_nx 4 8 rfl rfl rfl rfl rfl rfl rfl rfl rfl rfl rfl rfl ?_; intro z hz1 hz2
  refine o_nil ?_
  refine x_go ?_
  refine w_seq ?_
  have hsl : seen.length ≤ m0.length := nodup_len _ _ hs1 hs2
  cases z with
  | some q =>
    obtain ⟨hq, hqs⟩ := hz1 q rfl
    have hn2 : (seen ++ [q]).Nodup := List.nodup_append.2 ⟨hs1, by simp, fun x hx y hy => by simp at hy; subst hy; exact fun e => hqs (e ▸ hx)⟩
    have hs3 : ∀ i ∈ seen ++ [q], i < m0.length := fun i hi => by
      rcases List.mem_append.1 hi with hi | hi
      · exact hs2 i hi
      · simp at hi; subst hi; exact hq
    have hsl2 : seen.length < m0.length := by
      have h2 := nodup_len m0.length (seen ++ [q]) hn2 hs3
      simp at h2
      omega
    clear hz1 hz2
    obtain ⟨x, hx⟩ : ∃ x, m0[q]? = some x := ⟨_, List.getElem?_eq_getElem hq⟩
    have hxm : m0[q]? = some (x.1, x.2) := hx
    have hrq := hrow q x hx
    skip
    refine w_ift rfl ?_
    refine w_skip ?_
    refine x_go ?_
    refine w_block ?_
    refine w_seq ?_
    refine w_reg ?_
    refine Qv.step (u_en 4 8 (hxm) rfl rfl rfl rfl rfl) rfl rfl ?_
    refine Qv.step (u_p rfl rfl rfl) rfl rfl ?_
    refine Qv.step (u_p rfl rfl rfl) rfl rfl ?_
    refine Qv.step (u_p rfl rfl rfl) rfl rfl ?_
    refine Qv.step (u_p rfl rfl rfl) rfl rfl ?_
    refine o_nil ?_
    refine x_go ?_
    refine w_seq ?_
    refine w_reg ?_
    refine Qv.step (u_p rfl rfl rfl) rfl rfl ?_
    refine Qv.step (u_ld 6 rfl rfl rfl rfl rfl rfl) rfl rfl ?_
    refine Qv.step (u_p rfl rfl rfl) rfl rfl ?_
    refine Qv.step (u_lo 2 KI x.1 (0, 0, 0) rfl rfl rfl rfl rfl rfl rfl rfl rfl rfl) rfl rfl ?_
    refine Qv.step (u_p rfl rfl rfl) rfl rfl ?_
    refine o_alloc rfl rfl rfl rfl rfl rfl ?_; intro b9
    refine o_st 9 rfl rfl rfl rfl rfl rfl rfl rfl rfl rfl (by first | rfl | kernel_rfl) ?_
    refine o_nil ?_
    refine x_go ?_
    refine w_seq ?_
    refine w_reg ?_
    refine Qv.step (u_p rfl rfl rfl) rfl rfl ?_
    refine Qv.step (u_p rfl rfl rfl) rfl rfl ?_
    refine o_sort 7 q 9 6 2 3 (stS_get hx hqs) (hTe _ (hrw q x hx)) (hB0 x (List.mem_of_getElem? hx)) (hTo _ (hrw q x hx)) rfl rfl rfl rfl rfl rfl rfl rfl rfl rfl rfl rfl rfl ?_
    refine o_nil ?_
    refine x_go ?_
    refine w_frs 7 q 12 (T := 40) (k := 2) (v := x.2.1) (rows := (row q).map rH) (by
      rw [← hrq]
      have h8 : q < (stS m0 seen).length := by simpa [stS] using hq
      simp [h8]) rfl rfl ?_
    refine w_res 7 (starR (stS m0 (seen ++ [q]))) rfl (fun A w h => by
      have e := stS_set (m := m0) (seen := seen) (q := q) (rowR x.2.1 40 2 ((sSort (sCen AT x.1) AT fr0 x.2.2).map rH))
      rw [← e]; exact h) (fun b h => by
      have e := stS_set (m := m0) (seen := seen) (q := q) (rowR x.2.1 40 2 ((sSort (sCen AT x.1) AT fr0 x.2.2).map rH))
      rw [← e] at h; exact h) ?_
    have hrl : (row q).length < 1000000000 := by rw [hrq, sSort, (List.mergeSort_perm _ _).length_eq]; exact hB0 x (List.mem_of_getElem? hx)
    refine w_seq ?_
    refine w_reg ?_
    refine Qv.step (u_p rfl rfl rfl) rfl rfl ?_
    refine Qv.step (u_len rfl rfl rfl rfl rfl rfl) rfl rfl ?_
    refine Qv.step (u_p rfl rfl rfl) rfl rfl ?_
    refine o_nil ?_
    refine x_go ?_
    refine w_block ?_
    
    refine w_loop (fun i : Nat => i ≤ (row q).length) (fun i => ([(1, .v (.pointer (some ⟨b0, 0, none⟩))), (2, .v (.pointer (some ⟨b1, 0, none⟩))), (3, .v (.pointer (some ⟨b6, 0, none⟩))), (82, .v (.pointer (some ⟨b8, 0, none⟩))), (12, .sl 2 ((row q).map rH)), (96, .sl 2 ((row q).map rH)), (97, .i (row q).length), (98, .i i)],
      [cellsR b0 36 (rPl p), cellsR b1 104 dMapNil, mapR b2 kI dV AT, mapR b3 kH DV.i fr0, mapR b4 kI fO m0, mapR b5 kH dH ((seen.flatMap fun i => sNx (row i)) ++ (sNx (row q)).take i), cellsR b6 104 (dWh b2 b3 b4 b5), starR (stS m0 (seen ++ [q])), iterR b8 b4 m0.length (seen ++ [q]), cellsR b9 50 (rPt (sCen AT x.1))])) (fun i => (row q).length - i) 0 (Nat.zero_le _) ⟨rfl, rfl, rfl, rfl, rfl, rfl, lenS rfl, rfl, trivial⟩ (by simp only [List.take_zero, List.append_nil]; rfl) ?_
    rintro i hi
    refine w_seq ?_
    refine w_reg ?_
    refine Qv.step (u_p rfl rfl rfl) rfl rfl ?_
    refine o_nil ?_
    refine x_go ?_
    refine w_seq ?_
    refine w_if rfl (fun h => ?_) (fun h => ?_)
    · have hlt : i < (row q).length := by simpa using h
      clear h
      have hm : (i + (row q).length - 1) % (row q).length < (row q).length := Nat.mod_lt _ (by omega)
      have hfr := nx_fresh (srt := row) hnd hperm (seen := seen) (fun i hi => by simpa [hlen] using hs2 i hi) (q := q) (by simpa [hlen] using hq) hqs hlt
      refine w_skip ?_
      refine x_go ?_
      refine w_seq ?_
      refine w_block ?_
      refine w_seq ?_
      refine w_reg ?_
      refine Qv.step (u_p rfl rfl rfl) rfl rfl ?_
      refine Qv.step (u_ix rfl rfl rfl rfl rfl rfl rfl rfl (by omega) (by simp; omega)) rfl rfl ?_
      refine Qv.step (d := .agg [_, _]) (.as (u_lde (r := rH (row q)[i]) (by simp [hlt]) rfl rfl rfl rfl rfl) rfl) rfl rfl ?_
      refine o_alloc rfl rfl rfl rfl rfl rfl ?_; intro b10
      refine Qv.step (u_p rfl rfl rfl) rfl rfl ?_
      refine o_st 10 rfl rfl rfl rfl rfl rfl rfl rfl rfl rfl (by first | rfl | kernel_rfl) ?_
      refine o_nil ?_
      refine x_go ?_
      refine d_begin ?_
      refine d_q [] (by kernel_rfl) rfl (fun _ _ _ => .onk (L' := []) rfl (u_p rfl rfl rfl) rfl) ?_
      refine d_q [0] (by kernel_rfl) rfl (fun _ _ _ => .onk (L' := [(103, _)]) rfl (u_ld 6 rfl rfl rfl rfl rfl rfl) rfl) ?_
      refine d_q (d := .agg [_, _]) [] (by kernel_rfl) rfl (fun _ _ _ => .onk (L' := []) rfl (u_ld 10 rfl rfl rfl rfl rfl rfl) rfl) ?_
      refine d_q [2] (by kernel_rfl) rfl (fun _ _ _ => .onk (L' := [(105, _)]) rfl (u_call (Twin_ok (row q)[i]) Try.call54 rfl rfl rfl) rfl) ?_
      refine d_q [] (by kernel_rfl) rfl (fun _ _ _ => .onk (L' := []) rfl (u_p rfl rfl rfl) rfl) ?_
      refine d_q [] (by kernel_rfl) rfl (fun _ _ _ => .onk (L' := []) rfl (u_p rfl rfl rfl) rfl) ?_
      refine d_q [] (by kernel_rfl) rfl (fun _ _ _ => .onk (L' := []) rfl (u_p rfl rfl rfl) rfl) ?_
      refine d_q [6] (by kernel_rfl) rfl (fun _ _ _ => .onk (L' := [(109, _)]) rfl (u_len rfl rfl rfl rfl rfl rfl) rfl) ?_
      refine d_q (d := .i ((i + (row q).length : Nat) : Int)) [5, 7] (by kernel_rfl) rfl (fun _ _ _ => .onk (L' := [(108, _), (110, _)]) rfl (u_p rfl rfl rfl) (congrArg (fun n : Int => DV.i n) (by rw [List.length_map, wrapI (by omega) (by omega)]; omega))) ?_
      refine d_q (d := .i ((i + (row q).length - 1 : Nat) : Int)) [8] (by kernel_rfl) rfl (fun _ _ _ => .onk (L' := [(111, _)]) rfl (u_p rfl rfl rfl) (congrArg (fun n : Int => DV.i n) (by rw [wrapI (by omega) (by omega)]; omega))) ?_
      refine d_q [] (by kernel_rfl) rfl (fun _ _ _ => .onk (L' := []) rfl (u_p rfl rfl rfl) rfl) ?_
      refine d_q [10] (by kernel_rfl) rfl (fun _ _ _ => .onk (L' := [(113, _)]) rfl (u_len rfl rfl rfl rfl rfl rfl) rfl) ?_
      refine d_q (d := .i (((i + (row q).length - 1) % (row q).length : Nat) : Int)) [9, 11] (by kernel_rfl) rfl (fun _ _ _ => .onk (L' := [(112, _), (114, _)]) rfl (u_rem rfl rfl rfl rfl (by rw [List.length_map]; omega)) (congrArg (fun n : Int => DV.i n) (by rw [List.length_map, remN]))) ?_
      refine d_q [4, 12] (by kernel_rfl) rfl (fun _ _ _ => .onk (L' := [(107, _), (115, _)]) rfl (u_ix rfl rfl rfl rfl rfl rfl rfl rfl (Int.natCast_nonneg _) (by rw [List.length_map]; exact Int.ofNat_lt.2 hm)) rfl) ?_
      refine d_q (d := .agg [_, _]) [13] (by kernel_rfl) rfl (fun _ _ _ => .onk (L' := [(116, _)]) rfl (u_lde (r := rH ((row q).getD ((i + (row q).length - 1) % (row q).length) (0, false))) (by rw [Int.toNat_natCast]; simp [hm]) rfl rfl rfl rfl rfl) rfl) ?_
      refine d_end (by kernel_rfl) (by kernel_rfl) (by kernel_rfl) (fun bs _ => so_as (L' := [(103, _), (104, _), (105, _), (106, _), (107, _), (108, _), (109, _), (110, _), (111, _), (112, _), (113, _), (114, _), (115, _), (116, _), (117, _)]) (G' := []) rfl rfl ?_)
      refine o_mu 5 KH (sTwin (row q)[i]) ((row q).getD ((i + (row q).length - 1) % (row q).length) (0, false)) rfl rfl rfl rfl rfl rfl rfl rfl rfl rfl rfl ?_
      refine o_nil ?_
      refine x_go ?_
      refine w_reg ?_
      refine Qv.step (u_p rfl rfl rfl) rfl rfl ?_
      refine Qv.step (u_p rfl rfl rfl) rfl rfl ?_
      refine o_nil ?_
      have hmm : mset (sTwin (row q)[i]) ((row q).getD ((i + (row q).length - 1) % (row q).length) (0, false)) ((seen.flatMap fun i => sNx (row i)) ++ (sNx (row q)).take i) = (seen.flatMap fun i => sNx (row i)) ++ (sNx (row q)).take (i + 1) := by
        rw [mset_new hfr, sNx_take hlt, List.append_assoc]
        simp only [sNxi, List.getD_eq_getElem?_getD, List.getElem?_eq_getElem hlt, Option.getD_some]
      exact x_rd (i + 1) 10 (by omega) (by show i + 1 ≤ _; omega) (by simp only [← hmm]; rfl) ⟨rfl, rfl, rfl, rfl, rfl, rfl, rfl, lkS rfl (by omega), trivial⟩
    
    have hge : ¬ i < (row q).length := by simpa using h
    clear h
    have hii : i = (row q).length := by have : i ≤ (row q).length := hi; omega
    subst hii
    refine w_exit ?_
    have hf2 : (seen.flatMap fun i => sNx (row i)) ++ (sNx (row q)).take (row q).length = (seen ++ [q]).flatMap fun i => sNx (row i) := by
      rw [List.flatMap_append, List.take_of_length_le (by rw [sNx_len]; exact Nat.le_refl _)]
      simp only [List.flatMap_cons, List.flatMap_nil, List.append_nil]
    exact x_rd (seen ++ [q]) 9 (by show m0.length - (seen ++ [q]).length < m0.length - seen.length; simp; omega) ⟨hn2, hs3⟩ (by simp only [hf2]; rfl) ⟨rfl, rfl, rfl, rfl, trivial⟩
  | none =>
    skip
    refine w_iff rfl ?_
    have hpm : seen.Perm (List.range m0.length) := (List.perm_ext_iff_of_nodup hs1 List.nodup_range).2 fun i => ⟨fun h => List.mem_range.2 (hs2 i h), fun h => hz2 rfl i (List.mem_range.1 h)⟩
    have hfin : (seen.flatMap fun i => sNx (row i)).Perm ((er m0).flatMap fun x => sNx (sRow AT fr0 x)) := by
      rw [range_flat _ (0, []) (er m0), hlen]
      exact hpm.flatMap_right _
    refine w_exit ?_
    refine x_go ?_
    refine w_seq ?_
    refine w_reg ?_
    refine Qv.step (d := .agg [_, _, _, _]) (.as (u_ld 6 rfl rfl rfl rfl rfl rfl) rfl) rfl rfl ?_
    refine o_st 1 rfl rfl rfl rfl rfl rfl rfl rfl rfl rfl (by first | rfl | kernel_rfl) ?_
    refine o_nil ?_
    refine x_go ?_
    refine w_cel 1 0 .un rfl rfl (un_of _ rfl) ?_
    refine w_cel 1 1 .un rfl rfl (un_of _ rfl) ?_
    refine w_cel 1 2 .un rfl rfl (un_of _ rfl) ?_
    refine w_frcm 5 1 3 hfin rfl rfl rfl rfl ?_
    exact w_ret (x_r1 rfl (rs_c 1 rfl rfl rfl rfl) rfl)
end Go.Proofs.Ytcdakcemcehfiaa
