/- spin: contracts, fourth part: Rings. -/
import Derived.Test.YtcdakcemcehfiaaTrc
namespace Go.Proofs.Ytcdakcemcehfiaa
open Go
set_option maxRecDepth 100000

abbrev Met := List (Hlf × Bool)
def isMet (met : Met) (h : Hlf) : Bool := (mget h met).getD false
def sNxt (nx : List (Hlf × Hlf)) (h : Hlf) : Hlf := (mget h nx).getD (0, false)
/-- A ring, as far as it has not been met: n: so many steps at most. -/
def sRing (nx : List (Hlf × Hlf)) : Nat → Met → Hlf → List Hlf × Met
  | 0, met, _ => ([], met)
  | n + 1, met, h => if isMet met h then ([], met) else (h :: (sRing nx n (mset h true met) (sNxt nx h)).1, (sRing nx n (mset h true met) (sNxt nx h)).2)
def sOneR (nx : List (Hlf × Hlf)) (F : Nat) (s : List (List Hlf) × Met) (h : Hlf) : List (List Hlf) × Met :=
  (if (sRing nx F s.2 h).1 = [] then s.1 else s.1 ++ [(sRing nx F s.2 h).1], (sRing nx F s.2 h).2)
def sRgs (nx : List (Hlf × Hlf)) (F : Nat) (s : List (List Hlf) × Met) (es : List Edg) : List (List Hlf) × Met := es.foldl (fun s e => sOneR nx F (sOneR nx F s (e.1, false)) (e.1, true)) s
def hvs (es : List Edg) : List Hlf := es.flatMap fun e => [(e.1, false), (e.1, true)]
theorem hvs_len : ∀ es : List Edg, (hvs es).length = 2 * es.length
  | [] => rfl
  | e :: es => by
    have := hvs_len es
    simp only [hvs, List.flatMap_cons, List.length_append, List.length_cons, List.length_nil] at this ⊢
    omega
theorem hvs_mem {es : List Edg} {e : Edg} (h : e ∈ es) (b : Bool) : (e.1, b) ∈ hvs es := List.mem_flatMap.2 ⟨e, h, by cases b <;> simp⟩
def hvU (es : List Edg) : List Hlf := (0, false) :: hvs es
def sRings (p : Pln) : List (List Hlf) := (sRgs (sNext p) (hvU p.2).length ([], []) p.2).1

theorem mset_mem {α β : Type} [DecidableEq α] {a : α} {v : β} : ∀ {m : List (α × β)} {x : α × β}, x ∈ mset a v m → x = (a, v) ∨ x ∈ m
  | [], x, h => by simp [mset] at h; exact .inl h
  | y :: m, x, h => by
    simp only [mset] at h
    split at h
    · rcases List.mem_cons.1 h with h | h
      · exact .inl h
      · exact .inr (List.mem_cons_of_mem _ h)
    · rcases List.mem_cons.1 h with h | h
      · exact .inr (by simp [h])
      · exact (mset_mem h).imp id (List.mem_cons_of_mem _)
theorem mget_in {α β : Type} [DecidableEq α] {a : α} {v : β} : ∀ {m : List (α × β)}, mget a m = some v → (a, v) ∈ m
  | [], h => by cases h
  | x :: m, h => by
    simp only [mget] at h
    split at h
    · rename_i e
      simp only [Option.some.injEq] at h
      subst e h
      exact List.mem_cons_self
    · exact List.mem_cons_of_mem _ (mget_in h)
theorem sOne_mem {s : FO} {e : Edg} {b : Bool} {P : Hlf → Prop} (hs : ∀ x ∈ s.2, ∀ h ∈ x.2, P h) (he : P (e.1, b)) : ∀ x ∈ (sOne s e b).2, ∀ h ∈ x.2, P h := by
  intro x hx h hh
  rcases mset_mem hx with rfl | hx
  · rcases List.mem_append.1 hh with hh | hh
    · cases hg : mget (sKey s.1 e b) s.2 with
      | none => rw [hg] at hh; simp at hh
      | some l => rw [hg] at hh; exact hs _ (mget_in hg) h hh
    · rw [List.mem_singleton.1 hh]; exact he
  · exact hs x hx h hh
theorem sFO_mem {P : Hlf → Prop} : ∀ (es : List Edg) (s : FO), (∀ x ∈ s.2, ∀ h ∈ x.2, P h) → (∀ h ∈ hvs es, P h) → ∀ x ∈ (sFO s es).2, ∀ h ∈ x.2, P h
  | [], s, hs, _ => hs
  | e :: es, s, hs, he => by
    have h1 : P (e.1, false) := he _ (by simp [hvs])
    have h2 : P (e.1, true) := he _ (by simp [hvs])
    exact sFO_mem es _ (sOne_mem (sOne_mem hs h1) h2) (fun h hh => he h (by simp only [hvs, List.flatMap_cons, List.mem_append] at hh ⊢; exact .inr hh))
theorem sNext_mem (p : Pln) {x : Hlf × Hlf} (hx : x ∈ sNext p) : x.2 ∈ hvU p.2 := by
  unfold sNext at hx
  obtain ⟨y, hy, hx⟩ := List.mem_flatMap.1 hx
  obtain ⟨i, _, rfl⟩ := List.mem_map.1 hx
  simp only [sNxi]
  generalize hl : sRow (sAt [] p.1) (sFO ([], []) p.2).1 y = l
  have hm : ∀ h ∈ l, h ∈ hvs p.2 := fun h hh => by
    rw [← hl] at hh
    exact sFO_mem (P := fun h => h ∈ hvs p.2) p.2 ([], []) (by simp) (fun h hh => hh) y hy h ((List.mergeSort_perm _ _).mem_iff.1 hh)
  rw [List.getD_eq_getElem?_getD]
  cases hg : l[(i + l.length - 1) % l.length]? with
  | none => exact List.mem_cons_self
  | some h => exact List.mem_cons_of_mem _ (hm h (List.mem_of_getElem? hg))
theorem sNxt_mem (p : Pln) (h : Hlf) : sNxt (sNext p) h ∈ hvU p.2 := by
  unfold sNxt
  cases hg : mget h (sNext p) with
  | none => exact List.mem_cons_self
  | some v => exact sNext_mem p (mget_in hg)

/-- So many have not been met. -/
def cntU (U : List Hlf) (met : Met) : Nat := U.countP fun u => !isMet met u
theorem isMet_set (met : Met) (h u : Hlf) : isMet (mset h true met) u = (isMet met u || decide (u = h)) := by
  unfold isMet
  rw [mget_mset]
  by_cases e : u = h
  · simp [e]
  · simp [e]
theorem cntU_lt {U : List Hlf} {met : Met} {h : Hlf} (hU : h ∈ U) (hn : isMet met h = false) : cntU U (mset h true met) < cntU U met := by
  unfold cntU
  induction U with
  | nil => cases hU
  | cons u U ih =>
    have hle : U.countP (fun u => !isMet (mset h true met) u) ≤ U.countP fun u => !isMet met u := by
      apply List.countP_mono_left
      intro x _ hx
      rw [isMet_set] at hx
      simp at hx ⊢
      exact hx.1
    rw [List.countP_cons, List.countP_cons]
    rcases List.mem_cons.1 hU with rfl | hU
    · rw [isMet_set, hn]; simp; omega
    · have := ih hU
      rw [isMet_set]
      by_cases e : u = h
      · subst e; rw [hn]; simp; omega
      · simp only [e, decide_false, Bool.or_false]; omega

@[reducible] def rRg (r : List Hlf) : List DV := [.sl 2 (r.map rH)]
theorem sRing_len (nx : List (Hlf × Hlf)) : ∀ (n : Nat) (met : Met) (h : Hlf), (sRing nx n met h).1.length ≤ n
  | 0, _, _ => Nat.le_refl _
  | n + 1, met, h => by
    simp only [sRing]
    split
    · exact Nat.zero_le _
    · have := sRing_len nx n (mset h true met) (sNxt nx h)
      simp; omega
theorem sOneR_len (nx : List (Hlf × Hlf)) (F : Nat) (s : List (List Hlf) × Met) (h : Hlf) : (sOneR nx F s h).1.length ≤ s.1.length + 1 := by
  unfold sOneR
  simp only
  split <;> simp

set_option maxHeartbeats 1000000 in
theorem Rings_ok (p : Pln) (hp : p.1.length < 100000000) (hp2 : p.2.length < 100000000) (hT : pRight p = true → TOk p) : FunOk cx 31 [dPl p] (.sl 1 ((if pRight p then sRings p else []).map rRg)) := by
  refine fn_ok (c := _) _ Try.func31 rfl Try.ntmps31 rfl fun A w => ?_
  refine w_seq ?_
  refine w_reg ?_
  refine o_box rfl rfl rfl rfl rfl rfl ?_; intro b0
  refine Qv.step (u_p rfl rfl rfl) rfl rfl ?_
  refine o_nil ?_
  refine x_go ?_
  refine w_seq ?_
  refine w_seq ?_
  refine w_reg ?_
  refine Qv.step (d := .agg [_, _]) (.as (u_ld 0 rfl rfl rfl rfl rfl rfl) rfl) rfl rfl ?_
  refine Qv.step (u_call (Right_ok p (by show p.1.length < _; omega) (by show p.2.length < _; omega)) Try.call14 rfl rfl rfl) rfl rfl ?_
  refine Qv.step (u_p rfl rfl rfl) rfl rfl ?_
  refine o_nil ?_
  refine x_go ?_
  refine w_if rfl (fun h => ?_) (fun h => ?_)
  · refine w_seq ?_
    refine w_reg ?_
    refine Qv.step (u_p rfl rfl rfl) rfl rfl ?_
    refine o_nil ?_
    refine x_go ?_
    have h' : pRight p = false := by simpa using h
    refine w_ret (x_r1 rfl (rs_nil (k := 1) rfl) ?_)
    simp [h']
  
  have hR : pRight p = true := by simpa using h
  clear h
  have hT := hT hR
  refine w_skip ?_
  refine x_go ?_
  refine w_seq ?_
  refine w_reg ?_
  refine Qv.step (d := .agg [_, _]) (.as (u_ld 0 rfl rfl rfl rfl rfl rfl) rfl) rfl rfl ?_
  refine Qv.step (u_call (turn_ok' p hp hp2 hT) Try.call38 rfl rfl rfl) rfl rfl ?_
  refine o_alloc rfl rfl rfl rfl rfl rfl ?_; intro b1
  refine o_st 1 rfl rfl rfl rfl rfl rfl (by show (true && (true && (true && (one1 (mpD kH dH (sNext p)) && true)))) = true; rw [one1_mpD]; rfl) rfl rfl rfl rfl ?_
  refine o_nil ?_
  refine x_go ?_
  refine w_seq ?_
  refine w_reg ?_
  refine o_mk kH DV.b rfl rfl rfl rfl ?_; intro b2
  refine Qv.step (u_p rfl rfl rfl) rfl rfl ?_
  refine o_nil ?_
  refine x_go ?_
  refine w_seq ?_
  refine w_reg ?_
  refine Qv.step (u_p rfl rfl rfl) rfl rfl ?_
  refine o_nil ?_
  refine x_go ?_
  refine w_know 5 _ rfl nil_os ?_
  refine w_nil 72 1 ?_
  skip
  refine w_seq ?_
  refine w_seq ?_
  refine w_reg ?_
  refine Qv.step (u_p rfl rfl rfl) rfl rfl ?_
  refine Qv.step (u_ld 0 rfl rfl rfl rfl rfl rfl) rfl rfl ?_
  refine Qv.step (u_len rfl rfl rfl rfl rfl rfl) rfl rfl ?_
  refine Qv.step (u_p rfl rfl rfl) rfl rfl ?_
  refine o_nil ?_
  refine x_go ?_
  refine w_block ?_
  
  have hUm : ∀ h, h ∈ hvs p.2 → h ∈ hvU p.2 := fun h hh => List.mem_cons_of_mem _ hh
  have hUl : (hvU p.2).length < 1000000000 := by
    have := hvs_len p.2
    simp only [hvU, List.length_cons]
    omega
  refine w_loop (fun s : Nat × Met × Value × List (List Hlf) => s.1 ≤ p.2.length ∧ s.2.2.2.length ≤ 2 * s.1 ∧ sRgs (sNext p) (hvU p.2).length (s.2.2.2, s.2.1) (p.2.drop s.1) = sRgs (sNext p) (hvU p.2).length ([], []) p.2)
    (fun s => ([(1, .v (.pointer (some ⟨b0, 0, none⟩))), (3, .v (.pointer (some ⟨b1, 0, none⟩))), (4, .v (.map (some b2))), (5, .os s.2.2.1), (19, .sl 3 (p.2.map rE)), (20, .i p.2.length), (21, .i s.1)],
    [cellsR b0 36 (rPl p), cellsR b1 104 [.un, .un, .un, mpD kH dH (sNext p)], mapR b2 kH DV.b s.2.1, rowR s.2.2.1 72 1 (s.2.2.2.map rRg)])) (fun s => p.2.length - s.1) (0, [], .slice none 0 0, []) ⟨Nat.zero_le _, Nat.zero_le _, rfl⟩ ⟨rfl, rfl, rfl, rfl, rfl, lenS rfl, rfl, trivial⟩ rfl ?_
  rintro ⟨k, met0, v0, outs0⟩ ⟨hk, hol, hI⟩
  simp only at hk hol hI
  refine w_seq ?_
  refine w_reg ?_
  refine Qv.step (u_p rfl rfl rfl) rfl rfl ?_
  refine o_nil ?_
  refine x_go ?_
  refine w_seq ?_
  refine w_if rfl (fun h => ?_) (fun h => ?_)
  · have hlt : k < p.2.length := by simpa using h
    rw [List.drop_eq_getElem_cons hlt, sRgs, List.foldl_cons] at hI
    clear h
    refine w_skip ?_
    refine x_go ?_
    refine w_seq ?_
    refine w_block ?_
    refine w_seq ?_
    refine w_reg ?_
    refine Qv.step (u_ix rfl rfl rfl rfl rfl rfl rfl rfl (by omega) (by simp; omega)) rfl rfl ?_
    refine Qv.step (d := .agg [_, _, _]) (.as (u_lde (r := rE p.2[k]) (by simp [hlt]) rfl rfl rfl rfl rfl) rfl) rfl rfl ?_
    refine o_alloc rfl rfl rfl rfl rfl rfl ?_; intro b4
    refine o_st 4 rfl rfl rfl rfl rfl rfl rfl rfl rfl rfl (by first | rfl | kernel_rfl) ?_
    refine o_nil ?_
    refine x_go ?_
    refine w_seq ?_
    refine w_reg ?_
    refine Qv.step (q_bsl rfl rfl rfl rfl rfl rfl rfl rfl rfl rfl rfl) rfl rfl ?_
    refine Qv.step (u_len rfl rfl rfl rfl rfl rfl) rfl rfl ?_
    refine Qv.step (u_p rfl rfl rfl) rfl rfl ?_
    refine o_nil ?_
    refine x_go ?_
    refine w_block ?_
    
    refine w_loop (fun s : Nat × Met × Value × List (List Hlf) => s.1 ≤ 2 ∧ s.2.2.2.length ≤ 2 * k + s.1 ∧ (match s.1 with | 0 => sOneR (sNext p) (hvU p.2).length (sOneR (sNext p) (hvU p.2).length (s.2.2.2, s.2.1) (p.2[k].1, false)) (p.2[k].1, true) | 1 => sOneR (sNext p) (hvU p.2).length (s.2.2.2, s.2.1) (p.2[k].1, true) | _ => (s.2.2.2, s.2.1)) = sOneR (sNext p) (hvU p.2).length (sOneR (sNext p) (hvU p.2).length (outs0, met0) (p.2[k].1, false)) (p.2[k].1, true))
      (fun s => ([(1, .v (.pointer (some ⟨b0, 0, none⟩))), (3, .v (.pointer (some ⟨b1, 0, none⟩))), (4, .v (.map (some b2))), (5, .os s.2.2.1), (19, .sl 3 (p.2.map rE)), (20, .i p.2.length), (21, .i k), (7, .v (.pointer (some ⟨b4, 0, none⟩))), (25, .sl 1 [[.b false], [.b true]]), (26, .i ((2 : Nat) : Int)), (27, .i (s.1 : Int))],
      [cellsR b0 36 (rPl p), cellsR b1 104 [.un, .un, .un, mpD kH dH (sNext p)], mapR b2 kH DV.b s.2.1, rowR s.2.2.1 72 1 (s.2.2.2.map rRg), cellsR b4 55 (rE p.2[k])])) (fun s => 2 - s.1) (0, met0, v0, outs0) ⟨Nat.zero_le _, hol, rfl⟩ ⟨rfl, rfl, rfl, rfl, rfl, rfl, rfl, rfl, rfl, rfl, rfl, trivial⟩ rfl ?_
    rintro ⟨j, met, v, outs⟩ ⟨hj, hoj, hJ⟩
    simp only at hj hoj hJ
    refine w_seq ?_
    refine w_reg ?_
    refine Qv.step (u_p rfl rfl rfl) rfl rfl ?_
    refine o_nil ?_
    refine x_go ?_
    refine w_seq ?_
    refine w_if rfl (fun h => ?_) (fun h => ?_)
    · have hj2 : j = 0 ∨ j = 1 := by
        have : (j : Int) < 2 := by simpa using h
        omega
      clear h
      rcases hj2 with rfl | rfl
      · skip
        refine w_skip ?_
        refine x_go ?_
        refine w_seq ?_
        refine w_block ?_
        refine w_seq ?_
        refine w_reg ?_
        refine Qv.step (u_ix rfl rfl rfl rfl rfl rfl rfl rfl (Int.natCast_nonneg _) (by simp)) rfl rfl ?_
        refine Qv.step (u_lde (r := [.b false]) rfl rfl rfl rfl rfl rfl) rfl rfl ?_
        refine Qv.step (u_p rfl rfl rfl) rfl rfl ?_
        refine o_nil ?_
        refine x_go ?_
        refine w_seq ?_
        refine w_reg ?_
        refine Qv.step (u_p rfl rfl rfl) rfl rfl ?_
        refine o_nil ?_
        refine x_go ?_
        refine w_know 10 _ rfl nil_os ?_
        refine w_nil 40 2 ?_
        skip
        refine w_seq ?_
        refine w_seq ?_
        refine w_reg ?_
        refine Qv.step (u_p rfl rfl rfl) rfl rfl ?_
        refine Qv.step (u_ld 4 rfl rfl rfl rfl rfl rfl) rfl rfl ?_
        refine Qv.step (u_p rfl rfl rfl) rfl rfl ?_
        refine Qv.step (d := .agg [_, _]) (.as (u_bst rfl rfl rfl rfl rfl rfl rfl rfl) rfl) rfl rfl ?_
        refine o_alloc rfl rfl rfl rfl rfl rfl ?_; intro b6
        refine o_st 6 rfl rfl rfl rfl rfl rfl rfl rfl rfl rfl (by first | rfl | kernel_rfl) ?_
        refine o_nil ?_
        refine x_go ?_
        refine w_block ?_
        
        refine w_loop (fun s : Nat × Met × Hlf × Value × List Hlf × Nat => cntU (hvU p.2) s.2.1 ≤ s.1 ∧ s.2.2.1 ∈ hvU p.2 ∧ s.2.2.2.2.1.length + s.1 ≤ (hvU p.2).length ∧ (s.2.2.2.2.1 ++ (sRing (sNext p) s.1 s.2.1 s.2.2.1).1, (sRing (sNext p) s.1 s.2.1 s.2.2.1).2) = sRing (sNext p) (hvU p.2).length met (p.2[k].1, false))
          (fun s => ([(1, .v (.pointer (some ⟨b0, 0, none⟩))), (3, .v (.pointer (some ⟨b1, 0, none⟩))), (4, .v (.map (some b2))), (5, .os v), (19, .sl 3 (p.2.map rE)), (20, .i p.2.length), (21, .i k), (7, .v (.pointer (some ⟨b4, 0, none⟩))), (25, .sl 1 [[.b false], [.b true]]), (26, .i ((2 : Nat) : Int)), (27, .i ((0 : Nat) : Int)), (10, .os s.2.2.2.1), (11, .v (.pointer (some ⟨s.2.2.2.2.2, 0, none⟩)))],
          [cellsR b0 36 (rPl p), cellsR b1 104 [.un, .un, .un, mpD kH dH (sNext p)], mapR b2 kH DV.b s.2.1, rowR v 72 1 (outs.map rRg), cellsR b4 55 (rE p.2[k]), rowR s.2.2.2.1 40 2 (s.2.2.2.2.1.map rH), cellsR s.2.2.2.2.2 40 (rH s.2.2.1)])) (fun s => s.1) ((hvU p.2).length, met, (p.2[k].1, false), .slice none 0 0, [], b6) ⟨List.countP_le_length, hUm _ (hvs_mem (List.getElem_mem hlt) _), by simp, by simp⟩ ⟨rfl, rfl, rfl, rfl, rfl, rfl, rfl, rfl, rfl, rfl, rfl, rfl, rfl, trivial⟩ rfl ?_
        rintro ⟨n, met1, h1, rv, ring, bh⟩ ⟨hc, hU, hl, hr⟩
        simp only at hc hU hl hr
        refine w_seq ?_
        refine w_seq ?_
        refine w_reg ?_
        refine Qv.step (u_p rfl rfl rfl) rfl rfl ?_
        refine Qv.step (d := .agg [_, _]) (.as (u_ld 6 rfl rfl rfl rfl rfl rfl) rfl) rfl rfl ?_
        refine Qv.step (u_lo 2 KH h1 false rfl rfl rfl rfl rfl rfl rfl rfl rfl rfl) rfl rfl ?_
        refine Qv.step (u_p rfl rfl rfl) rfl rfl ?_
        refine o_nil ?_
        refine x_go ?_
        refine w_if rfl (fun h => ?_) (fun h => ?_)
        · have hn : isMet met1 h1 = false := by simpa [isMet] using h
          clear h
          have hlt2 := cntU_lt hU hn
          obtain ⟨n, rfl⟩ : ∃ n', n = n' + 1 := ⟨n - 1, by omega⟩
          rw [sRing, if_neg (by rw [hn]; simp)] at hr
          refine w_skip ?_
          refine x_go ?_
          refine w_seq ?_
          refine w_block ?_
          refine w_seq ?_
          refine w_reg ?_
          refine Qv.step (u_p rfl rfl rfl) rfl rfl ?_
          refine Qv.step (d := .agg [_, _]) (.as (u_ld 6 rfl rfl rfl rfl rfl rfl) rfl) rfl rfl ?_
          refine o_mu 2 KH h1 true rfl rfl rfl rfl rfl rfl rfl rfl rfl rfl rfl ?_
          refine o_nil ?_
          refine x_go ?_
          refine w_reg ?_
          refine Qv.step (u_p rfl rfl rfl) rfl rfl ?_
          refine Qv.step (d := .agg [_, _]) (.as (u_ld 6 rfl rfl rfl rfl rfl rfl) rfl) rfl rfl ?_
          refine Qv.step (q_bsl rfl rfl rfl rfl rfl rfl rfl rfl rfl rfl rfl) rfl rfl ?_
          refine o_app 5 (L := 2000000000) (rows2 := [rH h1]) (by simp; omega) rfl rfl rfl rfl rfl rfl rfl rfl rfl rfl rfl rfl rfl rfl (by simp [one1]) ?_; intro rv2
          refine Qv.step (u_p rfl rfl rfl) rfl rfl ?_
          refine o_nil ?_
          refine x_go ?_
          refine w_seq ?_
          refine w_seq ?_
          refine w_reg ?_
          refine Qv.step (d := .agg [_, _]) (.as (u_ld 6 rfl rfl rfl rfl rfl rfl) rfl) rfl rfl ?_
          refine o_nil ?_
          refine x_go ?_
          refine w_reg ?_
          refine o_alloc rfl rfl rfl rfl rfl rfl ?_; intro b7
          refine o_st 7 rfl rfl rfl rfl rfl rfl rfl rfl rfl rfl (by first | rfl | kernel_rfl) ?_
          refine o_nil ?_
          refine x_go ?_
          refine w_reg ?_
          refine Qv.step (u_p rfl rfl rfl) rfl rfl ?_
          refine Qv.step (u_ld 1 rfl rfl rfl rfl rfl rfl) rfl rfl ?_
          refine Qv.step (d := .agg [_, _]) (.as (u_ld 7 rfl rfl rfl rfl rfl rfl) rfl) rfl rfl ?_
          refine Qv.step (u_lr KH h1 (0, false) rfl rfl rfl rfl rfl rfl rfl rfl rfl) rfl rfl ?_
          refine o_st 7 rfl rfl rfl rfl rfl rfl rfl rfl rfl rfl (by first | rfl | kernel_rfl) ?_
          refine o_nil ?_
          refine x_drop 6 (x_rd (n, mset h1 true met1, sNxt (sNext p) h1, rv2, ring ++ [h1], b7) 7 (by show n < n + 1; omega) ⟨by show cntU (hvU p.2) (mset h1 true met1) ≤ n; omega, sNxt_mem p h1, by show (ring ++ [h1]).length + n ≤ _; simp; omega, by rw [← hr]; simp⟩ (by simp only [List.map_append, List.map_cons, List.map_nil]; rfl) ⟨rfl, rfl, rfl, rfl, rfl, rfl, rfl, rfl, rfl, rfl, rfl, rfl, rfl, trivial⟩)
        
        have hn : isMet met1 h1 = true := by simpa [isMet] using h
        clear h
        have hex : sRing (sNext p) n met1 h1 = ([], met1) := by
          cases n with
          | zero => rfl
          | succ n => rw [sRing, if_pos hn]
        rw [hex] at hr
        simp only [List.append_nil] at hr
        have hrl : ring.length ≤ (hvU p.2).length := by omega
        refine w_frr 5 10 rfl rfl ?_
        refine w_exit ?_
        refine x_go ?_
        refine w_seq ?_
        refine w_reg ?_
        refine Qv.step (u_p rfl rfl rfl) rfl rfl ?_
        refine Qv.step (u_len rfl rfl rfl rfl rfl rfl) rfl rfl ?_
        refine Qv.step (u_p rfl rfl rfl) rfl rfl ?_
        refine o_nil ?_
        refine x_go ?_
        refine w_if rfl (fun h => ?_) (fun h => ?_)
        · have hne : ring ≠ [] := fun e => by subst e; simp at h
          clear h
          have hso : sOneR (sNext p) (hvU p.2).length (outs, met) (p.2[k].1, false) = (outs ++ [ring], met1) := by
            simp only [sOneR, ← hr, hne, if_false]
          refine w_reg ?_
          refine Qv.step (u_p rfl rfl rfl) rfl rfl ?_
          refine Qv.step (u_p rfl rfl rfl) rfl rfl ?_
          refine Qv.step (q_bsl rfl rfl rfl rfl rfl rfl rfl rfl rfl rfl rfl) rfl rfl ?_
          refine o_app 3 (L := 2000000000) (rows2 := [rRg ring]) (by simp; omega) rfl rfl rfl rfl rfl rfl rfl rfl rfl rfl rfl rfl rfl rfl (by simp [one1]) ?_; intro v2
          refine Qv.step (u_p rfl rfl rfl) rfl rfl ?_
          refine o_nil ?_
          refine x_go ?_
          refine w_reg ?_
          refine Qv.step (u_p rfl rfl rfl) rfl rfl ?_
          refine Qv.step (u_p rfl rfl rfl) rfl rfl ?_
          refine o_nil ?_
          refine x_rd (1, met1, v2, outs ++ [ring]) 5 (by show 2 - 1 < 2 - 0; omega) ⟨by show 1 ≤ 2; omega, by show (outs ++ [ring]).length ≤ _; simp; omega, ?_⟩ (by simp only [List.map_append, List.map_cons, List.map_nil]; rfl) ⟨rfl, rfl, rfl, rfl, rfl, rfl, rfl, rfl, rfl, rfl, rfl, trivial⟩
          rw [← hJ]
          simp only [hso]
        
        · have hne : ring = [] := by
            cases ring with
            | nil => rfl
            | cons x l => simp at h <;> omega
          clear h
          have hso : sOneR (sNext p) (hvU p.2).length (outs, met) (p.2[k].1, false) = (outs, met1) := by
            simp only [sOneR, ← hr, hne, if_true]
          refine w_skip ?_
          refine x_go ?_
          refine w_reg ?_
          refine Qv.step (u_p rfl rfl rfl) rfl rfl ?_
          refine Qv.step (u_p rfl rfl rfl) rfl rfl ?_
          refine o_nil ?_
          refine x_rd (1, met1, v, outs) 5 (by show 2 - 1 < 2 - 0; omega) ⟨by show 1 ≤ 2; omega, by show outs.length ≤ _; omega, ?_⟩ rfl ⟨rfl, rfl, rfl, rfl, rfl, rfl, rfl, rfl, rfl, rfl, rfl, trivial⟩
          rw [← hJ]
          simp only [hso]
      · skip
        refine w_skip ?_
        refine x_go ?_
        refine w_seq ?_
        refine w_block ?_
        refine w_seq ?_
        refine w_reg ?_
        refine Qv.step (u_ix rfl rfl rfl rfl rfl rfl rfl rfl (Int.natCast_nonneg _) (by simp)) rfl rfl ?_
        refine Qv.step (u_lde (r := [.b true]) rfl rfl rfl rfl rfl rfl) rfl rfl ?_
        refine Qv.step (u_p rfl rfl rfl) rfl rfl ?_
        refine o_nil ?_
        refine x_go ?_
        refine w_seq ?_
        refine w_reg ?_
        refine Qv.step (u_p rfl rfl rfl) rfl rfl ?_
        refine o_nil ?_
        refine x_go ?_
        refine w_know 10 _ rfl nil_os ?_
        refine w_nil 40 2 ?_
        skip
        refine w_seq ?_
        refine w_seq ?_
        refine w_reg ?_
        refine Qv.step (u_p rfl rfl rfl) rfl rfl ?_
        refine Qv.step (u_ld 4 rfl rfl rfl rfl rfl rfl) rfl rfl ?_
        refine Qv.step (u_p rfl rfl rfl) rfl rfl ?_
        refine Qv.step (d := .agg [_, _]) (.as (u_bst rfl rfl rfl rfl rfl rfl rfl rfl) rfl) rfl rfl ?_
        refine o_alloc rfl rfl rfl rfl rfl rfl ?_; intro b6
        refine o_st 6 rfl rfl rfl rfl rfl rfl rfl rfl rfl rfl (by first | rfl | kernel_rfl) ?_
        refine o_nil ?_
        refine x_go ?_
        refine w_block ?_
        
        refine w_loop (fun s : Nat × Met × Hlf × Value × List Hlf × Nat => cntU (hvU p.2) s.2.1 ≤ s.1 ∧ s.2.2.1 ∈ hvU p.2 ∧ s.2.2.2.2.1.length + s.1 ≤ (hvU p.2).length ∧ (s.2.2.2.2.1 ++ (sRing (sNext p) s.1 s.2.1 s.2.2.1).1, (sRing (sNext p) s.1 s.2.1 s.2.2.1).2) = sRing (sNext p) (hvU p.2).length met (p.2[k].1, true))
          (fun s => ([(1, .v (.pointer (some ⟨b0, 0, none⟩))), (3, .v (.pointer (some ⟨b1, 0, none⟩))), (4, .v (.map (some b2))), (5, .os v), (19, .sl 3 (p.2.map rE)), (20, .i p.2.length), (21, .i k), (7, .v (.pointer (some ⟨b4, 0, none⟩))), (25, .sl 1 [[.b false], [.b true]]), (26, .i ((2 : Nat) : Int)), (27, .i ((1 : Nat) : Int)), (10, .os s.2.2.2.1), (11, .v (.pointer (some ⟨s.2.2.2.2.2, 0, none⟩)))],
          [cellsR b0 36 (rPl p), cellsR b1 104 [.un, .un, .un, mpD kH dH (sNext p)], mapR b2 kH DV.b s.2.1, rowR v 72 1 (outs.map rRg), cellsR b4 55 (rE p.2[k]), rowR s.2.2.2.1 40 2 (s.2.2.2.2.1.map rH), cellsR s.2.2.2.2.2 40 (rH s.2.2.1)])) (fun s => s.1) ((hvU p.2).length, met, (p.2[k].1, true), .slice none 0 0, [], b6) ⟨List.countP_le_length, hUm _ (hvs_mem (List.getElem_mem hlt) _), by simp, by simp⟩ ⟨rfl, rfl, rfl, rfl, rfl, rfl, rfl, rfl, rfl, rfl, rfl, rfl, rfl, trivial⟩ rfl ?_
        rintro ⟨n, met1, h1, rv, ring, bh⟩ ⟨hc, hU, hl, hr⟩
        simp only at hc hU hl hr
        refine w_seq ?_
        refine w_seq ?_
        refine w_reg ?_
        refine Qv.step (u_p rfl rfl rfl) rfl rfl ?_
        refine Qv.step (d := .agg [_, _]) (.as (u_ld 6 rfl rfl rfl rfl rfl rfl) rfl) rfl rfl ?_
        refine Qv.step (u_lo 2 KH h1 false rfl rfl rfl rfl rfl rfl rfl rfl rfl rfl) rfl rfl ?_
        refine Qv.step (u_p rfl rfl rfl) rfl rfl ?_
        refine o_nil ?_
        refine x_go ?_
        refine w_if rfl (fun h => ?_) (fun h => ?_)
        · have hn : isMet met1 h1 = false := by simpa [isMet] using h
          clear h
          have hlt2 := cntU_lt hU hn
          obtain ⟨n, rfl⟩ : ∃ n', n = n' + 1 := ⟨n - 1, by omega⟩
          rw [sRing, if_neg (by rw [hn]; simp)] at hr
          refine w_skip ?_
          refine x_go ?_
          refine w_seq ?_
          refine w_block ?_
          refine w_seq ?_
          refine w_reg ?_
          refine Qv.step (u_p rfl rfl rfl) rfl rfl ?_
          refine Qv.step (d := .agg [_, _]) (.as (u_ld 6 rfl rfl rfl rfl rfl rfl) rfl) rfl rfl ?_
          refine o_mu 2 KH h1 true rfl rfl rfl rfl rfl rfl rfl rfl rfl rfl rfl ?_
          refine o_nil ?_
          refine x_go ?_
          refine w_reg ?_
          refine Qv.step (u_p rfl rfl rfl) rfl rfl ?_
          refine Qv.step (d := .agg [_, _]) (.as (u_ld 6 rfl rfl rfl rfl rfl rfl) rfl) rfl rfl ?_
          refine Qv.step (q_bsl rfl rfl rfl rfl rfl rfl rfl rfl rfl rfl rfl) rfl rfl ?_
          refine o_app 5 (L := 2000000000) (rows2 := [rH h1]) (by simp; omega) rfl rfl rfl rfl rfl rfl rfl rfl rfl rfl rfl rfl rfl rfl (by simp [one1]) ?_; intro rv2
          refine Qv.step (u_p rfl rfl rfl) rfl rfl ?_
          refine o_nil ?_
          refine x_go ?_
          refine w_seq ?_
          refine w_seq ?_
          refine w_reg ?_
          refine Qv.step (d := .agg [_, _]) (.as (u_ld 6 rfl rfl rfl rfl rfl rfl) rfl) rfl rfl ?_
          refine o_nil ?_
          refine x_go ?_
          refine w_reg ?_
          refine o_alloc rfl rfl rfl rfl rfl rfl ?_; intro b7
          refine o_st 7 rfl rfl rfl rfl rfl rfl rfl rfl rfl rfl (by first | rfl | kernel_rfl) ?_
          refine o_nil ?_
          refine x_go ?_
          refine w_reg ?_
          refine Qv.step (u_p rfl rfl rfl) rfl rfl ?_
          refine Qv.step (u_ld 1 rfl rfl rfl rfl rfl rfl) rfl rfl ?_
          refine Qv.step (d := .agg [_, _]) (.as (u_ld 7 rfl rfl rfl rfl rfl rfl) rfl) rfl rfl ?_
          refine Qv.step (u_lr KH h1 (0, false) rfl rfl rfl rfl rfl rfl rfl rfl rfl) rfl rfl ?_
          refine o_st 7 rfl rfl rfl rfl rfl rfl rfl rfl rfl rfl (by first | rfl | kernel_rfl) ?_
          refine o_nil ?_
          refine x_drop 6 (x_rd (n, mset h1 true met1, sNxt (sNext p) h1, rv2, ring ++ [h1], b7) 7 (by show n < n + 1; omega) ⟨by show cntU (hvU p.2) (mset h1 true met1) ≤ n; omega, sNxt_mem p h1, by show (ring ++ [h1]).length + n ≤ _; simp; omega, by rw [← hr]; simp⟩ (by simp only [List.map_append, List.map_cons, List.map_nil]; rfl) ⟨rfl, rfl, rfl, rfl, rfl, rfl, rfl, rfl, rfl, rfl, rfl, rfl, rfl, trivial⟩)
        
        have hn : isMet met1 h1 = true := by simpa [isMet] using h
        clear h
        have hex : sRing (sNext p) n met1 h1 = ([], met1) := by
          cases n with
          | zero => rfl
          | succ n => rw [sRing, if_pos hn]
        rw [hex] at hr
        simp only [List.append_nil] at hr
        have hrl : ring.length ≤ (hvU p.2).length := by omega
        refine w_frr 5 10 rfl rfl ?_
        refine w_exit ?_
        refine x_go ?_
        refine w_seq ?_
        refine w_reg ?_
        refine Qv.step (u_p rfl rfl rfl) rfl rfl ?_
        refine Qv.step (u_len rfl rfl rfl rfl rfl rfl) rfl rfl ?_
        refine Qv.step (u_p rfl rfl rfl) rfl rfl ?_
        refine o_nil ?_
        refine x_go ?_
        refine w_if rfl (fun h => ?_) (fun h => ?_)
        · have hne : ring ≠ [] := fun e => by subst e; simp at h
          clear h
          have hso : sOneR (sNext p) (hvU p.2).length (outs, met) (p.2[k].1, true) = (outs ++ [ring], met1) := by
            simp only [sOneR, ← hr, hne, if_false]
          refine w_reg ?_
          refine Qv.step (u_p rfl rfl rfl) rfl rfl ?_
          refine Qv.step (u_p rfl rfl rfl) rfl rfl ?_
          refine Qv.step (q_bsl rfl rfl rfl rfl rfl rfl rfl rfl rfl rfl rfl) rfl rfl ?_
          refine o_app 3 (L := 2000000000) (rows2 := [rRg ring]) (by simp; omega) rfl rfl rfl rfl rfl rfl rfl rfl rfl rfl rfl rfl rfl rfl (by simp [one1]) ?_; intro v2
          refine Qv.step (u_p rfl rfl rfl) rfl rfl ?_
          refine o_nil ?_
          refine x_go ?_
          refine w_reg ?_
          refine Qv.step (u_p rfl rfl rfl) rfl rfl ?_
          refine Qv.step (u_p rfl rfl rfl) rfl rfl ?_
          refine o_nil ?_
          refine x_rd (2, met1, v2, outs ++ [ring]) 5 (by show 2 - 2 < 2 - 1; omega) ⟨by show 2 ≤ 2; omega, by show (outs ++ [ring]).length ≤ _; simp; omega, ?_⟩ (by simp only [List.map_append, List.map_cons, List.map_nil]; rfl) ⟨rfl, rfl, rfl, rfl, rfl, rfl, rfl, rfl, rfl, rfl, rfl, trivial⟩
          rw [← hJ]
          simp only [hso]
        
        · have hne : ring = [] := by
            cases ring with
            | nil => rfl
            | cons x l => simp at h <;> omega
          clear h
          have hso : sOneR (sNext p) (hvU p.2).length (outs, met) (p.2[k].1, true) = (outs, met1) := by
            simp only [sOneR, ← hr, hne, if_true]
          refine w_skip ?_
          refine x_go ?_
          refine w_reg ?_
          refine Qv.step (u_p rfl rfl rfl) rfl rfl ?_
          refine Qv.step (u_p rfl rfl rfl) rfl rfl ?_
          refine o_nil ?_
          refine x_rd (2, met1, v, outs) 5 (by show 2 - 2 < 2 - 1; omega) ⟨by show 2 ≤ 2; omega, by show outs.length ≤ _; omega, ?_⟩ rfl ⟨rfl, rfl, rfl, rfl, rfl, rfl, rfl, rfl, rfl, rfl, rfl, trivial⟩
          rw [← hJ]
          simp only [hso]
    
    have hj2 : j = 2 := by
      have : ¬ (j : Int) < 2 := by simpa using h
      omega
    clear h
    subst hj2
    simp only at hJ
    rw [← hJ] at hI
    refine w_exit ?_
    refine x_go ?_
    refine w_reg ?_
    refine Qv.step (u_p rfl rfl rfl) rfl rfl ?_
    refine Qv.step (u_p rfl rfl rfl) rfl rfl ?_
    refine o_nil ?_
    exact x_rd (k + 1, met, v, outs) 4 (by show p.2.length - (k + 1) < p.2.length - k; omega) ⟨by show k + 1 ≤ _; omega, by show outs.length ≤ 2 * (k + 1); omega, hI⟩ rfl ⟨rfl, rfl, rfl, rfl, rfl, rfl, lkS rfl (by omega), trivial⟩
  
  have hge : ¬ k < p.2.length := by simpa using h
  clear h
  rw [List.drop_eq_nil_of_le (by omega)] at hI
  refine w_frr 3 5 rfl rfl ?_
  refine w_exit ?_
  refine x_go ?_
  refine w_seq ?_
  refine w_reg ?_
  refine Qv.step (u_p rfl rfl rfl) rfl rfl ?_
  refine Qv.step (u_p rfl rfl rfl) rfl rfl ?_
  refine o_nil ?_
  refine x_go ?_
  refine w_ret (x_rt rfl rfl ?_)
  have hf : sRings p = outs0 := by unfold sRings; rw [← hI]; rfl
  rw [if_pos hR, hf]
end Go.Proofs.Ytcdakcemcehfiaa
