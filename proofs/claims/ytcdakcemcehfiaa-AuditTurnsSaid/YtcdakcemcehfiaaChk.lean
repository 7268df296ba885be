/- audit: contracts, fourth part: Check. -/
import Derived.Test.YtcdakcemcehfiaaAue
namespace Go.Proofs.Ytcdakcemcehfiaa
open Go Go.RowKit
set_option maxRecDepth 100000

theorem Realms_ok (p : Pln) (hp : p.1.length < 100000000) (hp2 : p.2.length < 100000000) (hT : pRight p = true → TOk p) (hR : pRight p = true) : FunOk cx 18 [dPl p] (.sl 3 ((mRealms p).map rRm)) := by
  refine fn_ok (c := _) _ Try.func18 rfl Try.ntmps18 rfl fun A w => ?_
  refine w_seq ?_
  refine w_reg ?_
  refine o_box rfl rfl rfl rfl rfl rfl ?_; intro b0
  refine Qv.step (u_p rfl rfl rfl) rfl rfl ?_
  refine o_nil ?_
  refine x_go ?_
  refine w_seq ?_
  refine w_reg ?_
  refine Qv.step (d := .agg [_, _]) (.as (u_ld 0 rfl rfl rfl rfl rfl rfl) rfl) rfl rfl ?_
  refine Qv.step (u_call (realms_ok p hp hp2 hT hR) Try.call32 rfl rfl rfl) rfl rfl ?_
  refine Qv.step (u_p rfl rfl rfl) rfl rfl ?_
  refine Qv.step (u_p rfl rfl rfl) rfl rfl ?_
  refine Qv.step (u_p rfl rfl rfl) rfl rfl ?_
  refine Qv.step (u_p rfl rfl rfl) rfl rfl ?_
  refine Qv.step (u_p rfl rfl rfl) rfl rfl ?_
  refine o_nil ?_
  refine x_go ?_
  refine w_seq ?_
  refine w_reg ?_
  refine Qv.step (u_p rfl rfl rfl) rfl rfl ?_
  refine Qv.step (u_p rfl rfl rfl) rfl rfl ?_
  refine o_nil ?_
  refine x_go ?_
  exact w_ret (x_rt rfl rfl rfl)

theorem h_eqV (k k' : IntKind) (a b : Hlf) : eqV [.int k a.1, .bool a.2] [.int k' b.1, .bool b.2] = (a == b) := by
  simp only [eqV, Bool.and_true]
  rfl
def eNx (e : ERow) (b : Bool) : Hlf := if b then e.next.2 else e.next.1
def ePv (e : ERow) (b : Bool) : Hlf := if b then e.prev.2 else e.prev.1
def eFc (e : ERow) (b : Bool) : Int := if b then e.face.2 else e.face.1
def aEbad (np : NP) (e : ERow) (b : Bool) : Bool := (eNx e b != sNxt np.1 (e.id, b)) || (ePv e b != sNxt np.2 (e.id, b))
def aE1 (np : NP) (face : List (Hlf × Int)) (e : ERow) (b : Bool) : Option (List (Hlf × Int)) := if aEbad np e b then none else some (mset (e.id, b) (eFc e b) face)
def aE2 (np : NP) (face : List (Hlf × Int)) (e : ERow) : Option (List (Hlf × Int)) := (aE1 np face e false).bind fun f => aE1 np f e true
def aCkE (np : NP) : List (Hlf × Int) → List ERow → Option (List (Hlf × Int))
  | face, [] => some face
  | face, e :: es => (aE2 np face e).bind fun f => aCkE np f es
def aVbad (p : Pln) (v : VRow) : Bool := decide (pDeg v.1 0 p.2 > 0) && (v.2.2 != -1)
def aCkV (p : Pln) : List (Int × Int) → List VRow → Option (List (Int × Int))
  | alone, [] => some alone
  | alone, v :: vs => if aVbad p v then none else aCkV p (mset v.1 v.2.2 alone) vs
def aRid (face : List (Hlf × Int)) (i : Nat) (r : Rm) : Int := if i = 0 then 0 else (mget (hd0 r.1) face).getD 0
def aRbad (face : List (Hlf × Int)) (alone : List (Int × Int)) (met : List (Int × Bool)) (i : Nat) (r : Rm) : Bool :=
  ((!aOne r (aRid face i r) face alone) || (mget (aRid face i r) met).getD false) || (decide ((i : Int) > 0) && (aRid face i r == 0))
def aCkR (face : List (Hlf × Int)) (alone : List (Int × Int)) : Nat → List (Int × Bool) → List Rm → Option (List (Int × Bool))
  | _, met, [] => some met
  | i, met, r :: rs => if aRbad face alone met i r then none else aCkR face alone (i + 1) (mset (aRid face i r) true met) rs
def aCkF (met : List (Int × Bool)) (fs : List (Int × Int)) : Bool := fs.all fun f => (mget f.1 met).getD false
def aEnd (t : Tab) (met : List (Int × Bool)) : Int := if aCkF met t.fs then (if ((met.length : Nat) : Int) != ((t.fs.length : Nat) : Int) then 19 else 0) else 19
def aChk3 (t : Tab) (face : List (Hlf × Int)) (alone : List (Int × Int)) : Int := match aCkR face alone 0 [] (mRealms (tPlan t)) with | none => 19 | some met => aEnd t met
def aChk2 (t : Tab) (face : List (Hlf × Int)) : Int := match aCkV (tPlan t) [] t.vs with | none => 19 | some alone => aChk3 t face alone
def aChk1 (t : Tab) : Int := match aCkE (aLinks (tPlan t)) [] t.es with | none => 19 | some face => aChk2 t face
def aCheck (t : Tab) : Int := if (!pRight (tPlan t)) || !aNums t then 19 else aChk1 t

/-! ### how great the parts are -/
theorem mS1_mem (p : Pln) : ∀ (l : List (List Hlf)) (s : S1), (∀ r ∈ l, r ∈ aRings p) → (∀ r ∈ s.1, r ∈ aRings p) → (∀ r ∈ s.2.1.drop 1, r ∈ aRings p) → s.2.1.head? = some [] →
    (∀ r ∈ (l.foldl (m1 p) s).1, r ∈ aRings p) ∧ (∀ r ∈ (l.foldl (m1 p) s).2.1.drop 1, r ∈ aRings p) ∧ (l.foldl (m1 p) s).2.1.head? = some [] ∧ (l.foldl (m1 p) s).1.length ≤ s.1.length + l.length ∧ (s.2.1.length = s.2.2.length + 1 → (l.foldl (m1 p) s).2.1.length = (l.foldl (m1 p) s).2.2.length + 1)
  | [], s, _, h1, h2, h3 => ⟨h1, h2, h3, Nat.le_refl _, id⟩
  | r :: l, s, hl, h1, h2, h3 => by
    obtain ⟨i, o, g⟩ := s
    have hr := hl r (by simp)
    have hl' := fun x hx => hl x (List.mem_cons_of_mem _ hx)
    cases o with
    | nil => simp at h3
    | cons o0 o =>
      simp only [List.head?_cons, Option.some.injEq] at h3
      subst h3
      rw [List.foldl_cons]
      have hm : m1 p (i, [] :: o, g) r = if decide (wSign (mSum (mPts p r)) ≤ 0) then (i ++ [r], [] :: o, g) else (i, ([] :: o) ++ [r], g ++ [(mPts p r, mSum (mPts p r), mPiece p r)]) := rfl
      rw [hm]
      split
      · have := mS1_mem p l (i ++ [r], [] :: o, g) hl' (fun x hx => by
          rcases List.mem_append.1 hx with hx | hx
          · exact h1 x hx
          · rw [List.mem_singleton.1 hx]; exact hr) h2 rfl
        refine ⟨this.1, this.2.1, this.2.2.1, ?_, this.2.2.2.2⟩
        have h := this.2.2.2.1
        simp only [List.length_append, List.length_cons, List.length_nil] at h ⊢
        omega
      · have := mS1_mem p l (i, ([] :: o) ++ [r], g ++ [(mPts p r, mSum (mPts p r), mPiece p r)]) hl' h1 (fun x hx => by
          simp only [List.cons_append, List.drop_succ_cons, List.drop_zero] at hx
          rcases List.mem_append.1 hx with hx | hx
          · exact h2 x (by simpa using hx)
          · rw [List.mem_singleton.1 hx]; exact hr) rfl
        refine ⟨this.1, this.2.1, this.2.2.1, ?_, fun e => this.2.2.2.2 (by simp at e ⊢; omega)⟩
        have h := this.2.2.2.1
        simp only [List.length_cons] at h ⊢
        omega
theorem mS1_ok (p : Pln) : (∀ r ∈ (mS1 p).1, r ∈ aRings p) ∧ (∀ r ∈ (mS1 p).2.1.drop 1, r ∈ aRings p) ∧ (mS1 p).2.1.head? = some [] ∧ (mS1 p).1.length ≤ (aRings p).length ∧ (mS1 p).2.1.length = (mS1 p).2.2.length + 1 := by
  obtain ⟨h1, h2, h3, h4, h5⟩ := mS1_mem p (aRings p) ([], [[]], []) (fun r h => h) (by simp) (by simp) rfl
  have h4 : (mS1 p).1.length ≤ 0 + (aRings p).length := h4
  exact ⟨h1, h2, h3, by omega, h5 rfl⟩
/-- Of a part. -/
structure RmOk (p : Pln) (n k : Nat) (r : Rm) : Prop where
  inn : ∀ x ∈ r.2.1, x ∈ aRings p
  len : r.2.1.length ≤ n
  alo : r.2.2.length ≤ k
theorem mod_all {α : Type} {P Q : α → Prop} {f : α → α} {i : Nat} (h1 : ∀ x, P x → Q x) (h2 : ∀ x, P x → Q (f x)) : ∀ {l : List α}, (∀ x ∈ l, P x) → ∀ x ∈ l.modify i f, Q x := by
  intro l hl x hx
  obtain ⟨n, hn⟩ := List.getElem?_of_mem hx
  rw [List.getElem?_modify] at hn
  cases hg : l[n]? with
  | none => rw [hg] at hn; simp at hn
  | some y =>
    have hy := hl y (List.mem_of_getElem? hg)
    rw [hg] at hn
    simp only [Option.map_eq_map, Option.map_some, Option.some.injEq] at hn
    rw [← hn]
    split
    · exact h2 y hy
    · exact h1 y hy
theorem m2_ok (p : Pln) (rings : List Otr) : ∀ (l : List (List Hlf)) (out : List Rm) (n k : Nat), (∀ r ∈ l, r ∈ aRings p) → (∀ r ∈ out, RmOk p n k r) → ∀ r ∈ l.foldl (m2 p rings) out, RmOk p (n + l.length) k r
  | [], out, n, k, _, h => h
  | x :: l, out, n, k, hl, h => by
    have := m2_ok p rings l (m2 p rings out x) (n + 1) k (fun r hr => hl r (List.mem_cons_of_mem _ hr)) (mod_all (fun r hr => ⟨hr.inn, by have := hr.len; omega, hr.alo⟩) (fun r hr => ⟨fun y hy => by
      rcases List.mem_append.1 hy with hy | hy
      · exact hr.inn y hy
      · rw [List.mem_singleton.1 hy]; exact hl x (by simp), by have := hr.len; simp; omega, hr.alo⟩) h)
    rw [List.foldl_cons, List.length_cons, show n + (l.length + 1) = n + 1 + l.length by omega]
    exact this
theorem m3_ok (p : Pln) (rings : List Otr) : ∀ (l : List Vtx) (out : List Rm) (n k : Nat), (∀ r ∈ out, RmOk p n k r) → ∀ r ∈ l.foldl (m3 p rings) out, RmOk p n (k + l.length) r
  | [], out, n, k, h => h
  | v :: l, out, n, k, h => by
    have h' : ∀ r ∈ m3 p rings out v, RmOk p n (k + 1) r := by
      unfold m3
      split
      · exact mod_all (fun r hr => ⟨hr.inn, hr.len, by have := hr.alo; omega⟩) (fun r hr => ⟨hr.inn, hr.len, by have := hr.alo; simp; omega⟩) h
      · exact fun r hr => ⟨(h r hr).inn, (h r hr).len, by have := (h r hr).alo; omega⟩
    have := m3_ok p rings l (m3 p rings out v) n (k + 1) h'
    rw [List.foldl_cons, List.length_cons, show k + (l.length + 1) = k + 1 + l.length by omega]
    exact this
theorem mRealms_ok (p : Pln) : ∀ r ∈ mRealms p, RmOk p (aRings p).length p.1.length r := by
  obtain ⟨h1, h2, h3, h4, h5⟩ := mS1_ok p
  have ha := m2_ok p (mS1 p).2.2 (mS1 p).1 ((mS1 p).2.1.map fun o => (o, [], [])) 0 0 h1 (fun r hr => by
    obtain ⟨o, _, rfl⟩ := List.mem_map.1 hr
    exact ⟨by simp, Nat.le_refl _, Nat.le_refl _⟩)
  have hb := m3_ok p (mS1 p).2.2 p.1 _ _ 0 ha
  exact fun r hr => ⟨(hb r hr).inn, by have := (hb r hr).len; omega, by have := (hb r hr).alo; omega⟩
theorem mod_fst (i : Nat) (f : Rm → Rm) (hf : ∀ x, (f x).1 = x.1) (l : List Rm) : (l.modify i f).map (·.1) = l.map (·.1) := by
  apply List.ext_getElem?
  intro n
  rw [List.getElem?_map, List.getElem?_map, List.getElem?_modify]
  cases l[n]? with
  | none => split <;> rfl
  | some x => split <;> simp [hf]
theorem m2_fst (p : Pln) (rings : List Otr) : ∀ (l : List (List Hlf)) (out : List Rm), (l.foldl (m2 p rings) out).map (·.1) = out.map (·.1)
  | [], _ => rfl
  | x :: l, out => by rw [List.foldl_cons, m2_fst p rings l]; exact mod_fst _ (fun y => (y.1, y.2.1 ++ [x], y.2.2)) (fun _ => rfl) _
theorem m3_fst (p : Pln) (rings : List Otr) : ∀ (l : List Vtx) (out : List Rm), (l.foldl (m3 p rings) out).map (·.1) = out.map (·.1)
  | [], _ => rfl
  | x :: l, out => by
    rw [List.foldl_cons, m3_fst p rings l]
    unfold m3
    split
    · exact mod_fst _ (fun y => (y.1, y.2.1, y.2.2 ++ [x.1])) (fun _ => rfl) _
    · rfl
/-- The parts' outer rings. -/
theorem mRealms_fst (p : Pln) : (mRealms p).map (·.1) = (mS1 p).2.1 := by
  unfold mRealms
  rw [m3_fst, m2_fst]
  simp [List.map_map, Function.comp_def]
theorem mRealms_outer (p : Pln) {i : Nat} {r : Rm} (hr : (mRealms p)[i]? = some r) : if i = 0 then r.1 = [] else r.1 ∈ aRings p := by
  have h := congrArg (·[i]?) (mRealms_fst p)
  simp only [List.getElem?_map, hr, Option.map_some] at h
  obtain ⟨h1, h2, h3, _⟩ := mS1_ok p
  cases i with
  | zero =>
    rw [if_pos rfl]
    rw [← List.head?_eq_getElem?, h3] at h
    exact Option.some.inj h
  | succ i =>
    rw [if_neg (by omega)]
    refine h2 _ (List.mem_of_getElem? (i := i) ?_)
    rw [List.getElem?_drop, Nat.add_comm]
    exact h.symm
theorem mRealms_len (p : Pln) : (mRealms p).length ≤ 2 * p.2.length + 1 := by
  have h := congrArg List.length (mRealms_fst p)
  rw [List.length_map] at h
  obtain ⟨h1, h2, h3, h4, h5⟩ := mS1_ok p
  have key : ∀ (l : List (List Hlf)) (s : S1), (l.foldl (m1 p) s).2.1.length ≤ s.2.1.length + l.length := by
    intro l
    induction l with
    | nil => intro s; exact Nat.le_refl _
    | cons r l ih =>
      intro s
      rw [List.foldl_cons]
      have := ih (m1 p s r)
      have h : (m1 p s r).2.1.length ≤ s.2.1.length + 1 := by unfold m1; split <;> simp
      simp only [List.length_cons]
      omega
  have hk := key (aRings p) ([], [[]], [])
  have := aRings_len p
  have hk2 : (mS1 p).2.1.length ≤ 1 + (aRings p).length := hk
  omega

set_option maxHeartbeats 4000000 in
theorem Check_ok (t : Tab) (hv : t.vs.length < 100000000) (he : t.es.length < 100000000) (hf : t.fs.length < 100000000) (hT : pRight (tPlan t) = true → TOk (tPlan t)) : FunOk cx 7 [dTab t] (.i (aCheck t)) := by
  have hv1 : (tPlan t).1.length = t.vs.length := by simp [tPlan]
  have he1 : (tPlan t).2.length = t.es.length := by simp [tPlan]
  have hs1 : Sh (tPlan t).1 := by show (tPlan t).1.length < _; omega
  have hs2 : Sh (tPlan t).2 := by show (tPlan t).2.length < _; omega
  refine fn_ok (c := _) _ Try.func7 rfl Try.ntmps7 rfl fun A w => ?_
  refine w_seq ?_
  refine w_reg ?_
  refine o_box rfl rfl rfl rfl rfl rfl ?_; intro b0
  refine Qv.step (u_p rfl rfl rfl) rfl rfl ?_
  refine o_nil ?_
  refine x_go ?_
  refine w_seq ?_
  refine w_reg ?_
  refine Qv.step (d := .agg [_, _, _, _, _, _]) (.as (u_ld 0 rfl rfl rfl rfl rfl rfl) rfl) rfl rfl ?_
  refine Qv.step (u_call (Plan_ok t (by omega) (by omega)) Try.call20 rfl rfl rfl) rfl rfl ?_
  refine o_alloc rfl rfl rfl rfl rfl rfl ?_; intro b1
  refine o_st 1 rfl rfl rfl rfl rfl rfl rfl rfl rfl rfl (by first | rfl | kernel_rfl) ?_
  refine o_nil ?_
  refine x_go ?_
  refine w_seq ?_
  refine w_seq ?_
  refine w_reg ?_
  refine Qv.step (d := .agg [_, _]) (.as (u_ld 1 rfl rfl rfl rfl rfl rfl) rfl) rfl rfl ?_
  refine Qv.step (u_call (Right_ok (tPlan t) hs1 hs2) Try.call14 rfl rfl rfl) rfl rfl ?_
  refine Qv.step (u_p rfl rfl rfl) rfl rfl ?_
  refine Qv.step (u_p rfl rfl rfl) rfl rfl ?_
  refine Qv.step (d := .gd _ _ (.agg [_, _, _, _, _, _])) (.as (q_ld (G := [(_, false)]) 0 rfl rfl rfl rfl rfl rfl rfl) rfl) rfl rfl ?_
  refine Qv.step (d := .gd _ _ _) (.as (q_call (G := [(_, false)]) (numbers_ok t hv he hf) Try.call21 rfl rfl rfl rfl) rfl) rfl rfl ?_
  refine Qv.step (d := .gd _ _ _) (.as (q_p (G := [(_, false)]) rfl rfl rfl rfl) rfl) rfl rfl ?_
  refine Qv.step (d := .v _) (.as (u_pick rfl rfl rfl rfl rfl rfl rfl rfl rfl) rfl) rfl rfl ?_
  refine o_nil ?_
  refine x_go ?_
  refine w_if rfl (fun h => ?_) (fun h => ?_)
  · refine w_seq ?_
    refine w_reg ?_
    refine Qv.step (u_p rfl rfl rfl) rfl rfl ?_
    refine o_nil ?_
    refine x_go ?_
    have h' : ((!pRight (tPlan t)) || !aNums t) = true := Eq.trans (by cases pRight (tPlan t) <;> rfl) h
    refine w_ret (x_rt rfl rfl (congrArg (fun n : Int => DV.i n) ?_))
    rw [aCheck, if_pos h']
  
  have h' : ((!pRight (tPlan t)) || !aNums t) = false := Eq.trans (by cases pRight (tPlan t) <;> rfl) h
  clear h
  have hR : pRight (tPlan t) = true := by
    cases hc : pRight (tPlan t) with
    | true => rfl
    | false => rw [hc] at h'; cases h'
  have hC : aCheck t = aChk1 t := by rw [aCheck, h']; rfl
  rw [hC]
  clear h' hC
  refine w_skip ?_
  refine x_go ?_
  refine w_seq ?_
  refine w_reg ?_
  refine Qv.step (d := .agg [_, _]) (.as (u_ld 1 rfl rfl rfl rfl rfl rfl) rfl) rfl rfl ?_
  refine Qv.step (u_call (links_ok (tPlan t) (by omega) (by omega) hT) Try.call17 rfl rfl rfl) rfl rfl ?_
  refine Qv.step (u_p rfl rfl rfl) rfl rfl ?_
  refine Qv.step (u_p rfl rfl rfl) rfl rfl ?_
  refine Qv.step (u_p rfl rfl rfl) rfl rfl ?_
  refine Qv.step (u_p rfl rfl rfl) rfl rfl ?_
  refine Qv.step (u_p rfl rfl rfl) rfl rfl ?_
  refine o_nil ?_
  refine x_go ?_
  refine w_seq ?_
  refine w_reg ?_
  refine o_mk kH DV.i rfl rfl rfl rfl ?_; intro b2
  refine Qv.step (u_p rfl rfl rfl) rfl rfl ?_
  refine o_nil ?_
  refine x_go ?_
  refine w_seq ?_
  refine w_seq ?_
  refine w_reg ?_
  refine Qv.step (u_p rfl rfl rfl) rfl rfl ?_
  refine Qv.step (u_ld 0 rfl rfl rfl rfl rfl rfl) rfl rfl ?_
  refine Qv.step (u_len rfl rfl rfl rfl rfl rfl) rfl rfl ?_
  refine Qv.step (u_p rfl rfl rfl) rfl rfl ?_
  refine o_nil ?_
  refine x_go ?_
  refine w_block ?_
  
  generalize hnp : aLinks (tPlan t) = np
  have hC1 : ∀ f, aCkE (aLinks (tPlan t)) [] t.es = f → aChk1 t = (match f with | none => 19 | some face => aChk2 t face) := fun f e => by rw [aChk1, e]
  rw [hnp] at hC1
  have fin19 : aCkE np [] t.es = none → (19 : Int) = aChk1 t := fun e => (hC1 none e).symm
  refine w_loop (fun s : Nat × List (Hlf × Int) => s.1 ≤ t.es.length ∧ aCkE np s.2 (t.es.drop s.1) = aCkE np [] t.es) (fun s => ([(1, .v (.pointer (some ⟨b0, 0, none⟩))), (3, .v (.pointer (some ⟨b1, 0, none⟩))), (4, mpD kH dH np.1), (5, mpD kH dH np.2), (6, .v (.map (some b2))), (38, .sl 13 (t.es.map rER)), (39, .i t.es.length), (40, .i s.1)],
    [cellsR b0 32 (rTab t), cellsR b1 36 (rPl (tPlan t)), mapR b2 kH DV.i s.2])) (fun s => t.es.length - s.1) (0, []) ⟨Nat.zero_le _, rfl⟩ ⟨rfl, rfl, by rw [← hnp]; rfl, by rw [← hnp]; rfl, rfl, rfl, lenS rfl, rfl, trivial⟩ rfl ?_
  rintro ⟨k, face0⟩ ⟨hk, hI⟩
  simp only at hk hI
  refine w_seq ?_
  refine w_reg ?_
  refine Qv.step (u_p rfl rfl rfl) rfl rfl ?_
  refine o_nil ?_
  refine x_go ?_
  refine w_seq ?_
  refine w_if rfl (fun h => ?_) (fun h => ?_)
  · have hlt : k < t.es.length := by simpa using h
    rw [List.drop_eq_getElem_cons hlt, aCkE] at hI
    clear h
    refine w_skip ?_
    refine x_go ?_
    refine w_seq ?_
    refine w_block ?_
    refine w_seq ?_
    refine w_reg ?_
    refine Qv.step (u_ix rfl rfl rfl rfl rfl rfl rfl rfl (by omega) (by simp; omega)) rfl rfl ?_
    refine Qv.step (d := .agg [_, _, _, _, _, _, _, _, _, _, _, _, _]) (.as (u_lde (r := rER t.es[k]) (by simp [hlt]) rfl rfl rfl rfl rfl) rfl) rfl rfl ?_
    refine o_alloc rfl rfl rfl rfl rfl rfl ?_; intro b3
    refine o_st 3 rfl rfl rfl rfl rfl rfl rfl rfl rfl rfl (by first | rfl | kernel_rfl) ?_
    refine o_nil ?_
    refine x_go ?_
    refine w_seq ?_
    refine w_reg ?_
    refine Qv.step (q_bsl rfl rfl rfl rfl rfl rfl rfl rfl rfl rfl rfl) rfl rfl ?_
    refine Qv.step (u_len rfl rfl rfl rfl rfl rfl) rfl rfl ?_
    refine Qv.step (u_p rfl rfl rfl) rfl rfl ?_
    refine o_nil ?_
    refine x_go ?_
    refine w_block ?_
    
    refine w_loop (fun s : Nat × List (Hlf × Int) => s.1 ≤ 2 ∧ (match s.1 with | 0 => aE2 np s.2 t.es[k] | 1 => aE1 np s.2 t.es[k] true | _ => some s.2) = aE2 np face0 t.es[k])
      (fun s => ([(1, .v (.pointer (some ⟨b0, 0, none⟩))), (3, .v (.pointer (some ⟨b1, 0, none⟩))), (4, mpD kH dH np.1), (5, mpD kH dH np.2), (6, .v (.map (some b2))), (38, .sl 13 (t.es.map rER)), (39, .i t.es.length), (40, .i k), (8, .v (.pointer (some ⟨b3, 0, none⟩))), (44, .sl 1 [[.b false], [.b true]]), (45, .i ((2 : Nat) : Int)), (46, .i (s.1 : Int))],
      [cellsR b0 32 (rTab t), cellsR b1 36 (rPl (tPlan t)), mapR b2 kH DV.i s.2, cellsR b3 44 (rER t.es[k])])) (fun s => 2 - s.1) (0, face0) ⟨Nat.zero_le _, rfl⟩ ⟨rfl, rfl, rfl, rfl, rfl, rfl, rfl, rfl, rfl, rfl, rfl, rfl, trivial⟩ rfl ?_
    rintro ⟨j, fc⟩ ⟨hj, hJ⟩
    simp only at hj hJ
    refine w_seq ?_
    refine w_reg ?_
    refine Qv.step (u_p rfl rfl rfl) rfl rfl ?_
    refine o_nil ?_
    refine x_go ?_
    refine w_seq ?_
    refine w_if rfl (fun h => ?_) (fun h => ?_)
    · have hj2 : j = 0 ∨ j = 1 := by
        have : (j : Int) < 2 := by simpa using h
        omega
      clear h
      rcases hj2 with rfl | rfl
      · skip
        refine w_skip ?_
        refine x_go ?_
        refine w_seq ?_
        refine w_block ?_
        refine w_seq ?_
        refine w_reg ?_
        refine Qv.step (u_p rfl rfl rfl) rfl rfl ?_
        refine Qv.step (u_ix rfl rfl rfl rfl rfl rfl rfl rfl (Int.natCast_nonneg _) (by simp)) rfl rfl ?_
        refine Qv.step (u_lde (r := [.b false]) rfl rfl rfl rfl rfl rfl) rfl rfl ?_
        refine Qv.step (u_p rfl rfl rfl) rfl rfl ?_
        refine Qv.step (u_p rfl rfl rfl) rfl rfl ?_
        refine o_nil ?_
        refine x_go ?_
        refine w_seq ?_
        refine w_reg ?_
        refine Qv.step (u_p rfl rfl rfl) rfl rfl ?_
        refine Qv.step (u_ld 3 rfl rfl rfl rfl rfl rfl) rfl rfl ?_
        refine Qv.step (u_p rfl rfl rfl) rfl rfl ?_
        refine Qv.step (d := .agg [_, _]) (.as (u_bst rfl rfl rfl rfl rfl rfl rfl rfl) rfl) rfl rfl ?_
        refine o_alloc rfl rfl rfl rfl rfl rfl ?_; intro b4
        refine o_st 4 rfl rfl rfl rfl rfl rfl rfl rfl rfl rfl (by first | rfl | kernel_rfl) ?_
        refine o_nil ?_
        refine x_go ?_
        refine w_seq ?_
        refine w_seq ?_
        refine d_begin ?_
        refine d_q [] (by kernel_rfl) rfl (fun _ _ _ => .onk (L' := []) rfl (u_p rfl rfl rfl) rfl) ?_
        refine d_q [] (by kernel_rfl) rfl (fun _ _ _ => .onk (L' := []) rfl (u_p rfl rfl rfl) rfl) ?_
        refine d_q [0, 1] (by kernel_rfl) rfl (fun _ _ _ => .onk (L' := [(55, _), (56, _)]) rfl (u_ixa rfl rfl rfl rfl rfl rfl rfl (Int.natCast_nonneg _) (by simp)) rfl) ?_
        refine d_q (d := .agg [_, _]) [2] (by kernel_rfl) rfl (fun _ _ _ => .onk (L' := [(57, _)]) rfl (u_ld 3 rfl rfl rfl rfl rfl rfl) rfl) ?_
        refine d_q [] (by kernel_rfl) rfl (fun _ _ _ => .onk (L' := []) rfl (u_p rfl rfl rfl) rfl) ?_
        refine d_q (d := .agg [_, _]) [] (by kernel_rfl) rfl (fun _ _ _ => .onk (L' := []) rfl (u_ld 4 rfl rfl rfl rfl rfl rfl) rfl) ?_
        refine d_q [4, 5] (by kernel_rfl) rfl (fun _ _ _ => .onk (L' := [(59, _), (60, _)]) rfl (u_lr KH (t.es[k].id, false) (0, false) rfl rfl rfl rfl rfl rfl rfl rfl rfl) rfl) ?_
        refine d_q [3, 6] (by kernel_rfl) rfl (fun _ _ _ => .onk (L' := [(58, _), (61, _)]) rfl (u_eq rfl rfl rfl rfl rfl rfl rfl rfl rfl rfl rfl rfl) rfl) ?_
        refine d_q [7] (by kernel_rfl) rfl (fun _ _ _ => .onk (L' := [(62, _)]) rfl (u_p rfl rfl rfl) rfl) ?_
        refine d_q (d := .gd _ _ _) [8] (by kernel_rfl) rfl (fun _ _ _ => .onk (L' := [(63, _)]) rfl (q_p (G := [(_, false)]) rfl rfl rfl rfl) rfl) ?_
        refine d_q (d := .gd _ _ _) [8] (by kernel_rfl) rfl (fun _ _ _ => .onk (L' := [(63, _)]) rfl (q_p (G := [(_, false)]) rfl rfl rfl rfl) rfl) ?_
        refine d_q (d := .gd _ _ _) [8, 9, 10] (by kernel_rfl) rfl (fun _ _ _ => .onk (L' := [(63, _), (64, _), (65, _)]) rfl (q_ixa (G := [(_, false)]) rfl rfl rfl rfl rfl rfl rfl rfl (fun _ => (Int.natCast_nonneg _)) (fun _ => (by simp))) rfl) ?_
        refine d_q (d := .gd _ _ (.agg [_, _])) [8, 11] (by kernel_rfl) rfl (fun _ _ _ => .onk (L' := [(63, _), (66, _)]) rfl (q_ld (G := [(_, false)]) 3 rfl rfl rfl rfl rfl rfl rfl) rfl) ?_
        refine d_q (d := .gd _ _ _) [8] (by kernel_rfl) rfl (fun _ _ _ => .onk (L' := [(63, _)]) rfl (q_mvm (G := [(_, false)]) rfl rfl rfl) rfl) ?_
        refine d_q (d := .gd _ _ (.agg [_, _])) [8] (by kernel_rfl) rfl (fun _ _ _ => .onk (L' := [(63, _)]) rfl (q_ld (G := [(_, false)]) 4 rfl rfl rfl rfl rfl rfl rfl) rfl) ?_
        refine d_q (d := .gd _ _ _) [8, 13, 14] (by kernel_rfl) rfl (fun _ _ _ => .onk (L' := [(63, _), (68, _), (69, _)]) rfl (q_lr (G := [(_, false)]) KH (t.es[k].id, false) (0, false) rfl rfl rfl rfl rfl rfl rfl rfl rfl rfl) rfl) ?_
        refine d_q (d := .gd _ _ _) [8, 12, 15] (by kernel_rfl) rfl (fun _ _ _ => .onk (L' := [(63, _), (67, _), (70, _)]) rfl (q_eq (G := [(_, false)]) rfl rfl rfl rfl rfl rfl rfl rfl rfl rfl rfl rfl rfl) rfl) ?_
        refine d_q (d := .v _) [8, 16] (by kernel_rfl) rfl (fun _ _ _ => .onk (L' := [(63, _), (71, _)]) rfl (u_pick rfl rfl rfl rfl rfl rfl rfl rfl rfl) rfl) ?_
        refine d_end (by kernel_rfl) (by kernel_rfl) (by kernel_rfl) (fun bs _ => so_as (L' := [(55, _), (56, _), (57, _), (58, _), (59, _), (60, _), (61, _), (62, _), (63, _), (64, _), (65, _), (66, _), (67, _), (68, _), (69, _), (70, _), (71, _), (72, _)]) (G' := []) rfl rfl ?_)
        refine o_nil ?_
        refine x_go ?_
        refine w_if rfl (fun h => ?_) (fun h => ?_)
        · have hb : aEbad np t.es[k] false = true := Eq.trans (by unfold aEbad eNx ePv sNxt; simp only [h_eqV, bne]; rfl) h
          refine w_seq ?_
          refine w_reg ?_
          refine Qv.step (u_p rfl rfl rfl) rfl rfl ?_
          refine o_nil ?_
          refine x_go ?_
          refine w_ret (x_rt rfl rfl (congrArg (fun n : Int => DV.i n) (fin19 ?_)))
          rw [← hI, ← hJ]
          show (aE2 np fc t.es[k]).bind _ = none
          simp [aE2, aE1, hb]
        
        have hb : aEbad np t.es[k] false = false := Eq.trans (by unfold aEbad eNx ePv sNxt; simp only [h_eqV, bne]; rfl) h
        clear h
        refine w_skip ?_
        refine x_go ?_
        refine d_begin ?_
        refine d_q [] (by kernel_rfl) rfl (fun _ _ _ => .onk (L' := []) rfl (u_p rfl rfl rfl) rfl) ?_
        refine d_q (d := .agg [_, _]) [] (by kernel_rfl) rfl (fun _ _ _ => .onk (L' := []) rfl (u_ld 4 rfl rfl rfl rfl rfl rfl) rfl) ?_
        refine d_q [] (by kernel_rfl) rfl (fun _ _ _ => .onk (L' := []) rfl (u_p rfl rfl rfl) rfl) ?_
        refine d_q [] (by kernel_rfl) rfl (fun _ _ _ => .onk (L' := []) rfl (u_p rfl rfl rfl) rfl) ?_
        refine d_q [2, 3] (by kernel_rfl) rfl (fun _ _ _ => .onk (L' := [(75, _), (76, _)]) rfl (u_ixa rfl rfl rfl rfl rfl rfl rfl (Int.natCast_nonneg _) (by simp)) rfl) ?_
        refine d_q [4] (by kernel_rfl) rfl (fun _ _ _ => .onk (L' := [(77, _)]) rfl (u_ld 3 rfl rfl rfl rfl rfl rfl) rfl) ?_
        refine d_end (by kernel_rfl) (by kernel_rfl) (by kernel_rfl) (fun bs _ => so_as (L' := [(73, _), (74, _), (75, _), (76, _), (77, _), (78, _)]) (G' := []) rfl rfl ?_)
        refine o_mu 2 KH (t.es[k].id, false) (eFc t.es[k] false) rfl rfl rfl rfl rfl rfl rfl rfl rfl rfl rfl ?_
        refine o_nil ?_
        refine x_go ?_
        refine w_reg ?_
        refine Qv.step (u_p rfl rfl rfl) rfl rfl ?_
        refine Qv.step (u_p rfl rfl rfl) rfl rfl ?_
        refine o_nil ?_
        refine x_rd (1, mset (t.es[k].id, false) (eFc t.es[k] false) fc) 4 (by show 2 - 1 < 2 - 0; omega) ⟨by show 1 ≤ 2; omega, ?_⟩ rfl ⟨rfl, rfl, rfl, rfl, rfl, rfl, rfl, rfl, rfl, rfl, rfl, rfl, trivial⟩
        rw [← hJ]
        show aE1 np (mset (t.es[k].id, false) (eFc t.es[k] false) fc) t.es[k] true = aE2 np fc t.es[k]
        simp [aE2, aE1, hb]
      · skip
        refine w_skip ?_
        refine x_go ?_
        refine w_seq ?_
        refine w_block ?_
        refine w_seq ?_
        refine w_reg ?_
        refine Qv.step (u_p rfl rfl rfl) rfl rfl ?_
        refine Qv.step (u_ix rfl rfl rfl rfl rfl rfl rfl rfl (Int.natCast_nonneg _) (by simp)) rfl rfl ?_
        refine Qv.step (u_lde (r := [.b true]) rfl rfl rfl rfl rfl rfl) rfl rfl ?_
        refine Qv.step (u_p rfl rfl rfl) rfl rfl ?_
        refine Qv.step (u_p rfl rfl rfl) rfl rfl ?_
        refine o_nil ?_
        refine x_go ?_
        refine w_seq ?_
        refine w_reg ?_
        refine Qv.step (u_p rfl rfl rfl) rfl rfl ?_
        refine Qv.step (u_ld 3 rfl rfl rfl rfl rfl rfl) rfl rfl ?_
        refine Qv.step (u_p rfl rfl rfl) rfl rfl ?_
        refine Qv.step (d := .agg [_, _]) (.as (u_bst rfl rfl rfl rfl rfl rfl rfl rfl) rfl) rfl rfl ?_
        refine o_alloc rfl rfl rfl rfl rfl rfl ?_; intro b4
        refine o_st 4 rfl rfl rfl rfl rfl rfl rfl rfl rfl rfl (by first | rfl | kernel_rfl) ?_
        refine o_nil ?_
        refine x_go ?_
        refine w_seq ?_
        refine w_seq ?_
        refine d_begin ?_
        refine d_q [] (by kernel_rfl) rfl (fun _ _ _ => .onk (L' := []) rfl (u_p rfl rfl rfl) rfl) ?_
        refine d_q [] (by kernel_rfl) rfl (fun _ _ _ => .onk (L' := []) rfl (u_p rfl rfl rfl) rfl) ?_
        refine d_q [0, 1] (by kernel_rfl) rfl (fun _ _ _ => .onk (L' := [(55, _), (56, _)]) rfl (u_ixa rfl rfl rfl rfl rfl rfl rfl (Int.natCast_nonneg _) (by simp)) rfl) ?_
        refine d_q (d := .agg [_, _]) [2] (by kernel_rfl) rfl (fun _ _ _ => .onk (L' := [(57, _)]) rfl (u_ld 3 rfl rfl rfl rfl rfl rfl) rfl) ?_
        refine d_q [] (by kernel_rfl) rfl (fun _ _ _ => .onk (L' := []) rfl (u_p rfl rfl rfl) rfl) ?_
        refine d_q (d := .agg [_, _]) [] (by kernel_rfl) rfl (fun _ _ _ => .onk (L' := []) rfl (u_ld 4 rfl rfl rfl rfl rfl rfl) rfl) ?_
        refine d_q [4, 5] (by kernel_rfl) rfl (fun _ _ _ => .onk (L' := [(59, _), (60, _)]) rfl (u_lr KH (t.es[k].id, true) (0, false) rfl rfl rfl rfl rfl rfl rfl rfl rfl) rfl) ?_
        refine d_q [3, 6] (by kernel_rfl) rfl (fun _ _ _ => .onk (L' := [(58, _), (61, _)]) rfl (u_eq rfl rfl rfl rfl rfl rfl rfl rfl rfl rfl rfl rfl) rfl) ?_
        refine d_q [7] (by kernel_rfl) rfl (fun _ _ _ => .onk (L' := [(62, _)]) rfl (u_p rfl rfl rfl) rfl) ?_
        refine d_q (d := .gd _ _ _) [8] (by kernel_rfl) rfl (fun _ _ _ => .onk (L' := [(63, _)]) rfl (q_p (G := [(_, false)]) rfl rfl rfl rfl) rfl) ?_
        refine d_q (d := .gd _ _ _) [8] (by kernel_rfl) rfl (fun _ _ _ => .onk (L' := [(63, _)]) rfl (q_p (G := [(_, false)]) rfl rfl rfl rfl) rfl) ?_
        refine d_q (d := .gd _ _ _) [8, 9, 10] (by kernel_rfl) rfl (fun _ _ _ => .onk (L' := [(63, _), (64, _), (65, _)]) rfl (q_ixa (G := [(_, false)]) rfl rfl rfl rfl rfl rfl rfl rfl (fun _ => (Int.natCast_nonneg _)) (fun _ => (by simp))) rfl) ?_
        refine d_q (d := .gd _ _ (.agg [_, _])) [8, 11] (by kernel_rfl) rfl (fun _ _ _ => .onk (L' := [(63, _), (66, _)]) rfl (q_ld (G := [(_, false)]) 3 rfl rfl rfl rfl rfl rfl rfl) rfl) ?_
        refine d_q (d := .gd _ _ _) [8] (by kernel_rfl) rfl (fun _ _ _ => .onk (L' := [(63, _)]) rfl (q_mvm (G := [(_, false)]) rfl rfl rfl) rfl) ?_
        refine d_q (d := .gd _ _ (.agg [_, _])) [8] (by kernel_rfl) rfl (fun _ _ _ => .onk (L' := [(63, _)]) rfl (q_ld (G := [(_, false)]) 4 rfl rfl rfl rfl rfl rfl rfl) rfl) ?_
        refine d_q (d := .gd _ _ _) [8, 13, 14] (by kernel_rfl) rfl (fun _ _ _ => .onk (L' := [(63, _), (68, _), (69, _)]) rfl (q_lr (G := [(_, false)]) KH (t.es[k].id, true) (0, false) rfl rfl rfl rfl rfl rfl rfl rfl rfl rfl) rfl) ?_
        refine d_q (d := .gd _ _ _) [8, 12, 15] (by kernel_rfl) rfl (fun _ _ _ => .onk (L' := [(63, _), (67, _), (70, _)]) rfl (q_eq (G := [(_, false)]) rfl rfl rfl rfl rfl rfl rfl rfl rfl rfl rfl rfl rfl) rfl) ?_
        refine d_q (d := .v _) [8, 16] (by kernel_rfl) rfl (fun _ _ _ => .onk (L' := [(63, _), (71, _)]) rfl (u_pick rfl rfl rfl rfl rfl rfl rfl rfl rfl) rfl) ?_
        refine d_end (by kernel_rfl) (by kernel_rfl) (by kernel_rfl) (fun bs _ => so_as (L' := [(55, _), (56, _), (57, _), (58, _), (59, _), (60, _), (61, _), (62, _), (63, _), (64, _), (65, _), (66, _), (67, _), (68, _), (69, _), (70, _), (71, _), (72, _)]) (G' := []) rfl rfl ?_)
        refine o_nil ?_
        refine x_go ?_
        refine w_if rfl (fun h => ?_) (fun h => ?_)
        · have hb : aEbad np t.es[k] true = true := Eq.trans (by unfold aEbad eNx ePv sNxt; simp only [h_eqV, bne]; rfl) h
          refine w_seq ?_
          refine w_reg ?_
          refine Qv.step (u_p rfl rfl rfl) rfl rfl ?_
          refine o_nil ?_
          refine x_go ?_
          refine w_ret (x_rt rfl rfl (congrArg (fun n : Int => DV.i n) (fin19 ?_)))
          rw [← hI, ← hJ]
          show (aE1 np fc t.es[k] true).bind _ = none
          simp [aE1, hb]
        
        have hb : aEbad np t.es[k] true = false := Eq.trans (by unfold aEbad eNx ePv sNxt; simp only [h_eqV, bne]; rfl) h
        clear h
        refine w_skip ?_
        refine x_go ?_
        refine d_begin ?_
        refine d_q [] (by kernel_rfl) rfl (fun _ _ _ => .onk (L' := []) rfl (u_p rfl rfl rfl) rfl) ?_
        refine d_q (d := .agg [_, _]) [] (by kernel_rfl) rfl (fun _ _ _ => .onk (L' := []) rfl (u_ld 4 rfl rfl rfl rfl rfl rfl) rfl) ?_
        refine d_q [] (by kernel_rfl) rfl (fun _ _ _ => .onk (L' := []) rfl (u_p rfl rfl rfl) rfl) ?_
        refine d_q [] (by kernel_rfl) rfl (fun _ _ _ => .onk (L' := []) rfl (u_p rfl rfl rfl) rfl) ?_
        refine d_q [2, 3] (by kernel_rfl) rfl (fun _ _ _ => .onk (L' := [(75, _), (76, _)]) rfl (u_ixa rfl rfl rfl rfl rfl rfl rfl (Int.natCast_nonneg _) (by simp)) rfl) ?_
        refine d_q [4] (by kernel_rfl) rfl (fun _ _ _ => .onk (L' := [(77, _)]) rfl (u_ld 3 rfl rfl rfl rfl rfl rfl) rfl) ?_
        refine d_end (by kernel_rfl) (by kernel_rfl) (by kernel_rfl) (fun bs _ => so_as (L' := [(73, _), (74, _), (75, _), (76, _), (77, _), (78, _)]) (G' := []) rfl rfl ?_)
        refine o_mu 2 KH (t.es[k].id, true) (eFc t.es[k] true) rfl rfl rfl rfl rfl rfl rfl rfl rfl rfl rfl ?_
        refine o_nil ?_
        refine x_go ?_
        refine w_reg ?_
        refine Qv.step (u_p rfl rfl rfl) rfl rfl ?_
        refine Qv.step (u_p rfl rfl rfl) rfl rfl ?_
        refine o_nil ?_
        refine x_rd (2, mset (t.es[k].id, true) (eFc t.es[k] true) fc) 4 (by show 2 - 2 < 2 - 1; omega) ⟨by show 2 ≤ 2; omega, ?_⟩ rfl ⟨rfl, rfl, rfl, rfl, rfl, rfl, rfl, rfl, rfl, rfl, rfl, rfl, trivial⟩
        rw [← hJ]
        show some (mset (t.es[k].id, true) (eFc t.es[k] true) fc) = aE1 np fc t.es[k] true
        simp [aE1, hb]
    
    have hj2 : j = 2 := by
      have : ¬ (j : Int) < 2 := by simpa using h
      omega
    clear h
    subst hj2
    simp only at hJ
    rw [← hJ] at hI
    refine w_exit ?_
    refine x_go ?_
    refine w_reg ?_
    refine Qv.step (u_p rfl rfl rfl) rfl rfl ?_
    refine Qv.step (u_p rfl rfl rfl) rfl rfl ?_
    refine o_nil ?_
    exact x_rd (k + 1, fc) 3 (by show t.es.length - (k + 1) < t.es.length - k; omega) ⟨by show k + 1 ≤ _; omega, hI⟩ rfl ⟨rfl, rfl, rfl, rfl, rfl, rfl, rfl, lkS rfl (by omega), trivial⟩
  
  have hge : ¬ k < t.es.length := by simpa using h
  clear h
  rw [List.drop_eq_nil_of_le (by omega)] at hI
  have hC2 : aChk1 t = aChk2 t face0 := hC1 (some face0) hI.symm
  rw [hC2]
  clear hI hC1 fin19 hC2 hnp
  refine w_frm 2 6 (.refl _) rfl rfl ?_
  skip
  have fin19 : aCkV (tPlan t) [] t.vs = none → (19 : Int) = aChk2 t face0 := fun e => by rw [aChk2, e]
  refine w_exit ?_
  refine x_go ?_
  refine w_seq ?_
  refine w_reg ?_
  refine o_mk kI DV.i rfl rfl rfl rfl ?_; intro b3
  refine Qv.step (u_p rfl rfl rfl) rfl rfl ?_
  refine o_nil ?_
  refine x_go ?_
  refine w_seq ?_
  refine w_seq ?_
  refine w_reg ?_
  refine Qv.step (u_p rfl rfl rfl) rfl rfl ?_
  refine Qv.step (u_ld 0 rfl rfl rfl rfl rfl rfl) rfl rfl ?_
  refine Qv.step (u_len rfl rfl rfl rfl rfl rfl) rfl rfl ?_
  refine Qv.step (u_p rfl rfl rfl) rfl rfl ?_
  refine o_nil ?_
  refine x_go ?_
  refine w_block ?_
  
  refine w_loop (fun s : Nat × List (Int × Int) => s.1 ≤ t.vs.length ∧ aCkV (tPlan t) s.2 (t.vs.drop s.1) = aCkV (tPlan t) [] t.vs) (fun s => ([(1, .v (.pointer (some ⟨b0, 0, none⟩))), (3, .v (.pointer (some ⟨b1, 0, none⟩))), (6, mpD kH DV.i face0), (12, .v (.map (some b3))), (83, .sl 4 (t.vs.map rVR)), (84, .i t.vs.length), (85, .i s.1)],
    [cellsR b0 32 (rTab t), cellsR b1 36 (rPl (tPlan t)), unitR, mapR b3 kI DV.i s.2])) (fun s => t.vs.length - s.1) (0, []) ⟨Nat.zero_le _, rfl⟩ ⟨rfl, rfl, rfl, rfl, rfl, lenS rfl, rfl, trivial⟩ rfl ?_
  rintro ⟨k, alone0⟩ ⟨hk, hI⟩
  simp only at hk hI
  refine w_seq ?_
  refine w_reg ?_
  refine Qv.step (u_p rfl rfl rfl) rfl rfl ?_
  refine o_nil ?_
  refine x_go ?_
  refine w_seq ?_
  refine w_if rfl (fun h => ?_) (fun h => ?_)
  · have hlt : k < t.vs.length := by simpa using h
    rw [List.drop_eq_getElem_cons hlt, aCkV] at hI
    clear h
    refine w_skip ?_
    refine x_go ?_
    refine w_seq ?_
    refine w_block ?_
    refine w_seq ?_
    refine w_reg ?_
    refine Qv.step (u_ix rfl rfl rfl rfl rfl rfl rfl rfl (by omega) (by simp; omega)) rfl rfl ?_
    refine Qv.step (d := .agg [_, _, _, _]) (.as (u_lde (r := rVR t.vs[k]) (by simp [hlt]) rfl rfl rfl rfl rfl) rfl) rfl rfl ?_
    refine o_alloc rfl rfl rfl rfl rfl rfl ?_; intro b4
    refine o_st 4 rfl rfl rfl rfl rfl rfl rfl rfl rfl rfl (by first | rfl | kernel_rfl) ?_
    refine o_nil ?_
    refine x_go ?_
    refine w_seq ?_
    refine w_reg ?_
    refine Qv.step (u_p rfl rfl rfl) rfl rfl ?_
    refine Qv.step (u_p rfl rfl rfl) rfl rfl ?_
    refine Qv.step (u_ld 4 rfl rfl rfl rfl rfl rfl) rfl rfl ?_
    refine Qv.step (u_p rfl rfl rfl) rfl rfl ?_
    refine Qv.step (u_ld 4 rfl rfl rfl rfl rfl rfl) rfl rfl ?_
    refine o_mu 3 KI t.vs[k].1 t.vs[k].2.2 rfl rfl rfl rfl rfl rfl rfl rfl rfl rfl rfl ?_
    refine o_nil ?_
    refine x_go ?_
    refine w_seq ?_
    refine w_reg ?_
    refine Qv.step (d := .agg [_, _]) (.as (u_ld 1 rfl rfl rfl rfl rfl rfl) rfl) rfl rfl ?_
    refine Qv.step (u_p rfl rfl rfl) rfl rfl ?_
    refine Qv.step (u_ld 4 rfl rfl rfl rfl rfl rfl) rfl rfl ?_
    refine Qv.step (u_call (Degree_ok (tPlan t) hs2 t.vs[k].1) Try.call22 rfl rfl rfl) rfl rfl ?_
    refine Qv.step (u_p rfl rfl rfl) rfl rfl ?_
    refine Qv.step (u_p rfl rfl rfl) rfl rfl ?_
    refine Qv.step (d := .gd _ _ _) (.as (q_p (G := [(_, true)]) rfl rfl rfl rfl) rfl) rfl rfl ?_
    refine Qv.step (d := .gd _ _ _) (.as (q_ld (G := [(_, true)]) 4 rfl rfl rfl rfl rfl rfl rfl) rfl) rfl rfl ?_
    refine Qv.step (d := .gd _ _ _) (.as (q_p (G := [(_, true)]) rfl rfl rfl rfl) rfl) rfl rfl ?_
    refine Qv.step (d := .v _) (.as (u_pick rfl rfl rfl rfl rfl rfl rfl rfl rfl) rfl) rfl rfl ?_
    refine o_nil ?_
    refine x_go ?_
    refine w_if rfl (fun h => ?_) (fun h => ?_)
    · have hb : aVbad (tPlan t) t.vs[k] = true := Eq.trans (by simp [aVbad, bne]) h
      rw [hb, if_pos rfl] at hI
      refine w_seq ?_
      refine w_reg ?_
      refine Qv.step (u_p rfl rfl rfl) rfl rfl ?_
      refine o_nil ?_
      refine x_go ?_
      exact w_ret (x_rt rfl rfl (congrArg (fun n : Int => DV.i n) (fin19 hI.symm)))
    
    · have hb : aVbad (tPlan t) t.vs[k] = false := Eq.trans (by simp [aVbad, bne]) h
      rw [hb, if_neg (by simp)] at hI
      refine w_skip ?_
      refine x_go ?_
      refine w_reg ?_
      refine Qv.step (u_p rfl rfl rfl) rfl rfl ?_
      refine Qv.step (u_p rfl rfl rfl) rfl rfl ?_
      refine o_nil ?_
      exact x_rd (k + 1, mset t.vs[k].1 t.vs[k].2.2 alone0) 4 (by show t.vs.length - (k + 1) < t.vs.length - k; omega) ⟨by show k + 1 ≤ _; omega, hI⟩ rfl ⟨rfl, rfl, rfl, rfl, rfl, rfl, lkS rfl (by omega), trivial⟩
  
  have hge : ¬ k < t.vs.length := by simpa using h
  clear h
  rw [List.drop_eq_nil_of_le (by omega)] at hI
  have hC3 : aChk2 t face0 = aChk3 t face0 alone0 := by rw [aChk2, ← hI]; rfl
  rw [hC3]
  clear hI hC3 fin19
  refine w_frm 3 12 (.refl _) rfl rfl ?_
  skip
  have fin19 : aCkR face0 alone0 0 [] (mRealms (tPlan t)) = none → (19 : Int) = aChk3 t face0 alone0 := fun e => by rw [aChk3, e]
  have hRl := mRealms_len (tPlan t)
  have hAl := aRings_len (tPlan t)
  refine w_exit ?_
  refine x_go ?_
  refine w_seq ?_
  refine w_reg ?_
  refine o_mk kI DV.b rfl rfl rfl rfl ?_; intro b4
  refine Qv.step (u_p rfl rfl rfl) rfl rfl ?_
  refine o_nil ?_
  refine x_go ?_
  refine w_seq ?_
  refine w_seq ?_
  refine w_reg ?_
  refine Qv.step (d := .agg [_, _]) (.as (u_ld 1 rfl rfl rfl rfl rfl rfl) rfl) rfl rfl ?_
  refine Qv.step (u_call (Realms_ok (tPlan t) (by omega) (by omega) hT hR) Try.call18 rfl rfl rfl) rfl rfl ?_
  refine Qv.step (u_len rfl rfl rfl rfl rfl rfl) rfl rfl ?_
  refine Qv.step (u_p rfl rfl rfl) rfl rfl ?_
  refine o_nil ?_
  refine x_go ?_
  refine w_block ?_
  
  refine w_loop (fun s : Nat × List (Int × Bool) => s.1 ≤ (mRealms (tPlan t)).length ∧ aCkR face0 alone0 s.1 s.2 ((mRealms (tPlan t)).drop s.1) = aCkR face0 alone0 0 [] (mRealms (tPlan t))) (fun s => ([(1, .v (.pointer (some ⟨b0, 0, none⟩))), (6, mpD kH DV.i face0), (12, mpD kI DV.i alone0), (15, .v (.map (some b4))), (107, .sl 3 ((mRealms (tPlan t)).map rRm)), (108, .i (mRealms (tPlan t)).length), (3, .v (.pointer (some ⟨b1, 0, none⟩))), (109, .i s.1)],
    [cellsR b0 32 (rTab t), cellsR b1 36 (rPl (tPlan t)), unitR, unitR, mapR b4 kI DV.b s.2])) (fun s => (mRealms (tPlan t)).length - s.1) (0, []) ⟨Nat.zero_le _, rfl⟩ ⟨rfl, rfl, rfl, rfl, rfl, lenS rfl, rfl, rfl, trivial⟩ rfl ?_
  rintro ⟨k, met⟩ ⟨hk, hI⟩
  simp only at hk hI
  refine w_seq ?_
  refine w_reg ?_
  refine Qv.step (u_p rfl rfl rfl) rfl rfl ?_
  refine o_nil ?_
  refine x_go ?_
  refine w_seq ?_
  refine w_if rfl (fun h => ?_) (fun h => ?_)
  · have hlt : k < (mRealms (tPlan t)).length := by simpa using h
    rw [List.drop_eq_getElem_cons hlt, aCkR] at hI
    clear h
    have hro := mRealms_ok (tPlan t) _ (List.getElem_mem hlt)
    have hou := mRealms_outer (tPlan t) (List.getElem?_eq_getElem hlt)
    generalize hr : (mRealms (tPlan t))[k] = r at hI hro hou
    have hxl : ∀ x ∈ r.1 :: r.2.1, x.length < 1000000000 := fun x hx => by
      rcases List.mem_cons.1 hx with rfl | hx
      · split at hou
        · rw [hou]; decide
        · have := (aRings_ring _ hou).2; omega
      · have := (aRings_ring _ (hro.inn x hx)).2; omega
    refine w_skip ?_
    refine x_go ?_
    refine w_seq ?_
    refine w_block ?_
    refine w_seq ?_
    refine w_reg ?_
    refine Qv.step (u_p rfl rfl rfl) rfl rfl ?_
    refine Qv.step (u_ix rfl rfl rfl rfl rfl rfl rfl rfl (by omega) (by simp; omega)) rfl rfl ?_
    refine Qv.step (d := .agg [_, _, _]) (.as (u_lde (r := rRm r) (by simp [hlt, hr]) rfl rfl rfl rfl rfl) rfl) rfl rfl ?_
    refine o_alloc rfl rfl rfl rfl rfl rfl ?_; intro b5
    refine Qv.step (u_p rfl rfl rfl) rfl rfl ?_
    refine o_st 5 rfl rfl rfl rfl rfl rfl rfl rfl rfl rfl (by first | rfl | kernel_rfl) ?_
    refine o_nil ?_
    refine x_go ?_
    refine w_seq ?_
    refine w_reg ?_
    refine Qv.step (u_p rfl rfl rfl) rfl rfl ?_
    refine o_nil ?_
    refine x_go ?_
    refine w_seq ?_
    refine w_seq ?_
    refine w_reg ?_
    refine Qv.step (u_p rfl rfl rfl) rfl rfl ?_
    refine Qv.step (u_p rfl rfl rfl) rfl rfl ?_
    refine o_nil ?_
    refine x_go ?_
    refine w_if rfl (fun h => ?_) (fun h => ?_)
    · have hk0 : ¬ k = 0 := by have : (k : Int) > 0 := by simpa using h
                               omega
      clear h
      rw [if_neg hk0] at hou
      obtain ⟨hne, _⟩ := aRings_ring _ hou
      have hpos : 0 < r.1.length := List.length_pos_iff.2 hne
      have hh0 : (r.1.map rH)[0]? = some (rH (hd0 r.1)) := by simp [hd0, hpos]
      have hid : aRid face0 k r = (mget (hd0 r.1) face0).getD 0 := if_neg hk0
      refine w_reg ?_
      refine Qv.step (u_p rfl rfl rfl) rfl rfl ?_
      refine Qv.step (u_p rfl rfl rfl) rfl rfl ?_
      refine Qv.step (u_ld 5 rfl rfl rfl rfl rfl rfl) rfl rfl ?_
      refine Qv.step (u_ix rfl rfl rfl rfl rfl rfl rfl rfl (by decide) (by simp; omega)) rfl rfl ?_
      refine Qv.step (d := .agg [_, _]) (.as (u_lde (r := rH (hd0 r.1)) hh0 rfl rfl rfl rfl rfl) rfl) rfl rfl ?_
      refine Qv.step (u_lr KH (hd0 r.1) 0 rfl rfl rfl rfl rfl rfl rfl rfl rfl) rfl rfl ?_
      refine Qv.step (u_p rfl rfl rfl) rfl rfl ?_
      refine o_nil ?_
      refine x_go ?_
      have hone := one_ok r ((mget (hd0 r.1) face0).getD 0) face0 alone0 (by have := hro.len; omega) hxl (by have := hro.alo; omega)
      refine w_seq ?_
      refine w_seq ?_
      refine w_reg ?_
      refine Qv.step (d := .agg [_, _, _]) (.as (u_ld 5 rfl rfl rfl rfl rfl rfl) rfl) rfl rfl ?_
      refine Qv.step (u_p rfl rfl rfl) rfl rfl ?_
      refine Qv.step (u_p rfl rfl rfl) rfl rfl ?_
      refine Qv.step (u_p rfl rfl rfl) rfl rfl ?_
      refine Qv.step (u_call (hone) Try.call23 rfl rfl rfl) rfl rfl ?_
      refine Qv.step (u_p rfl rfl rfl) rfl rfl ?_
      refine Qv.step (u_p rfl rfl rfl) rfl rfl ?_
      refine Qv.step (d := .gd _ _ _) (.as (q_p (G := [(_, false)]) rfl rfl rfl rfl) rfl) rfl rfl ?_
      refine Qv.step (d := .gd _ _ _) (.as (q_p (G := [(_, false)]) rfl rfl rfl rfl) rfl) rfl rfl ?_
      refine Qv.step (d := .gd _ _ _) (.as (q_lo (G := [(_, false)]) 4 KI ((mget (hd0 r.1) face0).getD 0) false rfl rfl rfl rfl rfl rfl rfl rfl rfl rfl rfl) rfl) rfl rfl ?_
      refine Qv.step (d := .v _) (.as (u_pick rfl rfl rfl rfl rfl rfl rfl rfl rfl) rfl) rfl rfl ?_
      refine Qv.step (u_p rfl rfl rfl) rfl rfl ?_
      refine Qv.step (d := .gd _ _ _) (.as (q_p (G := [(_, false)]) rfl rfl rfl rfl) rfl) rfl rfl ?_
      refine Qv.step (d := .gd _ _ _) (.as (q_p (G := [(_, false)]) rfl rfl rfl rfl) rfl) rfl rfl ?_
      refine Qv.step (d := .gd _ _ _) (.as (q_p (G := [(_, false)]) rfl rfl rfl rfl) rfl) rfl rfl ?_
      refine Qv.step (d := .gd _ _ (.gd _ _ _)) (.as (q_p (G := [(_, false), (_, true)]) rfl rfl rfl rfl) rfl) rfl rfl ?_
      refine Qv.step (d := .gd _ _ (.gd _ _ _)) (.as (q_p (G := [(_, false), (_, true)]) rfl rfl rfl rfl) rfl) rfl rfl ?_
      refine Qv.step (d := .gd _ _ (.v _)) (.as (q_pick (G := [(_, false)]) rfl rfl rfl rfl rfl rfl rfl rfl rfl rfl) rfl) rfl rfl ?_
      refine Qv.step (d := .v _) (.as (u_pick rfl rfl rfl rfl rfl rfl rfl rfl rfl) rfl) rfl rfl ?_
      refine o_nil ?_
      refine x_go ?_
      refine w_if rfl (fun h => ?_) (fun h => ?_)
      · have hb : aRbad face0 alone0 met k r = true := Eq.trans (by unfold aRbad; rw [hid]; simp) h
        refine w_seq ?_
        refine w_reg ?_
        refine Qv.step (u_p rfl rfl rfl) rfl rfl ?_
        refine o_nil ?_
        refine x_go ?_
        refine w_ret (x_rt rfl rfl (congrArg (fun n : Int => DV.i n) (fin19 ?_)))
        rw [← hI, hb, if_pos rfl]
      
      · have hb : aRbad face0 alone0 met k r = false := Eq.trans (by unfold aRbad; rw [hid]; simp) h
        clear h
        rw [hb, if_neg (by simp), hid] at hI
        refine w_skip ?_
        refine x_go ?_
        refine w_reg ?_
        refine Qv.step (u_p rfl rfl rfl) rfl rfl ?_
        refine Qv.step (u_p rfl rfl rfl) rfl rfl ?_
        refine o_mu 4 KI ((mget (hd0 r.1) face0).getD 0) true rfl rfl rfl rfl rfl rfl rfl rfl rfl rfl rfl ?_
        refine o_nil ?_
        refine x_go ?_
        refine w_reg ?_
        refine Qv.step (u_p rfl rfl rfl) rfl rfl ?_
        refine Qv.step (u_p rfl rfl rfl) rfl rfl ?_
        refine o_nil ?_
        exact x_rd (k + 1, mset ((mget (hd0 r.1) face0).getD 0) true met) 5 (by show (mRealms (tPlan t)).length - (k + 1) < (mRealms (tPlan t)).length - k; omega) ⟨by show k + 1 ≤ _; omega, hI⟩ rfl ⟨rfl, rfl, rfl, rfl, rfl, rfl, rfl, lkS rfl (by omega), trivial⟩
    
    · have hk0 : k = 0 := by have : ¬ (k : Int) > 0 := by simpa using h
                             omega
      have hid : aRid face0 k r = 0 := if_pos hk0
      clear h
      have hone := one_ok r 0 face0 alone0 (by have := hro.len; omega) hxl (by have := hro.alo; omega)
      refine w_skip ?_
      refine x_go ?_
      refine w_seq ?_
      refine w_seq ?_
      refine w_reg ?_
      refine Qv.step (d := .agg [_, _, _]) (.as (u_ld 5 rfl rfl rfl rfl rfl rfl) rfl) rfl rfl ?_
      refine Qv.step (u_p rfl rfl rfl) rfl rfl ?_
      refine Qv.step (u_p rfl rfl rfl) rfl rfl ?_
      refine Qv.step (u_p rfl rfl rfl) rfl rfl ?_
      refine Qv.step (u_call (hone) Try.call23 rfl rfl rfl) rfl rfl ?_
      refine Qv.step (u_p rfl rfl rfl) rfl rfl ?_
      refine Qv.step (u_p rfl rfl rfl) rfl rfl ?_
      refine Qv.step (d := .gd _ _ _) (.as (q_p (G := [(_, false)]) rfl rfl rfl rfl) rfl) rfl rfl ?_
      refine Qv.step (d := .gd _ _ _) (.as (q_p (G := [(_, false)]) rfl rfl rfl rfl) rfl) rfl rfl ?_
      refine Qv.step (d := .gd _ _ _) (.as (q_lo (G := [(_, false)]) 4 KI 0 false rfl rfl rfl rfl rfl rfl rfl rfl rfl rfl rfl) rfl) rfl rfl ?_
      refine Qv.step (d := .v _) (.as (u_pick rfl rfl rfl rfl rfl rfl rfl rfl rfl) rfl) rfl rfl ?_
      refine Qv.step (u_p rfl rfl rfl) rfl rfl ?_
      refine Qv.step (d := .gd _ _ _) (.as (q_p (G := [(_, false)]) rfl rfl rfl rfl) rfl) rfl rfl ?_
      refine Qv.step (d := .gd _ _ _) (.as (q_p (G := [(_, false)]) rfl rfl rfl rfl) rfl) rfl rfl ?_
      refine Qv.step (d := .gd _ _ _) (.as (q_p (G := [(_, false)]) rfl rfl rfl rfl) rfl) rfl rfl ?_
      refine Qv.step (d := .gd _ _ (.gd _ _ _)) (.as (q_p (G := [(_, false), (_, true)]) rfl rfl rfl rfl) rfl) rfl rfl ?_
      refine Qv.step (d := .gd _ _ (.gd _ _ _)) (.as (q_p (G := [(_, false), (_, true)]) rfl rfl rfl rfl) rfl) rfl rfl ?_
      refine Qv.step (d := .gd _ _ (.v _)) (.as (q_pick (G := [(_, false)]) rfl rfl rfl rfl rfl rfl rfl rfl rfl rfl) rfl) rfl rfl ?_
      refine Qv.step (d := .v _) (.as (u_pick rfl rfl rfl rfl rfl rfl rfl rfl rfl) rfl) rfl rfl ?_
      refine o_nil ?_
      refine x_go ?_
      refine w_if rfl (fun h => ?_) (fun h => ?_)
      · have hb : aRbad face0 alone0 met k r = true := Eq.trans (by unfold aRbad; rw [hid]; simp) h
        refine w_seq ?_
        refine w_reg ?_
        refine Qv.step (u_p rfl rfl rfl) rfl rfl ?_
        refine o_nil ?_
        refine x_go ?_
        refine w_ret (x_rt rfl rfl (congrArg (fun n : Int => DV.i n) (fin19 ?_)))
        rw [← hI, hb, if_pos rfl]
      
      · have hb : aRbad face0 alone0 met k r = false := Eq.trans (by unfold aRbad; rw [hid]; simp) h
        clear h
        rw [hb, if_neg (by simp), hid] at hI
        refine w_skip ?_
        refine x_go ?_
        refine w_reg ?_
        refine Qv.step (u_p rfl rfl rfl) rfl rfl ?_
        refine Qv.step (u_p rfl rfl rfl) rfl rfl ?_
        refine o_mu 4 KI 0 true rfl rfl rfl rfl rfl rfl rfl rfl rfl rfl rfl ?_
        refine o_nil ?_
        refine x_go ?_
        refine w_reg ?_
        refine Qv.step (u_p rfl rfl rfl) rfl rfl ?_
        refine Qv.step (u_p rfl rfl rfl) rfl rfl ?_
        refine o_nil ?_
        exact x_rd (k + 1, mset 0 true met) 5 (by show (mRealms (tPlan t)).length - (k + 1) < (mRealms (tPlan t)).length - k; omega) ⟨by show k + 1 ≤ _; omega, hI⟩ rfl ⟨rfl, rfl, rfl, rfl, rfl, rfl, rfl, lkS rfl (by omega), trivial⟩
  
  have hge : ¬ k < (mRealms (tPlan t)).length := by simpa using h
  clear h
  rw [List.drop_eq_nil_of_le (by omega)] at hI
  have hC4 : aChk3 t face0 alone0 = aEnd t met := by rw [aChk3, ← hI]; rfl
  rw [hC4]
  clear hI hC4 fin19
  refine w_exit ?_
  refine x_go ?_
  refine w_seq ?_
  refine w_seq ?_
  refine w_reg ?_
  refine Qv.step (u_p rfl rfl rfl) rfl rfl ?_
  refine Qv.step (u_ld 0 rfl rfl rfl rfl rfl rfl) rfl rfl ?_
  refine Qv.step (u_len rfl rfl rfl rfl rfl rfl) rfl rfl ?_
  refine Qv.step (u_p rfl rfl rfl) rfl rfl ?_
  refine o_nil ?_
  refine x_go ?_
  refine w_block ?_
  
  refine w_loop (fun k : Nat => k ≤ t.fs.length ∧ aCkF met (t.fs.drop k) = aCkF met t.fs) (fun k => ([(1, .v (.pointer (some ⟨b0, 0, none⟩))), (15, .v (.map (some b4))), (145, .sl 2 (t.fs.map rF)), (146, .i t.fs.length), (147, .i k)],
    [cellsR b0 32 (rTab t), cellsR b1 36 (rPl (tPlan t)), unitR, unitR, mapR b4 kI DV.b met])) (fun k => t.fs.length - k) 0 ⟨Nat.zero_le _, rfl⟩ ⟨rfl, rfl, rfl, lenS rfl, rfl, trivial⟩ rfl ?_
  rintro k ⟨hk, hI⟩
  refine w_seq ?_
  refine w_reg ?_
  refine Qv.step (u_p rfl rfl rfl) rfl rfl ?_
  refine o_nil ?_
  refine x_go ?_
  refine w_seq ?_
  refine w_if rfl (fun h => ?_) (fun h => ?_)
  · have hlt : k < t.fs.length := by simpa using h
    rw [List.drop_eq_getElem_cons hlt, aCkF, List.all_cons] at hI
    clear h
    refine w_skip ?_
    refine x_go ?_
    refine w_seq ?_
    refine w_block ?_
    refine w_seq ?_
    refine w_reg ?_
    refine Qv.step (u_ix rfl rfl rfl rfl rfl rfl rfl rfl (by omega) (by simp; omega)) rfl rfl ?_
    refine Qv.step (d := .agg [_, _]) (.as (u_lde (r := rF t.fs[k]) (by simp [hlt]) rfl rfl rfl rfl rfl) rfl) rfl rfl ?_
    refine o_alloc rfl rfl rfl rfl rfl rfl ?_; intro b5
    refine o_st 5 rfl rfl rfl rfl rfl rfl rfl rfl rfl rfl (by first | rfl | kernel_rfl) ?_
    refine o_nil ?_
    refine x_go ?_
    refine w_seq ?_
    refine w_reg ?_
    refine Qv.step (u_p rfl rfl rfl) rfl rfl ?_
    refine Qv.step (u_p rfl rfl rfl) rfl rfl ?_
    refine Qv.step (u_ld 5 rfl rfl rfl rfl rfl rfl) rfl rfl ?_
    refine Qv.step (u_lo 4 KI t.fs[k].1 false rfl rfl rfl rfl rfl rfl rfl rfl rfl rfl) rfl rfl ?_
    refine Qv.step (u_p rfl rfl rfl) rfl rfl ?_
    refine o_nil ?_
    refine x_go ?_
    refine w_if rfl (fun h => ?_) (fun h => ?_)
    · have hb : (mget t.fs[k].1 met).getD false = false := by simpa using h
      rw [hb, Bool.false_and] at hI
      refine w_seq ?_
      refine w_reg ?_
      refine Qv.step (u_p rfl rfl rfl) rfl rfl ?_
      refine o_nil ?_
      refine x_go ?_
      refine w_ret (x_rt rfl rfl (congrArg (fun n : Int => DV.i n) ?_))
      rw [aEnd, ← hI, if_neg (by simp)]
    
    · have hb : (mget t.fs[k].1 met).getD false = true := by simpa using h
      rw [hb, Bool.true_and] at hI
      refine w_skip ?_
      refine x_go ?_
      refine w_reg ?_
      refine Qv.step (u_p rfl rfl rfl) rfl rfl ?_
      refine Qv.step (u_p rfl rfl rfl) rfl rfl ?_
      refine o_nil ?_
      exact x_rd (k + 1) 5 (by omega) ⟨by omega, hI⟩ rfl ⟨rfl, rfl, rfl, rfl, lkS rfl (by omega), trivial⟩
  
  have hge : ¬ k < t.fs.length := by simpa using h
  clear h
  rw [List.drop_eq_nil_of_le (by omega)] at hI
  refine w_exit ?_
  refine x_go ?_
  refine w_seq ?_
  refine w_seq ?_
  refine w_reg ?_
  refine Qv.step (u_p rfl rfl rfl) rfl rfl ?_
  refine Qv.step (u_mlen 4 rfl rfl rfl rfl rfl rfl rfl) rfl rfl ?_
  refine Qv.step (u_p rfl rfl rfl) rfl rfl ?_
  refine Qv.step (u_ld 0 rfl rfl rfl rfl rfl rfl) rfl rfl ?_
  refine Qv.step (u_len rfl rfl rfl rfl rfl rfl) rfl rfl ?_
  refine Qv.step (u_p rfl rfl rfl) rfl rfl ?_
  refine o_nil ?_
  refine x_go ?_
  refine w_if rfl (fun h => ?_) (fun h => ?_)
  · have hb : (((met.length : Nat) : Int) != ((t.fs.length : Nat) : Int)) = true := Eq.trans (by rw [List.length_map]) h
    refine w_seq ?_
    refine w_reg ?_
    refine Qv.step (u_p rfl rfl rfl) rfl rfl ?_
    refine o_nil ?_
    refine x_go ?_
    refine w_ret (x_rt rfl rfl (congrArg (fun n : Int => DV.i n) ?_))
    rw [aEnd, ← hI, if_pos (by rfl), if_pos hb]
  
  · have hb : (((met.length : Nat) : Int) != ((t.fs.length : Nat) : Int)) = false := Eq.trans (by rw [List.length_map]) h
    refine w_skip ?_
    refine x_go ?_
    refine w_seq ?_
    refine w_reg ?_
    refine Qv.step (u_p rfl rfl rfl) rfl rfl ?_
    refine o_nil ?_
    refine x_go ?_
    refine w_ret (x_rt rfl rfl (congrArg (fun n : Int => DV.i n) ?_))
    rw [aEnd, ← hI, if_pos (by rfl), if_neg (by rw [hb]; simp)]
end Go.Proofs.Ytcdakcemcehfiaa
