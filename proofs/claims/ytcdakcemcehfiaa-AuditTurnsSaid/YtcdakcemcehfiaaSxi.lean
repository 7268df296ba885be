/- The walk library, part i: a drawn region, operation by operation. -/
import Derived.Test.YtcdakcemcehfiaaSxh
namespace Go.Proofs.Ytcdakcemcehfiaa
open Go Go.RowKit

section
variable {C : Cx} {E : En} {K : Kn} {Γ : List Res} {Q : Exit → Act → World → Prop}

theorem gpo_mono {ops : Array Oper} {K K' : Kn} (h : ∀ s d, lk K' s = some d → lk K s = some d) : ∀ {g : Option (Nat × Bool)} {G : List (Bool × Bool)}, gpo ops K' g = some G → gpo ops K g = some G
  | none, G, hg => hg
  | some (j, want), G, hg => by
    simp only [gpo] at hg ⊢
    split at hg <;> first | (simp only [reduceCtorEq] at hg; done) | skip
    rename_i s hs
    split at hg <;> first | (simp only [reduceCtorEq] at hg; done) | skip
    rename_i d hd
    rw [h s d hd]
    exact hg

theorem Qv.mono {ops : Array Oper} {K K' : Kn} {o : Oper} {d : DV} (h : ∀ s d, lk K' s = some d → lk K s = some d) (q : Qv C E ops K' Γ o d) : Qv C E ops K Γ o d := by
  obtain ⟨G, d0, hg, hd, hq⟩ := q
  exact ⟨G, d0, gpo_mono h hg, hd, fun a w hT s f => hq a w hT s (f.less h)⟩

theorem lk_kd_mem {l : List Oper} {m N : Nat} (hsl : slotsOk N K (dsts l m) = true) {S : List Sp} {bs : Nat → Nat} {c : Value} {s j : Nat} {o : Oper} {x : Sp} (hj : j < m) (ho : l[j]? = some o) (hs : o.dst = some s) (hx : S[j]? = some x) :
    ∀ {js : List Nat}, (∀ i ∈ js, i < m) → j ∈ js → lk (kd l S bs c js) s = some (spD bs c j x)
  | [], _, h => by simp at h
  | i :: js, hm, h => by
    have hds := dsts_get hj ho
    rw [hs] at hds
    simp only [kd]
    by_cases hij : i = j
    · subst hij
      simp [ho, hs, hx, lk, Nat.beq_refl]
    · have hj' : j ∈ js := by
        rcases List.mem_cons.1 h with e | e
        · exact absurd e.symm hij
        · exact e
      have ih := lk_kd_mem hsl (bs := bs) (c := c) hj ho hs hx (fun i hi => hm i (List.mem_cons_of_mem _ hi)) hj'
      split
      · rename_i t y h1 h2
        simp only [lk]
        have hne : Nat.beq t s = false := by
          cases hb : Nat.beq t s with
          | false => rfl
          | true =>
            exfalso
            have e := Nat.eq_of_beq_eq_true hb
            cases hoi : l[i]? with
            | none => simp [hoi] at h1
            | some oi =>
              have hdi := dsts_get (hm i (by simp)) hoi
              have : oi.dst = some t := by simpa [hoi] using h1
              rw [this, e] at hdi
              rcases Nat.lt_or_ge i j with hl | hl
              · exact slotsOk_ne hsl hl hdi hds rfl
              · exact slotsOk_ne hsl (by omega) hds hdi rfl
        rw [hne, cond_false]
        exact ih
      · exact ih

/-- What is known of fewer is known of more. -/
theorem kd_sub {l : List Oper} {m N : Nat} (hsl : slotsOk N K (dsts l m) = true) {S S' : List Sp} {bs : Nat → Nat} {c : Value} {js js' : List Nat} (hm : ∀ i ∈ js, i < m) (hsub : ∀ j ∈ js', j ∈ js)
    (hS : ∀ j ∈ js', ∀ x, S'[j]? = some x → S[j]? = some x) : ∀ s d, lk (kd l S' bs c js' ++ K) s = some d → lk (kd l S bs c js ++ K) s = some d := by
  intro s d h
  rw [lk_append] at h ⊢
  cases hk : lk (kd l S' bs c js') s with
  | some d' =>
    rw [hk] at h
    simp at h
    subst h
    obtain ⟨j, hj, o, x, ho, hds, hx, rfl⟩ := lk_kd hk
    rw [lk_kd_mem hsl (hm j (hsub j hj)) ho hds (hS j hj x hx) hm (hsub j hj)]
  | none =>
    rw [hk] at h
    simp only at h
    cases hk' : lk (kd l S bs c js) s with
    | none => exact h
    | some d' =>
      exfalso
      obtain ⟨j, hj, o, x, ho, hds, hx, _⟩ := lk_kd hk'
      have hd := dsts_get (hm j hj) ho
      rw [hds] at hd
      have := (slotsOk_lt hsl hd).2
      rw [h] at this
      cases this

/-- js lie surely ahead of operation n. -/
def subB (l : List Oper) (n : Nat) : List Nat → Bool
  | [] => true
  | j :: js => Nat.blt j n && ((msks l []).getD n 0).testBit j && subB l n js
theorem subB_ok {l : List Oper} {n : Nat} : ∀ {js : List Nat}, subB l n js = true → ∀ j ∈ js, j < n ∧ ((msks l []).getD n 0).testBit j = true
  | [], _, j, h => by simp at h
  | x :: js, hb, j, h => by
    simp only [subB, Bool.and_eq_true] at hb
    rcases List.mem_cons.1 h with rfl | h
    · exact ⟨by have := hb.1.1; simpa [Nat.blt_eq] using this, hb.1.2⟩
    · exact subB_ok hb.2 j h

/-- What must hold of the next operation, when those of acc have been looked at. js: the operations of the region whose slots it reads. -/
def ObX (C : Cx) (E : En) (l : List Oper) (K : Kn) (Γs : Nat → Value → List Res) (n : Nat) (acc : List Sp) (o : Oper) : Sp → Prop
  | .q d => ∃ js, subB l n js = true ∧ ∀ bs c st Γx, Qv C E l.toArray (kd l acc bs c js ++ K) (Γs st c ++ Γx) o d
  | .al T ds => o.guard = none ∧ ∃ e, o.op = .alloc T ∧ lkT C.T T = some e ∧ ones e.zero = true ∧ ds = e.zero.map zD
  | .ef f => o.guard = none ∧ ∃ js st, subB l n js = true ∧ efs acc (fun j => decide (j < n)) = st ∧ ∀ bs c Γx, ∀ a w, St E w (Γs st c ++ Γx) →
      Fr E.N (kd l acc bs c js ++ K) (av E (Γs st c ++ Γx)) w a →
      ∀ (Kc : Act → World → Prop) (Qx : Exit → Act → World → Prop),
        (∀ v c' w', (st = 0 ∨ c' = c) → St E w' (Γs (st + 1) c' ++ Γx) → Mv E (Γs st c ++ Γx) w (Γs (st + 1) c' ++ Γx) w' →
          Rep (av E (Γs (st + 1) c' ++ Γx)) w' v (f c') → Kc (a.put o.dst v) w') → o.wp C.P a w Kc Qx
  | .sa j new => o.guard = none ∧ o.dst = none ∧ (saAt acc 0 j = none) ∧ ∃ js, subB l n js = true ∧ subB l n [j] = true ∧ ∃ (T : TypeId) (ds : List DV) (t : TypeId) (x y : Operand) (e : TyE) (d : DV), acc[j]? = some (.al T ds) ∧ o.op = .store t x y ∧ cellsOf d = some new ∧ all1 new = true ∧
      lkT C.T t = some e ∧ Nat.beq new.length e.size = true ∧ new.length = ds.length ∧
      ∀ bs c, ev (kd l acc bs c js ++ K) x = some (.v (.pointer (some ⟨bs j, 0, none⟩))) ∧ ev (kd l acc bs c js ++ K) y = some d
def Ob (C : Cx) (E : En) (l : List Oper) (K : Kn) (Γs : Nat → Value → List Res) (acc : List Sp) (x : Sp) : Prop :=
  ∃ o, l[acc.length]? = some o ∧ ObX C E l K Γs acc.length acc o x

def Obs (C : Cx) (E : En) (l : List Oper) (K : Kn) (Γs : Nat → Value → List Res) : List Sp → List Sp → Prop
  | _, [] => True
  | acc, x :: rest => Ob C E l K Γs acc x ∧ Obs C E l K Γs (acc ++ [x]) rest

theorem lenB_self : ∀ S : List Sp, lenB S S.length = true
  | [] => rfl
  | _ :: S => lenB_self S

theorem efs_take {S : List Sp} {i : Nat} (hi : i ≤ S.length) : efs (S.take i) (fun j => decide (j < i)) = efs S (fun j => decide (j < i)) := by
  unfold efs
  rw [List.length_take, Nat.min_eq_left hi]
  obtain ⟨n, hn⟩ : ∃ n, S.length = i + n := ⟨S.length - i, by omega⟩
  rw [hn, List.range_add, List.countP_append]
  have h0 : ((List.range n).map (i + ·)).countP (fun j => decide (j < i) && isE S j) = 0 := by
    rw [List.countP_eq_zero]
    intro j hj
    obtain ⟨k, _, rfl⟩ := List.mem_map.1 hj
    have : ¬ i + k < i := by omega
    simp [this]
  rw [h0, Nat.add_zero]
  apply List.countP_congr
  intro j hj
  have hji := List.mem_range.1 hj
  have : isE (S.take i) j = isE S j := by simp [isE, hji]
  rw [this]

theorem saAt_app {new : List DV} {j : Nat} {rest : List Sp} : ∀ {S : List Sp} {k : Nat}, saAt S k j = none → saAt (S ++ .sa j new :: rest) k j = some (k + S.length, new)
  | [], k, _ => by simp [saAt, Nat.beq_refl]
  | .sa j' n :: S, k, h => by
    simp only [saAt] at h
    split at h
    · cases h
    · rename_i hb
      simp only [List.cons_append, saAt, hb, List.length_cons]
      rw [if_neg (by simp), saAt_app (S := S) h]
      congr 2; omega
  | .q _ :: S, k, h => by
    simp only [List.cons_append, saAt, List.length_cons]
    rw [saAt_app (S := S) h]
    congr 2; omega
  | .al _ _ :: S, k, h => by
    simp only [List.cons_append, saAt, List.length_cons]
    rw [saAt_app (S := S) h]
    congr 2; omega
  | .ef _ :: S, k, h => by
    simp only [List.cons_append, saAt, List.length_cons]
    rw [saAt_app (S := S) h]
    congr 2; omega

theorem obs_spsOk {l : List Oper} {Γs : Nat → Value → List Res} {S : List Sp} (hsl : slotsOk E.N K (dsts l S.length) = true) : ∀ (rest acc : List Sp) (l' : List Oper), acc ++ rest = S → l.drop acc.length = l' → Obs C E l K Γs acc rest → SpsOk C E l S.length S K Γs acc.length l' rest
  | [], acc, l', _, _, _ => by cases l' <;> trivial
  | x :: rest, acc, l', hS, hl, ho => by
    obtain ⟨⟨o, hol, hok⟩, hrest⟩ := ho
    have hlt : acc.length < l.length := by
      rcases Nat.lt_or_ge acc.length l.length with h | h
      · exact h
      · rw [List.getElem?_eq_none h] at hol; cases hol
    rw [List.drop_eq_getElem_cons hlt] at hl
    have hoo : l[acc.length] = o := by
      rw [List.getElem?_eq_getElem hlt] at hol
      exact Option.some.inj hol
    subst hl
    have hlen : acc.length ≤ S.length := by rw [← hS]; simp
    have hacc : S.take acc.length = acc := by rw [← hS]; simp
    refine ⟨?_, by have := obs_spsOk hsl rest (acc ++ [x]) (l.drop (acc.length + 1)) (by simp [hS]) (by simp) hrest; simpa using this⟩
    rw [hoo]
    have hsub : ∀ js, subB l acc.length js = true → ∀ bs c, ∀ s d, lk (kd l acc bs c js ++ K) s = some d → lk (kd l S bs c ((List.range S.length).filter fun j => ((msks l []).getD acc.length 0).testBit j) ++ K) s = some d := by
      intro js hjs bs c
      refine kd_sub hsl (fun i hi => List.mem_range.1 (List.mem_filter.1 hi).1) (fun j hj => ?_) (fun j hj x hx => ?_)
      · have := subB_ok hjs j hj
        exact List.mem_filter.2 ⟨List.mem_range.2 (by have := this.1; omega), this.2⟩
      · have := (subB_ok hjs j hj).1
        rw [← hS, List.getElem?_append_left this]
        exact hx
    have hef := efs_take hlen
    rw [hacc] at hef
    cases x with
    | q d =>
      obtain ⟨js, hjs, hok⟩ := hok
      exact fun bs c st Γx => (hok bs c st Γx).mono (hsub js hjs bs c)
    | al T ds => exact hok
    | ef f =>
      obtain ⟨hg, js, st, hjs, hst, h⟩ := hok
      subst hst
      rw [hef] at h
      exact ⟨hg, fun bs c Γx a w s fr => h bs c Γx a w s (fr.less (hsub js hjs bs c))⟩
    | sa j new =>
      obtain ⟨hg, hdst, hno, js, hjs, hj1, T, ds, t, xo, yo, e, d, hSj, hop, hcd, h1, ht, hl, hnl, hkk⟩ := hok
      have hjb := subB_ok hj1 j (by simp)
      refine ⟨hg, hdst, ?_, hjb.2, T, ds, t, xo, yo, e, d, ?_, hop, hcd, h1, ht, hl, hnl, fun bs c => ?_⟩
      · rw [← hS]
        have := saAt_app (rest := rest) (new := new) (k := 0) hno
        simpa using this
      · rw [← hS, List.getElem?_append_left hjb.1]; exact hSj
      · have hev : ∀ x d, ev (kd l acc bs c js ++ K) x = some d → ev (kd l S bs c ((List.range S.length).filter fun j => ((msks l []).getD acc.length 0).testBit j) ++ K) x = some d := by
          intro x d h
          cases x with
          | tmp t => exact hsub js hjs bs c t d h
          | const v => exact h
          | global g => exact h
          | func f => exact h
        exact ⟨hev _ _ (hkk bs c).1, hev _ _ (hkk bs c).2⟩

/-- The slots of the operations out of js, as R (what has been looked at, the last ahead) knows them. -/
def kq (l : List Oper) (R : List Sp) (n : Nat) (bs : Nat → Nat) (c : Value) : List Nat → Kn
  | [] => []
  | j :: js => match (l[j]?).bind (·.dst), R[n - 1 - j]? with
    | some s, some (.q d) => (s, d) :: kq l R n bs c js
    | some s, some (.al _ _) => (s, .v (.pointer (some ⟨bs j, 0, none⟩))) :: kq l R n bs c js
    | some s, some (.ef f) => (s, f c) :: kq l R n bs c js
    | some s, some (.sa _ _) => (s, .v undef) :: kq l R n bs c js
    | _, _ => kq l R n bs c js

theorem kq_eq {l : List Oper} {R : List Sp} {bs : Nat → Nat} {c : Value} : ∀ {js : List Nat}, (∀ j ∈ js, j < R.length) → kq l R R.length bs c js = kd l R.reverse bs c js
  | [], _ => rfl
  | j :: js, h => by
    have hj : j < R.length := h j (by simp)
    simp only [kq, kd, List.getElem?_reverse hj, kq_eq (js := js) fun i hi => h i (List.mem_cons_of_mem _ hi)]
    cases (l[j]?).bind (·.dst) with
    | none => cases R[R.length - 1 - j]? <;> rfl
    | some s =>
      cases R[R.length - 1 - j]? with
      | none => rfl
      | some x => cases x <;> rfl

/-- A drawn region, of which the n operations of R have been looked at (the last ahead). -/
def DG (C : Cx) (E : En) (id : Nat) (l : List Oper) (K : Kn) (Γ : List Res) (Q : Exit → Act → World → Prop) (Γs : Nat → Value → List Res) (n : Nat) (R : List Sp) : Prop :=
  R.length = n → (∀ rest, Obs C E l K Γs R.reverse rest → Obs C E l K Γs [] (R.reverse ++ rest)) → SW C E (.region id l.toArray true) K Γ Q

theorem d_begin {id : Nat} {l : List Oper} (h : DG C E id l K Γ Q (fun _ _ => Γ) 0 []) : SW C E (.region id l.toArray true) K Γ Q := h rfl fun _ h => h
theorem d_beginE {id : Nat} {l : List Oper} (Γs : Nat → Value → List Res) (h : DG C E id l K Γ Q Γs 0 []) : SW C E (.region id l.toArray true) K Γ Q := h rfl fun _ h => h

theorem d_next {id : Nat} {l : List Oper} {Γs : Nat → Value → List Res} {n : Nat} {R : List Sp} {o : Oper} {x : Sp} (ho : l[n]? = some o) (h : R.length = n → ObX C E l K Γs n R.reverse o x) (k : DG C E id l K Γ Q Γs (n + 1) (x :: R)) : DG C E id l K Γ Q Γs n R := by
  intro hn hp
  have h := h hn
  subst hn
  exact k (by simp) fun rest hr => by
    have := hp (x :: rest) ⟨⟨o, by simpa using ho, by simpa using h⟩, by simpa using hr⟩
    simpa using this

/-- The next operation is quiet. -/
theorem d_q {id : Nat} {l : List Oper} {n : Nat} {R : List Sp} {o : Oper} {d : DV} (js : List Nat) (hj : subB l n js = true) (ho : l[n]? = some o)
    (h : ∀ bs c Γx, Qv C E l.toArray (kq l R n bs c js ++ K) (Γ ++ Γx) o d)
    (k : DG C E id l K Γ Q (fun _ _ => Γ) (n + 1) (.q d :: R)) : DG C E id l K Γ Q (fun _ _ => Γ) n R :=
  d_next (x := .q d) ho (fun hn => ⟨js, hj, fun bs c _ Γx => by
    have h := h bs c Γx
    rw [← hn, kq_eq fun j hi => by have := (subB_ok hj j hi).1; omega] at h
    exact h⟩) k

/-- The next operation is quiet, whatever effects have been carried out. -/
theorem d_qE {id : Nat} {l : List Oper} {Γs : Nat → Value → List Res} {n : Nat} {R : List Sp} {o : Oper} {d : DV} (js : List Nat) (hj : subB l n js = true) (ho : l[n]? = some o)
    (h : ∀ bs c st Γx, Qv C E l.toArray (kq l R n bs c js ++ K) (Γs st c ++ Γx) o d)
    (k : DG C E id l K Γ Q Γs (n + 1) (.q d :: R)) : DG C E id l K Γ Q Γs n R :=
  d_next (x := .q d) ho (fun hn => ⟨js, hj, fun bs c st Γx => by
    have h := h bs c st Γx
    rw [← hn, kq_eq fun j hi => by have := (subB_ok hj j hi).1; omega] at h
    exact h⟩) k

/-- A new block of the region is written whole. -/
theorem d_sa {id : Nat} {l : List Oper} {Γs : Nat → Value → List Res} {n : Nat} {R : List Sp} {o : Oper} {new ds : List DV} {T t : TypeId} {x y : Operand} {e : TyE} {d : DV} (j : Nat) (js : List Nat) (hj : (subB l n js && subB l n [j]) = true) (ho : l[n]? = some o) (hop : o.op = .store t x y) (hg : o.guard = none) (hdst : o.dst = none)
    (hno : (saAt R.reverse 0 j).isNone = true) (hR : R[n - 1 - j]? = some (.al T ds))
    (hx : ∀ bs c, ev (kq l R n bs c js ++ K) x = some (.v (.pointer (some ⟨bs j, 0, none⟩)))) (hy : ∀ bs c, ev (kq l R n bs c js ++ K) y = some d)
    (hcd : cellsOf d = some new) (h1 : all1 new = true) (ht : lkT C.T t = some e) (hl : Nat.beq new.length e.size = true) (hnl : Nat.beq new.length ds.length = true)
    (k : DG C E id l K Γ Q Γs (n + 1) (.sa j new :: R)) : DG C E id l K Γ Q Γs n R := by
  simp only [Bool.and_eq_true] at hj
  refine d_next (x := .sa j new) ho (fun hn => ⟨hg, hdst, by simpa using hno, js, hj.1, hj.2, T, ds, t, x, y, e, d, ?_, hop, hcd, h1, ht, hl, Nat.eq_of_beq_eq_true hnl, fun bs c => ?_⟩) k
  · have hjn := (subB_ok hj.2 j (by simp)).1
    rw [List.getElem?_reverse (by omega), hn]
    exact hR
  · have hx := hx bs c
    have hy := hy bs c
    rw [← hn, kq_eq fun j hi => by have := (subB_ok hj.1 j hi).1; omega] at hx hy
    exact ⟨hx, hy⟩

/-- An effect: js the operations it reads, st how many effects lie ahead. -/
theorem d_ef {id : Nat} {l : List Oper} {Γs : Nat → Value → List Res} {n : Nat} {R : List Sp} {o : Oper} {f : Value → DV} (js : List Nat) (st : Nat) (hj : subB l n js = true) (ho : l[n]? = some o) (hg : o.guard = none)
    (hst : Nat.beq (efs R.reverse (fun j => Nat.blt j n)) st = true)
    (h : ∀ bs c Γx, ∀ a w, St E w (Γs st c ++ Γx) →
      Fr E.N (kq l R n bs c js ++ K) (av E (Γs st c ++ Γx)) w a →
      ∀ (Kc : Act → World → Prop) (Qx : Exit → Act → World → Prop),
        (∀ v c' w', (st = 0 ∨ c' = c) → St E w' (Γs (st + 1) c' ++ Γx) → Mv E (Γs st c ++ Γx) w (Γs (st + 1) c' ++ Γx) w' →
          Rep (av E (Γs (st + 1) c' ++ Γx)) w' v (f c') → Kc (a.put o.dst v) w') → o.wp C.P a w Kc Qx)
    (k : DG C E id l K Γ Q Γs (n + 1) (.ef f :: R)) : DG C E id l K Γ Q Γs n R :=
  d_next (x := .ef f) ho (fun hn => ⟨hg, js, st, hj, by
    have := Nat.eq_of_beq_eq_true hst
    rw [← this]
    congr 1
    funext j
    have : Nat.blt j n = decide (j < n) := by
      rw [Bool.eq_iff_iff, Nat.blt_eq, decide_eq_true_iff]
    rw [this], fun bs c Γx a w s fr => by
    refine h bs c Γx a w s ?_
    rw [← hn, kq_eq fun j hi => by have := (subB_ok hj j hi).1; omega]
    exact fr⟩) k

/-- One own thing is turned by the region's one effect. -/
theorem d_begin1 {id : Nat} {l : List Oper} (i : Nat) (r R' : Res) (_ : Γ[i]? = some r) (h : DG C E id l K Γ Q (fun st _ => Γ.set i (match st with | 0 => r | _ => R')) 0 []) : SW C E (.region id l.toArray true) K Γ Q := h rfl fun _ h => h

theorem d_st {id : Nat} {l : List Oper} {Γs : Nat → Value → List Res} {n : Nat} {R : List Sp} {o : Oper} (i : Nat) {T t b p : Nat} {x y : Operand} {ds new : List DV} {e : TyE} {d : DV} (js : List Nat) (st : Nat) (hj : subB l n js = true) (ho : l[n]? = some o) (hop : o.op = .store t x y) (hg : o.guard = none)
    (hst : Nat.beq (efs R.reverse (fun j => Nat.blt j n)) st = true)
    (hx : ∀ bs c, ev (kq l R n bs c js ++ K) x = some (.v (.pointer (some ⟨b, p, none⟩)))) (hy : ∀ bs c, ev (kq l R n bs c js ++ K) y = some d) (hd : cellsOf d = some new) (h1 : all1 new = true)
    (hi : ∀ c Γx, (Γs st c ++ Γx)[i]? = some (cellsR b T ds)) (ht : lkT C.T t = some e) (hl : Nat.beq new.length e.size = true) (hle : Nat.ble (p + new.length) ds.length = true)
    (hΓ : ∀ c Γx, (Γs st c ++ Γx).set i (cellsR b T (spl ds p new)) = Γs (st + 1) c ++ Γx)
    (k : DG C E id l K Γ Q Γs (n + 1) (.ef (fun _ => .v undef) :: R)) : DG C E id l K Γ Q Γs n R := by
  refine d_ef (f := fun _ => .v undef) js st hj ho hg hst (fun bs c Γx a w s f Kc Qx hK => ?_) k
  obtain ⟨w', h2, hu⟩ := st_sem (C := C) s (f.evl (hy bs c)) hd h1 (hi c Γx) ht hl hle
  rw [hΓ] at hu
  have hrun : (execOp a.eval o).run C.P w = .ok .skip w' := by
    unfold execOp
    simp only [hop, Instr.storeAt, (f.evl (hx bs c)).v_inv, Instr.sureAddr, Sem.run_bind, Sem.run_pure, Result.andThen_ok, h2]
  unfold Oper.wp
  rw [hrun]
  exact hK undef c w' (.inr rfl) hu.1 hu.2 (.v _)

theorem d_al {id : Nat} {l : List Oper} {Γs : Nat → Value → List Res} {n : Nat} {R : List Sp} {o : Oper} {T : TypeId} {e : TyE} {ds : List DV} (ho : l[n]? = some o) (hg : o.guard = none) (hop : o.op = .alloc T) (ht : lkT C.T T = some e) (h1 : ones e.zero = true) (hd : e.zero.map zD = ds)
    (k : DG C E id l K Γ Q Γs (n + 1) (.al T ds :: R)) : DG C E id l K Γ Q Γs n R := d_next (x := .al T ds) ho (fun _ => ⟨hg, e, hop, ht, h1, hd.symm⟩) k

/-- What is known of the region's slots is written as L. -/
theorem Qv.onk {ops : Array Oper} {L L' K : Kn} {o : Oper} {d d' : DV} (e : L = L') (h : Qv C E ops (L' ++ K) Γ o d') (hd : d' = d) : Qv C E ops (L ++ K) Γ o d := by subst e; subst hd; exact h
theorem so_as {ops : Array Oper} {l : List Oper} {L L' : Kn} {G G' : List Res} (e : L = L') (e2 : G = G') (h : SO C E ops l (L' ++ K) (Γ ++ G') Q) : SO C E ops l (L ++ K) (Γ ++ G) Q := by subst e; subst e2; exact h

theorem so_asE {ops : Array Oper} {l : List Oper} {L L' : Kn} {Γ' G G' : List Res} (e : L = L') (e2 : G = G') (e3 : Γ = Γ') (h : SO C E ops l (L' ++ K) (Γ' ++ G') Q) : SO C E ops l (L ++ K) (Γ ++ G) Q := by subst e; subst e2; subst e3; exact h
/-- Two own things are turned, one behind the other; one is turned twice. -/
theorem d_begin2 {id : Nat} {l : List Oper} (i i2 : Nat) (r r2 R1 R2 : Res) (_ : Γ[i]? = some r) (_ : Γ[i2]? = some r2) (h : DG C E id l K Γ Q (fun st _ => (Γ.set i (match st with | 0 => r | _ => R1)).set i2 (match st with | 0 => r2 | 1 => r2 | _ => R2)) 0 []) : SW C E (.region id l.toArray true) K Γ Q := h rfl fun _ h => h
theorem d_begin1b {id : Nat} {l : List Oper} (i : Nat) (r R1 R2 : Res) (_ : Γ[i]? = some r) (h : DG C E id l K Γ Q (fun st _ => Γ.set i (match st with | 0 => r | 1 => R1 | _ => R2)) 0 []) : SW C E (.region id l.toArray true) K Γ Q := h rfl fun _ h => h

theorem d_end {id : Nat} {l : List Oper} {n : Nat} {R : List Sp} (hac : acyc l 0 = true) (htl : tailOk l n R.reverse = true) (hsl : slotsOk E.N K (dsts l n) = true)
    (k : ∀ bs c, SO C E l.toArray (l.drop n) (kq l R n bs c (List.range n) ++ K) (Γ ++ ((List.range n).filter (isL R.reverse)).map (alR bs R.reverse fun _ => true)) Q) : DG C E id l K Γ Q (fun _ _ => Γ) n R := by
  intro hl hp
  have h0 := hp [] trivial
  rw [List.append_nil] at h0
  have hl' : n = R.reverse.length := by simpa using hl.symm
  subst hl'
  refine w_draw _ R.reverse (fun _ _ => Γ) (lenB_self _) hac htl hsl (fun _ => rfl) (obs_spsOk hsl R.reverse [] l rfl rfl h0) fun bs c => ?_
  have := k bs c
  rw [List.length_reverse] at this ⊢
  rw [kq_eq fun j hi => List.mem_range.1 hi] at this
  exact this

theorem d_endE {id : Nat} {l : List Oper} {Γs : Nat → Value → List Res} {n : Nat} {R : List Sp} (hac : acyc l 0 = true) (htl : tailOk l n R.reverse = true) (hsl : slotsOk E.N K (dsts l n) = true) (hΓ : ∀ c, Γs 0 c = Γ)
    (k : ∀ bs c, SO C E l.toArray (l.drop n) (kq l R n bs c (List.range n) ++ K) (Γs (efs R.reverse fun _ => true) c ++ ((List.range n).filter (isL R.reverse)).map (alR bs R.reverse fun _ => true)) Q) : DG C E id l K Γ Q Γs n R := by
  intro hl hp
  have h0 := hp [] trivial
  rw [List.append_nil] at h0
  have hl' : n = R.reverse.length := by simpa using hl.symm
  subst hl'
  refine w_draw _ R.reverse Γs (lenB_self _) hac htl hsl hΓ (obs_spsOk hsl R.reverse [] l rfl rfl h0) fun bs c => ?_
  have := k bs c
  rw [List.length_reverse] at this ⊢
  rw [kq_eq fun j hi => List.mem_range.1 hi] at this
  exact this
end
end Go.Proofs.Ytcdakcemcehfiaa
