/- The walk library, part g: regions whose order is drawn. -/
import Derived.Test.YtcdakcemcehfiaaSxf
namespace Go.Proofs.Ytcdakcemcehfiaa
open Go Go.RowKit

/-! ### every order that the edges allow -/
theorem countP_lt {p q : Nat → Bool} : ∀ {l : List Nat}, (∀ j ∈ l, p j = true → q j = true) → (∃ i ∈ l, q i = true ∧ p i = false) → l.countP p < l.countP q
  | [], _, ⟨_, h, _⟩ => by simp at h
  | x :: l, h, ⟨i, hi, h1, h2⟩ => by
    have hle : l.countP p ≤ l.countP q := List.countP_mono_left fun j hj => h j (List.mem_cons_of_mem _ hj)
    rw [List.countP_cons, List.countP_cons]
    by_cases hx : i = x
    · subst hx; simp [h1, h2]; omega
    · have hi' : i ∈ l := by simpa [hx] using hi
      have := countP_lt (l := l) (fun j hj => h j (List.mem_cons_of_mem _ hj)) ⟨i, hi', h1, h2⟩
      have hpx := h x (by simp)
      cases hp : p x with
      | false => simp; split <;> omega
      | true => simp [hpx hp]; omega

section
variable {P : Program} {ops : Array Oper} {Q : Exit → Act → World → Prop}

def stepP (P : Program) (ops : Array Oper) (Q : Exit → Act → World → Prop) (o : Oper) (a : Act) (w : World) (K : Act → World → Prop) : Prop :=
  if Region.wanted o (yielded ops a.tmps) then o.wp P a w K Q ∨ (o.asks P a w ∧ LetsOut Q) else K (a.put o.dst undef) w

theorem lin_any (J : (Nat → Bool) → Act → World → Prop) (hb : ∀ (i : Nat) (o : Oper), ops[i]? = some o → ∀ e ∈ o.after, Region.binds .any e = true → e.on < i)
    (step : ∀ done i o a w, ops[i]? = some o → done i = false → (∀ e ∈ o.after, Region.binds .any e = true → done e.on = true) → J done a w → ∀ K : Act → World → Prop, (∀ a' w', J (fun j => decide (j = i) || done j) a' w' → K a' w') → stepP P ops Q o a w K)
    (fin : ∀ done a w, (∀ i < ops.size, done i = true) → J done a w → Q .normal a w) :
    ∀ (fuel t : Nat) (listed : Array Bool) (acc : List Nat) (a : Act) (w : World), listed.size = ops.size → (List.range ops.size).countP (fun i => !listed.getD i true) ≤ fuel → J (fun i => listed.getD i false) a w →
      ∃ L, Region.linearise.go .any ops fuel t listed acc = acc.reverse ++ L ∧ wpOps P ops Q L a w := by
  intro fuel
  have hall : ∀ listed : Array Bool, listed.size = ops.size → (List.range ops.size).countP (fun i => !listed.getD i true) = 0 → ∀ i < ops.size, listed.getD i false = true := by
    intro listed hsz hc i hi
    rw [List.countP_eq_zero] at hc
    have := hc i (List.mem_range.2 hi)
    simp [Array.getD_eq_getD_getElem?, hsz, hi] at this ⊢
    exact this
  induction fuel with
  | zero =>
    intro t listed acc a w hsz hc hJ
    exact ⟨[], by simp [Region.linearise.go], fin _ a w (hall listed hsz (by omega)) hJ⟩
  | succ fuel ih =>
    intro t listed acc a w hsz hc hJ
    simp only [Region.linearise.go]
    generalize hrs : (List.range ops.size).filter (fun i => !listed.getD i true && ((ops[i]?).map (·.after.all fun e => !Region.binds .any e || listed.getD e.on false)).getD false) = rs
    cases hr : rs[t % rs.length]? with
    | none =>
      have hempty : rs = [] := by
        rcases Nat.eq_zero_or_pos rs.length with h | h
        · exact List.eq_nil_of_length_eq_zero h
        · have := Nat.mod_lt t h
          rw [List.getElem?_eq_getElem this] at hr
          cases hr
      refine ⟨[], by simp, fin _ a w ?_ hJ⟩
      -- nothing may be taken: nothing is left
      intro i
      induction i using Nat.strongRecOn with
      | _ i ihi =>
        intro hi
        have hnot : i ∉ rs := by rw [hempty]; simp
        rw [← hrs, List.mem_filter] at hnot
        have ho : ops[i]? = some ops[i] := Array.getElem?_eq_getElem hi
        cases hd : listed.getD i false with
        | true => rfl
        | false =>
          exfalso
          apply hnot
          refine ⟨List.mem_range.2 hi, ?_⟩
          have h1 : listed.getD i true = false := by
            simp [Array.getD_eq_getD_getElem?, hsz, hi] at hd ⊢
            exact hd
          simp only [h1, Bool.not_false, Bool.true_and, ho, Option.map_some, Option.getD_some]
          rw [Array.all_eq_true']
          intro e he
          cases h2 : Region.binds .any e with
          | false => simp
          | true =>
            have h3 := hb i _ ho e he h2
            simp [ihi e.on h3 (by omega)]
    | some i =>
      have him : i ∈ rs := List.mem_of_getElem? hr
      rw [← hrs, List.mem_filter] at him
      obtain ⟨hi, hcond⟩ := him
      have hi' : i < ops.size := List.mem_range.1 hi
      have ho : ops[i]? = some ops[i] := Array.getElem?_eq_getElem hi'
      simp only [Bool.and_eq_true, ho, Option.map_some, Option.getD_some] at hcond
      obtain ⟨h1, h2⟩ := hcond
      have hnd : listed.getD i false = false := by
        simp [Array.getD_eq_getD_getElem?, hsz, hi'] at h1 ⊢
        exact h1
      have hdeps : ∀ e ∈ ops[i].after, Region.binds .any e = true → listed.getD e.on false = true := by
        intro e he hbd
        rw [Array.all_eq_true'] at h2
        have := h2 e he
        rw [hbd] at this
        simpa using this
      have hfun : (fun j => (listed.setIfInBounds i true).getD j false) = (fun j => decide (j = i) || listed.getD j false) := by
        funext j
        by_cases hj : j = i
        · subst hj; simp [Array.getD_eq_getD_getElem?, hsz, hi']
        · have : i ≠ j := fun h => hj h.symm
          simp [Array.getD_eq_getD_getElem?, hj, this]
      have hst := step _ i _ a w ho hnd hdeps hJ (fun a' w' => ∃ L, Region.linearise.go .any ops fuel (t / rs.length) (listed.setIfInBounds i true) (i :: acc) = (i :: acc).reverse ++ L ∧ wpOps P ops Q L a' w') (fun a' w' hJ' => by
        refine ih _ _ (i :: acc) a' w' (by simpa using hsz) ?_ (by rw [hfun]; exact hJ')
        have : (List.range ops.size).countP (fun j => !(listed.setIfInBounds i true).getD j true) < (List.range ops.size).countP (fun j => !listed.getD j true) := by
          refine countP_lt (fun j hj hh => ?_) ⟨i, hi, by simpa using h1, by simp [Array.getD_eq_getD_getElem?, hsz, hi']⟩
          by_cases hji : i = j
          · subst hji; simp [Array.getD_eq_getD_getElem?, hsz, hi'] at hh
          · simpa [Array.getD_eq_getD_getElem?, Array.getElem?_setIfInBounds, hji] using hh
        omega)
      -- the list is the same whatever is done
      have key : ∀ fuel t listed acc, ∃ L, Region.linearise.go .any ops fuel t listed acc = acc.reverse ++ L := by
        intro fuel
        induction fuel with
        | zero => intro t listed acc; exact ⟨[], by simp [Region.linearise.go]⟩
        | succ fuel ihf =>
          intro t listed acc
          simp only [Region.linearise.go]
          split
          · rename_i x _
            obtain ⟨L, hL⟩ := ihf (t / ((List.range ops.size).filter fun i => !listed.getD i true && ((ops[i]?).map (·.after.all fun e => !Region.binds .any e || listed.getD e.on false)).getD false).length) (listed.setIfInBounds x true) (x :: acc)
            exact ⟨x :: L, by rw [hL]; simp⟩
          · exact ⟨[], by simp⟩
      obtain ⟨L, hL⟩ := key fuel (t / rs.length) (listed.setIfInBounds i true) (i :: acc)
      refine ⟨i :: L, by simp only []; rw [hL]; simp, ?_⟩
      have hst' : stepP P ops Q ops[i] a w (wpOps P ops Q L) := by
        unfold stepP at hst ⊢
        have hmono : ∀ a' w', (∃ L, Region.linearise.go .any ops fuel (t / rs.length) (listed.setIfInBounds i true) (i :: acc) = (i :: acc).reverse ++ L ∧ wpOps P ops Q L a' w') → wpOps P ops Q L a' w' := by
          rintro a' w' ⟨L', hL', hw⟩
          rw [hL] at hL'
          have := List.append_cancel_left hL'
          rw [this]; exact hw
        split
        · rename_i hw
          rw [if_pos hw] at hst
          rcases hst with h | h
          · refine .inl ?_
            unfold Oper.wp at h ⊢
            exact upon_mono (fun a' w' h => hmono a' w' h) h
          · exact .inr h
        · rename_i hw
          rw [if_neg hw] at hst
          exact hmono _ _ hst
      show wpOps P ops Q (i :: L) a w
      simp only [wpOps, ho]
      exact hst'
  where
  upon_mono {P : Program} {o : Oper} {a : Act} {K K' : Act → World → Prop} {Q : Exit → Act → World → Prop} {r : Result Next} (hk : ∀ a w, K a w → K' a w) (h : o.upon P a K Q r) : o.upon P a K' Q r := by
    unfold Oper.upon at h ⊢
    split at h
    · exact hk _ _ h
    · exact hk _ _ h
    · exact hk _ _ h
    · refine h.mono fun e w' he => ?_
      cases e with
      | returned v => exact hk _ _ he
      | panicked c => exact he
      | outgrown => exact he
    · exact h.mono fun v w' hv => hk _ _ hv
    · exact h
    · exact h
end

/-! ### owned things in another order -/
def Ap (r s : Res) : Prop := ∀ b, r.fp b → ¬ s.fp b
theorem ap_iff {Γ : List Res} : (∀ (i j : Nat) (r s : Res), i ≠ j → Γ[i]? = some r → Γ[j]? = some s → ∀ b, r.fp b → ¬ s.fp b) ↔ Γ.Pairwise Ap := by
  rw [List.pairwise_iff_getElem]
  constructor
  · intro h i j hi hj hij
    exact h i j _ _ (by omega) (List.getElem?_eq_getElem hi) (List.getElem?_eq_getElem hj)
  · intro h i j r s hij hr hs b hb hb'
    obtain ⟨hi, e1⟩ := List.getElem?_eq_some_iff.1 hr
    obtain ⟨hj, e2⟩ := List.getElem?_eq_some_iff.1 hs
    subst e1 e2
    rcases Nat.lt_or_ge i j with hlt | hge
    · exact h i j hi hj hlt b hb hb'
    · exact h j i hj hi (by omega) b hb' hb

theorem fpA_perm {Γ Γ' : List Res} (h : Γ.Perm Γ') (b : Nat) : fpA Γ' b → fpA Γ b := fun ⟨r, hr, hb⟩ => ⟨r, h.mem_iff.2 hr, hb⟩

theorem St.perm {E : En} {w : World} {Γ Γ' : List Res} (s : St E w Γ) (h : Γ.Perm Γ') : St E w Γ' ∧ Mv E Γ w Γ' w := by
  have hA : ∀ b, av E Γ' b → av E Γ b := fun b hb => hb.imp id (fpA_perm h b)
  refine ⟨⟨s.os, s.tape, s.output, s.drawn, s.size, s.same, fun r hr => r.keep (s.ok r (h.mem_iff.2 hr)) (fun _ _ _ => rfl) (fun b _ hb => hA b hb), fun r hr => s.own r (h.mem_iff.2 hr), ?_, s.old, fun r hr => s.apt r (h.mem_iff.2 hr)⟩,
    fun u d hr => hr.keep (fun _ _ _ => rfl) fun b _ hb => hA b hb⟩
  rw [ap_iff]
  refine (h.pairwise_iff ?_).1 (ap_iff.1 s.apart)
  intro x y hxy b hb hb'
  exact hxy b hb' hb

/-! ### which operations lie surely ahead -/
def msk (acc : List Nat) (o : Oper) : Nat := (o.after.toList.filter (Region.binds .any)).foldl (fun s e => s ||| 2 ^ e.on ||| acc.getD e.on 0) 0
def msks : List Oper → List Nat → List Nat
  | [], acc => acc
  | o :: l, acc => msks l (acc ++ [msk acc o])

def Down (l : List Oper) (done : Nat → Bool) : Prop := ∀ i o, l[i]? = some o → done i = true → ∀ e ∈ o.after, Region.binds .any e = true → done e.on = true

theorem msk_bit {acc : List Nat} {done : Nat → Bool} (hacc : ∀ i j, done i = true → (acc.getD i 0).testBit j = true → done j = true) : ∀ (es : List Edge) (s j : Nat), (∀ e ∈ es, done e.on = true) →
    (es.foldl (fun s e => s ||| 2 ^ e.on ||| acc.getD e.on 0) s).testBit j = true → s.testBit j = true ∨ done j = true
  | [], s, j, _, h => .inl h
  | e :: es, s, j, hd, h => by
    rcases msk_bit hacc es _ j (fun x hx => hd x (List.mem_cons_of_mem _ hx)) h with h | h
    · simp only [Nat.testBit_or, Bool.or_eq_true] at h
      rcases h with (h | h) | h
      · exact .inl h
      · have : e.on = j := by
          rw [Nat.testBit_two_pow] at h
          simpa using h
        exact .inr (this ▸ hd e (by simp))
      · exact .inr (hacc _ _ (hd e (by simp)) h)
    · exact .inr h

theorem msks_bit {all : List Oper} {done : Nat → Bool} (hD : Down all done) : ∀ (l pre : List Oper) (acc : List Nat), pre ++ l = all → acc.length = pre.length →
    (∀ i j, (acc.getD i 0).testBit j = true → ∀ o, all[i]? = some o → (∀ e ∈ o.after, Region.binds .any e = true → done e.on = true) → done j = true) →
    ∀ i j, ((msks l acc).getD i 0).testBit j = true → ∀ o, all[i]? = some o → (∀ e ∈ o.after, Region.binds .any e = true → done e.on = true) → done j = true
  | [], _, acc, _, _, h => h
  | o :: l, pre, acc, hp, hl, h => by
    refine msks_bit hD l (pre ++ [o]) (acc ++ [msk acc o]) (by simp [hp]) (by simp [hl]) ?_
    intro i j hb o' ho' hdeps
    rcases Nat.lt_trichotomy i acc.length with hi | hi | hi
    · rw [List.getD_eq_getElem?_getD, List.getElem?_append_left hi, ← List.getD_eq_getElem?_getD] at hb
      exact h i j hb o' ho' hdeps
    · rw [List.getD_eq_getElem?_getD, List.getElem?_append_right (by omega), hi] at hb
      simp at hb
      have hoo : all[i]? = some o := by rw [← hp, hi, hl]; simp
      rw [hoo] at ho'
      cases ho'
      have hacc : ∀ i j, done i = true → (acc.getD i 0).testBit j = true → done j = true := by
        intro i j hdi hb
        have hil : i < acc.length := by
          rcases Nat.lt_or_ge i acc.length with h' | h'
          · exact h'
          · rw [List.getD_eq_getElem?_getD, List.getElem?_eq_none h'] at hb; simp at hb
        have hal : i < all.length := by rw [← hp]; simp; omega
        exact h i j hb _ (List.getElem?_eq_getElem hal) (hD i _ (List.getElem?_eq_getElem hal) hdi)
      rcases msk_bit hacc (o.after.toList.filter (Region.binds .any)) 0 j (fun e he => hdeps e (by simpa using (List.mem_filter.1 he).1) (List.mem_filter.1 he).2) hb with h' | h'
      · simp at h'
      · exact h'
    · rw [List.getD_eq_getElem?_getD, List.getElem?_eq_none (by simp; omega)] at hb; simp at hb

theorem mask_done {all : List Oper} {done : Nat → Bool} (hD : Down all done) {i j : Nat} {o : Oper} (ho : all[i]? = some o) (hdeps : ∀ e ∈ o.after, Region.binds .any e = true → done e.on = true) (hb : ((msks all []).getD i 0).testBit j = true) : done j = true :=
  msks_bit hD all [] [] rfl rfl (fun i j h => by simp at h) i j hb o ho hdeps

/-! ### the region -/
/-- What an operation ahead of the tail does: q: it hands back what d tells, and leaves all as it is; al: a new block; ef: it turns what is owned. -/
inductive Sp where
  | q (d : DV)
  | al (T : TypeId) (ds : List DV)
  | ef (f : Value → DV)
  | sa (j : Nat) (new : List DV)

/-- What is known of op i's slot. bs: the new blocks; c: what the one open effect has handed back. -/
def spD (bs : Nat → Nat) (c : Value) (i : Nat) : Sp → DV
  | .q d => d
  | .al _ _ => .v (.pointer (some ⟨bs i, 0, none⟩))
  | .ef f => f c
  | .sa _ _ => .v undef

/-- Where the new block of operation j is written, and what. -/
def saAt : List Sp → Nat → Nat → Option (Nat × List DV)
  | [], _, _ => none
  | .sa j' n :: S, k, j => if Nat.beq j' j then some (k, n) else saAt S (k + 1) j
  | .q _ :: S, k, j => saAt S (k + 1) j
  | .al _ _ :: S, k, j => saAt S (k + 1) j
  | .ef _ :: S, k, j => saAt S (k + 1) j
theorem saAt_get : ∀ {S : List Sp} {k0 k j : Nat} {n : List DV}, saAt S k0 j = some (k, n) → k0 ≤ k ∧ S[k - k0]? = some (.sa j n)
  | [], _, _, _, _, h => by simp [saAt] at h
  | .sa j' n' :: S, k0, k, j, n, h => by
    simp only [saAt] at h
    split at h
    · rename_i hb
      simp only [Option.some.injEq, Prod.mk.injEq] at h
      obtain ⟨rfl, rfl⟩ := h
      have := Nat.eq_of_beq_eq_true hb
      subst this
      exact ⟨Nat.le_refl _, by simp⟩
    · have := saAt_get h
      exact ⟨by omega, by rw [show k - k0 = (k - (k0 + 1)) + 1 by omega]; simpa using this.2⟩
  | .q _ :: S, k0, k, j, n, h => by
    have := saAt_get (S := S) h
    exact ⟨by omega, by rw [show k - k0 = (k - (k0 + 1)) + 1 by omega]; simpa using this.2⟩
  | .al _ _ :: S, k0, k, j, n, h => by
    have := saAt_get (S := S) h
    exact ⟨by omega, by rw [show k - k0 = (k - (k0 + 1)) + 1 by omega]; simpa using this.2⟩
  | .ef _ :: S, k0, k, j, n, h => by
    have := saAt_get (S := S) h
    exact ⟨by omega, by rw [show k - k0 = (k - (k0 + 1)) + 1 by omega]; simpa using this.2⟩
def stD (S : List Sp) (done : Nat → Bool) (j : Nat) (ds : List DV) : List DV := match saAt S 0 j with | some (k, n) => if done k then n else ds | none => ds

def alR (bs : Nat → Nat) (S : List Sp) (done : Nat → Bool) (i : Nat) : Res := match S[i]? with | some (.al T ds) => cellsR (bs i) T (stD S done i ds) | _ => unitR
theorem alR_upd {bs : Nat → Nat} {S : List Sp} {done : Nat → Bool} {i j : Nat} (h : ∀ n, S[i]? ≠ some (.sa j n)) : alR bs S (fun k => decide (k = i) || done k) j = alR bs S done j := by
  unfold alR stD
  cases hs : saAt S 0 j with
  | none => rfl
  | some kn =>
    obtain ⟨k, n⟩ := kn
    have hk := (saAt_get hs).2
    rw [Nat.sub_zero] at hk
    have : k ≠ i := fun e => h n (e ▸ hk)
    simp [this]
theorem alR_updL {bs : Nat → Nat} {S : List Sp} {done : Nat → Bool} {i : Nat} {L : List Nat} (h : ∀ j n, S[i]? ≠ some (.sa j n)) : L.map (alR bs S (fun k => decide (k = i) || done k)) = L.map (alR bs S done) :=
  List.map_congr_left fun j _ => alR_upd (h j)
theorem alR_all {bs : Nat → Nat} {S : List Sp} {done : Nat → Bool} {L : List Nat} (h : ∀ i, i < S.length → done i = true) : L.map (alR bs S done) = L.map (alR bs S fun _ => true) := by
  apply List.map_congr_left
  intro j _
  unfold alR stD
  cases hs : saAt S 0 j with
  | none => rfl
  | some kn =>
    obtain ⟨k, n⟩ := kn
    have hk := (saAt_get hs).2
    rw [Nat.sub_zero] at hk
    have hl : k < S.length := by
      rcases Nat.lt_or_ge k S.length with h' | h'
      · exact h'
      · rw [List.getElem?_eq_none h'] at hk; cases hk
    simp [h k hl]

/-- The slots of the operations out of js, as they are known. -/
def kd (l : List Oper) (S : List Sp) (bs : Nat → Nat) (c : Value) : List Nat → Kn
  | [] => []
  | j :: js => match (l[j]?).bind (·.dst), S[j]? with
    | some s, some x => (s, spD bs c j x) :: kd l S bs c js
    | _, _ => kd l S bs c js

def isE (S : List Sp) (i : Nat) : Bool := match S[i]? with | some (.ef _) => true | _ => false
def isL (S : List Sp) (i : Nat) : Bool := match S[i]? with | some (.al _ _) => true | _ => false
def efs (S : List Sp) (done : Nat → Bool) : Nat := (List.range S.length).countP fun i => done i && isE S i

/-- What must hold of an operation ahead of the tail. Kq: what is known of the slots of those that lie surely ahead. st: how many effects have been carried out. -/
def SpOk (C : Cx) (E : En) (l : List Oper) (m : Nat) (S : List Sp) (K : Kn) (Γs : Nat → Value → List Res) (i : Nat) (o : Oper) : Sp → Prop
  | .q d => ∀ bs c st Γx, Qv C E l.toArray (kd l S bs c ((List.range m).filter fun j => ((msks l []).getD i 0).testBit j) ++ K) (Γs st c ++ Γx) o d
  | .al T ds => o.guard = none ∧ ∃ e, o.op = .alloc T ∧ lkT C.T T = some e ∧ ones e.zero = true ∧ ds = e.zero.map zD
  | .ef f => o.guard = none ∧ ∀ bs c Γx, ∀ a w, St E w (Γs (efs S fun j => decide (j < i)) c ++ Γx) →
      Fr E.N (kd l S bs c ((List.range m).filter fun j => ((msks l []).getD i 0).testBit j) ++ K) (av E (Γs (efs S fun j => decide (j < i)) c ++ Γx)) w a →
      ∀ (Kc : Act → World → Prop) (Qx : Exit → Act → World → Prop),
        (∀ v c' w', (efs S (fun j => decide (j < i)) = 0 ∨ c' = c) → St E w' (Γs (efs S (fun j => decide (j < i)) + 1) c' ++ Γx) → Mv E (Γs (efs S fun j => decide (j < i)) c ++ Γx) w (Γs (efs S (fun j => decide (j < i)) + 1) c' ++ Γx) w' →
          Rep (av E (Γs (efs S (fun j => decide (j < i)) + 1) c' ++ Γx)) w' v (f c') → Kc (a.put o.dst v) w') → o.wp C.P a w Kc Qx
  | .sa j new => o.guard = none ∧ o.dst = none ∧ saAt S 0 j = some (i, new) ∧ ((msks l []).getD i 0).testBit j = true ∧ ∃ (T : TypeId) (ds : List DV) (t : TypeId) (x y : Operand) (e : TyE) (d : DV), S[j]? = some (.al T ds) ∧ o.op = .store t x y ∧ cellsOf d = some new ∧ all1 new = true ∧
      lkT C.T t = some e ∧ Nat.beq new.length e.size = true ∧ new.length = ds.length ∧
      ∀ bs c, ev (kd l S bs c ((List.range m).filter fun j => ((msks l []).getD i 0).testBit j) ++ K) x = some (.v (.pointer (some ⟨bs j, 0, none⟩))) ∧ ev (kd l S bs c ((List.range m).filter fun j => ((msks l []).getD i 0).testBit j) ++ K) y = some d

theorem stepP_mono {P : Program} {ops : Array Oper} {Q : Exit → Act → World → Prop} {o : Oper} {a : Act} {w : World} {K K' : Act → World → Prop} (hk : ∀ a w, K a w → K' a w) (h : stepP P ops Q o a w K) : stepP P ops Q o a w K' := by
  unfold stepP at h ⊢
  split
  · rename_i hw
    rw [if_pos hw] at h
    exact h.imp (fun h => by unfold Oper.wp at h ⊢; exact lin_any.upon_mono hk h) id
  · rename_i hw
    rw [if_neg hw] at h
    exact hk _ _ h

theorem countP_upd {n i : Nat} {p q : Nat → Bool} (hp : p i = false) : ∀ {l : List Nat}, l.Nodup → i ∈ l → l.countP (fun j => (decide (j = i) || p j) && q j) = l.countP (fun j => p j && q j) + (if q i then 1 else 0)
  | [], _, h => by simp at h
  | x :: l, hn, h => by
    rw [List.countP_cons, List.countP_cons]
    have hn' := List.nodup_cons.1 hn
    by_cases hx : x = i
    · subst hx
      have hl : l.countP (fun j => (decide (j = x) || p j) && q j) = l.countP (fun j => p j && q j) := by
        apply List.countP_congr
        intro j hj
        have : j ≠ x := fun e => hn'.1 (e ▸ hj)
        simp [this]
      rw [hl, hp]
      simp
    · have hi : i ∈ l := by
        rcases List.mem_cons.1 h with e | e
        · exact absurd e.symm hx
        · exact e
      rw [countP_upd (n := n) hp hn'.2 hi]
      simp [hx]
      omega

def acyc : List Oper → Nat → Bool
  | [], _ => true
  | o :: l, i => (o.after.toList.all fun e => Nat.blt e.on i || !Region.binds .any e) && acyc l (i + 1)
theorem acyc_ok : ∀ {l : List Oper} {k i : Nat} {o : Oper}, acyc l k = true → l[i]? = some o → ∀ e ∈ o.after, Region.binds .any e = true → e.on < k + i
  | [], _, i, o, _, h => by simp at h
  | x :: l, k, 0, o, hc, h => by
    simp at h
    subst h
    simp only [acyc, Bool.and_eq_true, List.all_eq_true] at hc
    intro e he hb
    have := hc.1 e (by simpa using he)
    rw [hb] at this
    simpa [Nat.blt_eq] using this
  | x :: l, k, i + 1, o, hc, h => by
    simp only [acyc, Bool.and_eq_true] at hc
    intro e he hb
    have := acyc_ok (k := k + 1) (i := i) hc.2 (by simpa using h) e he hb
    omega

/-- The tail is forced; the effects are in a row. -/
def tailOk (l : List Oper) (m : Nat) (S : List Sp) : Bool :=
  ((List.range l.length).all fun i => Nat.blt i m || (List.range i).all fun j => ((msks l []).getD i 0).testBit j) &&
  (List.range m).all fun i => !isE S i || (List.range i).all fun j => !isE S j || ((msks l []).getD i 0).testBit j

def dsts (l : List Oper) : Nat → List (Option Nat)
  | 0 => []
  | n + 1 => match l with | [] => [] | o :: l => o.dst :: dsts l n

def slotsOk (N : Nat) (K : Kn) : List (Option Nat) → Bool
  | [] => true
  | none :: r => slotsOk N K r
  | some s :: r => Nat.blt s N && (match lk K s with | none => true | some _ => false) && (r.all fun x => match x with | some t => !Nat.beq s t | none => true) && slotsOk N K r

theorem slotsOk_lt {N : Nat} {K : Kn} : ∀ {r : List (Option Nat)} {i s : Nat}, slotsOk N K r = true → r[i]? = some (some s) → s < N ∧ lk K s = none
  | [], i, s, _, h => by simp at h
  | none :: r, 0, s, _, h => by simp at h
  | none :: r, i + 1, s, hc, h => slotsOk_lt (r := r) (i := i) hc (by simpa using h)
  | some t :: r, 0, s, hc, h => by
    simp at h
    subst h
    simp only [slotsOk, Bool.and_eq_true] at hc
    refine ⟨by have := hc.1.1.1; simpa [Nat.blt_eq] using this, ?_⟩
    have := hc.1.1.2
    cases hk : lk K t with
    | none => rfl
    | some d => simp [hk] at this
  | some t :: r, i + 1, s, hc, h => by
    simp only [slotsOk, Bool.and_eq_true] at hc
    exact slotsOk_lt (r := r) (i := i) hc.2 (by simpa using h)

theorem slotsOk_ne {N : Nat} {K : Kn} : ∀ {r : List (Option Nat)} {i j s t : Nat}, slotsOk N K r = true → i < j → r[i]? = some (some s) → r[j]? = some (some t) → s ≠ t
  | [], i, _, s, _, _, _, h, _ => by simp at h
  | none :: r, 0, _, s, _, _, _, h, _ => by simp at h
  | none :: r, i + 1, 0, s, t, hc, hl, _, _ => by omega
  | none :: r, i + 1, j + 1, s, t, hc, hl, h, h' => slotsOk_ne (r := r) (i := i) (j := j) hc (by omega) (by simpa using h) (by simpa using h')
  | some x :: r, 0, 0, s, t, hc, hl, _, _ => by omega
  | some x :: r, 0, j + 1, s, t, hc, hl, h, h' => by
    simp at h
    subst h
    simp only [slotsOk, Bool.and_eq_true, List.all_eq_true] at hc
    have := hc.1.2 (some t) (List.mem_of_getElem? (i := j) (by simpa using h'))
    intro e
    subst e
    simp at this
  | some x :: r, i + 1, 0, s, t, hc, hl, _, _ => by omega
  | some x :: r, i + 1, j + 1, s, t, hc, hl, h, h' => by
    simp only [slotsOk, Bool.and_eq_true] at hc
    exact slotsOk_ne (r := r) (i := i) (j := j) hc.2 (by omega) (by simpa using h) (by simpa using h')

theorem dsts_get : ∀ {l : List Oper} {n i : Nat} {o : Oper}, i < n → l[i]? = some o → (dsts l n)[i]? = some o.dst
  | [], n, i, o, _, h => by simp at h
  | x :: l, 0, i, o, hl, _ => by omega
  | x :: l, n + 1, 0, o, _, h => by simp at h; subst h; simp [dsts]
  | x :: l, n + 1, i + 1, o, hl, h => by simpa [dsts] using dsts_get (l := l) (n := n) (i := i) (by omega) (by simpa using h)

theorem lk_append {A B : Kn} {s : Nat} : lk (A ++ B) s = match lk A s with | some d => some d | none => lk B s := by
  induction A with
  | nil => rfl
  | cons p A ih =>
    simp only [List.cons_append, lk]
    cases Nat.beq p.1 s with
    | true => simp
    | false => simp [ih]

theorem lk_kd {l : List Oper} {S : List Sp} {bs : Nat → Nat} {c : Value} {s : Nat} {d : DV} : ∀ {js : List Nat}, lk (kd l S bs c js) s = some d → ∃ j ∈ js, ∃ o x, l[j]? = some o ∧ o.dst = some s ∧ S[j]? = some x ∧ d = spD bs c j x
  | [], h => by simp [kd, lk] at h
  | j :: js, h => by
    simp only [kd] at h
    split at h
    · rename_i t x h1 h2
      simp only [lk] at h
      cases hb : Nat.beq t s with
      | true =>
        rw [hb] at h
        have := Nat.eq_of_beq_eq_true hb
        subst this
        simp at h
        subst h
        cases ho : l[j]? with
        | none => simp [ho] at h1
        | some o => exact ⟨j, by simp, o, x, ho, by simpa [ho] using h1, h2, rfl⟩
      | false =>
        rw [hb, cond_false] at h
        obtain ⟨j', hj, r⟩ := lk_kd h
        exact ⟨j', List.mem_cons_of_mem _ hj, r⟩
    · obtain ⟨j', hj, r⟩ := lk_kd h
      exact ⟨j', List.mem_cons_of_mem _ hj, r⟩

/-- Every operation ahead of the tail does what is told of it. -/
def SpsOk (C : Cx) (E : En) (l : List Oper) (m : Nat) (S : List Sp) (K : Kn) (Γs : Nat → Value → List Res) : Nat → List Oper → List Sp → Prop
  | _, _, [] => True
  | _, [], _ :: _ => False
  | i, o :: l', x :: S' => SpOk C E l m S K Γs i o x ∧ SpsOk C E l m S K Γs (i + 1) l' S'

theorem SpsOk_get {C : Cx} {E : En} {l : List Oper} {m : Nat} {S : List Sp} {K : Kn} {Γs : Nat → Value → List Res} : ∀ {S' : List Sp} {l' : List Oper} {k i : Nat} {x : Sp}, SpsOk C E l m S K Γs k l' S' → S'[i]? = some x → ∃ o, l'[i]? = some o ∧ SpOk C E l m S K Γs (k + i) o x
  | [], l', k, i, x, _, h => by simp at h
  | y :: S', [], k, i, x, hs, _ => hs.elim
  | y :: S', o :: l', k, 0, x, hs, h => by
    simp at h
    subst h
    exact ⟨o, rfl, hs.1⟩
  | y :: S', o :: l', k, i + 1, x, hs, h => by
    obtain ⟨o', h1, h2⟩ := SpsOk_get (k := k + 1) (i := i) hs.2 (by simpa using h)
    exact ⟨o', by simpa using h1, by rw [show k + (i + 1) = k + 1 + i from by omega]; exact h2⟩

theorem SpsOk_len {C : Cx} {E : En} {l : List Oper} {m : Nat} {S : List Sp} {K : Kn} {Γs : Nat → Value → List Res} : ∀ {S' : List Sp} {l' : List Oper} {k : Nat}, SpsOk C E l m S K Γs k l' S' → S'.length ≤ l'.length
  | [], l', k, _ => by simp
  | y :: S', [], k, hs => hs.elim
  | y :: S', o :: l', k, hs => by simpa using SpsOk_len hs.2

def lenB : List Sp → Nat → Bool
  | [], 0 => true
  | _ :: S, n + 1 => lenB S n
  | _, _ => false
theorem lenB_ok : ∀ {S : List Sp} {n : Nat}, lenB S n = true → S.length = n
  | [], 0, _ => rfl
  | _ :: S, n + 1, h => by simp [lenB_ok (S := S) h]
  | [], n + 1, h => by simp [lenB] at h
  | _ :: _, 0, h => by simp [lenB] at h
end Go.Proofs.Ytcdakcemcehfiaa
