/- The walk library, part j: keys of maps. -/
import Derived.Test.YtcdakcemcehfiaaSxi
import Derived.MapKept
import Derived.DeepKeys3
namespace Go.Proofs.Ytcdakcemcehfiaa
open Go Go.RowKit

/-- A plain key is checked without a panic. -/
theorem check_plain {C : Cx} (w : World) (em : Bool) : ∀ (n m : Nat) (t : TypeId) (ks : List CK) (e : TyE), plainK C.T n t = some ks → lkT C.T t = some e → ∀ cs : List Value, cks ks cs →
    (Instr.checkKey em (n + m) t (valOf e.agg cs)).run C.P w = .ok () w
  | 0, m, t, ks, e, h, _, _, _ => by simp [plainK] at h
  | n + 1, m, t, ks, e, h, he, cs, hc => by
    have hT := C.get he
    rw [show n + 1 + m = (n + m) + 1 from by omega]
    simp only [plainK, he] at h
    obtain ⟨h, hlen⟩ := lenOk_some h
    have hg := hT.g
    split at h
    · rename_i k hu
      cases h
      rw [hu] at hg
      match cs, hc with
      | [x], hc =>
        obtain ⟨a, rfl⟩ := hc.1
        simp [hg, isAggD, valOf, Instr.checkKey, run_underlying (hT.u.trans (congrArg some hu))]
    · rename_i hu
      cases h
      rw [hu] at hg
      match cs, hc with
      | [x], hc =>
        obtain ⟨a, rfl⟩ := hc.1
        simp [hg, isAggD, valOf, Instr.checkKey, run_underlying (hT.u.trans (congrArg some hu))]
    · rename_i fs hu
      rw [hu] at hg
      simp only [hg, isAggD, valOf, if_true]
      rw [Instr.checkKey]
      simp only [Sem.run_bind, run_underlying (hT.u.trans (congrArg some hu)), Result.andThen_ok]
      rw [← Array.forIn_toList]
      have key : ∀ (l : List Field) (o : Nat) (ks : List CK), flds (plainK C.T n) l o = some ks → cks ks (cs.drop o) →
          (forIn l PUnit.unit fun f (_ : PUnit) => (do
            if f.name ≠ "_" then do
              Instr.checkKey em (n + m) f.type (← part f.type cs.toArray f.offset)
              pure (ForInStep.yield PUnit.unit)
            else pure (ForInStep.yield PUnit.unit) : Sem (ForInStep PUnit))).run C.P w = .ok PUnit.unit w := by
        intro l
        induction l with
        | nil => intro o ks h h1; simp
        | cons fd l ih =>
          intro o ks h h1
          simp only [flds] at h
          split at h
          · rename_i hc0
            obtain ⟨ho, hn⟩ := hc0
            split at h
            · rename_i k1 hk1
              split at h
              · rename_i k2 hk2
                simp only [Option.some.injEq] at h
                subst h
                obtain ⟨s1, s2⟩ := cks_split h1
                rw [List.drop_drop] at s2
                obtain ⟨e', he', hl'⟩ := plain_e hk1
                have ih1 := check_plain w em n m fd.type k1 e' hk1 he' _ s1
                have ih2 := ih (o + k1.length) k2 hk2 s2
                have hp1 := part_val (P := C.P) (w := w) (C.get he') hl' s1
                subst ho
                simp only [List.forIn_cons, Sem.run_bind, hn, ne_eq, not_false_eq_true, if_true, Result.andThen_ok, hp1, ih1, Sem.run_pure]
                exact ih2
              · cases h
            · cases h
          · cases h
      have := key fs.toList 0 ks h (by simpa using hc)
      rw [this]
      rfl
    · rename_i mm t' hu
      rw [hu] at hg
      simp only [hg, isAggD, valOf, if_true]
      cases hk1 : plainK C.T n t' with
      | none => simp [hk1] at h
      | some k1 =>
        simp only [hk1, Option.map_some, Option.some.injEq] at h
        subst h
        obtain ⟨e', he', hl'⟩ := plain_e hk1
        obtain ⟨i, hi, hi1, _⟩ := (C.get he').info
        rw [Instr.checkKey]
        simp only [Sem.run_bind, run_underlying (hT.u.trans (congrArg some hu)), Result.andThen_ok]
        simp only [Std.Legacy.Range.forIn_eq_forIn_range', Std.Legacy.Range.size, Nat.sub_zero, Nat.add_one_sub_one, Nat.div_one]
        have key : ∀ (r o : Nat), cks (List.replicate r k1).flatten (cs.drop (o * e'.size)) →
            (forIn (List.range' o r) PUnit.unit fun i (_ : PUnit) => (do
              Instr.checkKey em (n + m) t' (← part t' cs.toArray (i * (← sizeOf t')))
              pure (ForInStep.yield PUnit.unit) : Sem (ForInStep PUnit))).run C.P w = .ok PUnit.unit w := by
          intro r
          induction r with
          | zero => intro o h1; simp
          | succ r ih =>
            intro o h1
            rw [List.replicate_succ, List.flatten_cons] at h1
            obtain ⟨s1, s2⟩ := cks_split h1
            rw [List.drop_drop] at s2
            have ho : o * e'.size + k1.length = (o + 1) * e'.size := by rw [hl', Nat.add_mul, Nat.one_mul]
            have ih1 := check_plain w em n m t' k1 e' hk1 he' _ s1
            have ih2 := ih (o + 1) (by rw [← ho]; exact s2)
            have hp1 := part_val (P := C.P) (w := w) (C.get he') hl' s1
            rw [List.range'_succ]
            simp only [List.forIn_cons, Sem.run_bind, (C.get he').run_size, Result.andThen_ok, hp1, ih1, Sem.run_pure]
            exact ih2
        have := key mm 0 (by simpa using hc)
        rw [this]
        rfl
    · cases h

theorem eqV_refl : ∀ {ks : List CK} {vs : List Value}, cks ks vs → eqV vs vs = true
  | [], [], _ => rfl
  | .int k :: ks, x :: vs, h => by obtain ⟨n, rfl⟩ := h.1; simp [eqV, eqV_refl h.2]
  | .bool :: ks, x :: vs, h => by obtain ⟨n, rfl⟩ := h.1; simp [eqV, eqV_refl h.2]
  | [], _ :: _, h => h.elim
  | _ :: _, [], h => h.elim

theorem sameCells : ∀ {ks : List CK} {vs : List Value}, cks ks vs → ∀ n, ((vs.zip vs).all fun (x, y) => Instr.sameBits n x y) = true
  | [], [], _, n => rfl
  | .int k :: ks, x :: vs, h, n => by obtain ⟨a, rfl⟩ := h.1; cases n <;> simp [Instr.sameBits, sameCells h.2]
  | .bool :: ks, x :: vs, h, n => by obtain ⟨a, rfl⟩ := h.1; cases n <;> simp [Instr.sameBits, sameCells h.2]
  | [], _ :: _, h, _ => h.elim
  | _ :: _, [], h, _ => h.elim

/-- fk: how the keys of a map of this key type lie in memory. -/
def KeyT (C : Cx) (t : TypeId) {α : Type} [DecidableEq α] (fk : α → Value) : Prop :=
  ∃ (ks : List CK) (e : TyE) (fc : α → List Value), plainK C.T 5 t = some ks ∧ lkT C.T t = some e ∧ (∀ a, fk a = valOf e.agg (fc a)) ∧ (∀ a, cks ks (fc a)) ∧ ∀ a b, eqV (fc a) (fc b) = decide (a = b)

section
variable {C : Cx} {t : TypeId} {α : Type} [DecidableEq α] {fk : α → Value}

theorem KeyT.check (K : KeyT C t fk) (w : World) (em : Bool) (a : α) : (Instr.checkKey em 10000 t (fk a)).run C.P w = .ok () w := by
  obtain ⟨ks, e, fc, hk, he, hf, hc, _⟩ := K
  rw [hf]
  exact check_plain w em 5 9995 t ks e hk he _ (hc a)

theorem KeyT.stays (K : KeyT C t fk) (w : World) (a : α) : (Instr.keyThatStays (fk a) (fk a)).run C.P w = .ok (fk a) w := by
  obtain ⟨ks, e, fc, hk, he, hf, hc, _⟩ := K
  have : Instr.sameBits 10000 (fk a) (fk a) = true := by
    rw [hf]
    have h2 := sameCells (hc a)
    have hks := plain_e hk
    cases hagg : e.agg with
    | true => simp only [valOf, if_true]; rw [Instr.sameBits]; simp [h2]
    | false =>
      obtain ⟨e', he', hl⟩ := hks
      rw [he] at he'
      cases he'
      have h1 := (C.get he).o hagg
      have hl2 := cks_len (hc a)
      obtain ⟨x, hx⟩ := List.length_eq_one_iff.1 (show (fc a).length = 1 by omega)
      have h3 := h2 10000
      rw [hx] at h3 ⊢
      simpa [valOf] using h3
  simp [Instr.keyThatStays, this]

theorem KeyT.equal (K : KeyT C t fk) (w : World) (a b : α) : (Op.equal t (fk a) (fk b)).run C.P w = .ok (decide (a = b)) w := by
  obtain ⟨ks, e, fc, hk, he, hf, hc, hd⟩ := K
  rw [hf, hf, ← hd]
  exact eq_plain w 5 9995 t ks e hk he _ _ (hc a) (hc b)

/-- The place of a key. -/
def ixK (a : α) {β : Type} : List (α × β) → Option Nat
  | [] => none
  | x :: m => if a = x.1 then some 0 else (ixK a m).map (· + 1)

theorem KeyT.asking (K : KeyT C t fk) (w : World) (a : α) {β : Type} : ∀ (es : List MapEntry) (m : List (α × β)) (i : Nat), es.map (·.key) = m.map (fun x => fk x.1) →
    (Instr.findAsking t (fk a) es i).run C.P w = .ok ((ixK a m).map fun j => (i + j, (es[j]?.map (·.val)).getD undef)) w
  | [], [], i, _ => by simp [Instr.findAsking, ixK]
  | [], _ :: _, i, h => by simp at h
  | _ :: _, [], i, h => by simp at h
  | e :: es, x :: m, i, h => by
    simp only [List.map_cons, List.cons.injEq] at h
    have ih := KeyT.asking K w a es m (i + 1) h.2
    simp only [Instr.findAsking, Sem.run_bind, h.1, K.equal, Result.andThen_ok, ixK]
    by_cases hx : a = x.1
    · simp [hx]
    · simp only [hx, decide_false, Bool.false_eq_true, if_false, ih, Option.map_map]
      congr 2
      funext j
      simp
      omega

/-- A scalar key is found at once, another one by asking: both find the same. -/
theorem KeyT.find (K : KeyT C t fk) (w : World) (a : α) {β : Type} (es : List MapEntry) (m : List (α × β)) (h : es.map (·.key) = m.map (fun x => fk x.1)) :
    (Instr.findKey t (fk a) es).run C.P w = .ok ((ixK a m).map fun j => (j, (es[j]?.map (·.val)).getD undef)) w := by
  have hask := K.asking w a es m 0 h
  obtain ⟨ks, e, fc, hk, he, hf, hc, hd⟩ := K
  have hT := C.get he
  have key : ∀ (es : List MapEntry) (m : List (α × β)) (i : Nat), es.map (·.key) = m.map (fun x => fk x.1) → Instr.findNow e.u (fk a) es i = none ∨
      Instr.findNow e.u (fk a) es i = some ((ixK a m).map fun j => (i + j, (es[j]?.map (·.val)).getD undef)) := by
    intro es
    induction es with
    | nil => intro m i h; cases m with | nil => exact .inr rfl | cons x m => simp at h
    | cons x es ih =>
      intro m i h
      cases m with
      | nil => simp at h
      | cons y m =>
        simp only [List.map_cons, List.cons.injEq] at h
        simp only [Instr.findNow, h.1]
        have hs : Instr.sameNow e.u (fk a) (fk y.1) = none ∨ Instr.sameNow e.u (fk a) (fk y.1) = some (decide (a = y.1)) := by
          simp only [plainK, he] at hk
          obtain ⟨hk, hlen⟩ := lenOk_some hk
          have hg := hT.g
          rw [← hd, hf, hf]
          have c1 := hc a
          have c2 := hc y.1
          split at hk
          · rename_i k hu
            cases hk
            rw [hu] at hg ⊢
            revert c1 c2
            generalize fc a = p
            generalize fc y.1 = q
            intro c1 c2
            match p, q, c1, c2 with
            | [x1], [x2], c1, c2 =>
              obtain ⟨n1, rfl⟩ := c1.1
              obtain ⟨n2, rfl⟩ := c2.1
              exact .inr (by simp [hg, isAggD, valOf, Instr.sameNow, eqV])
          · rename_i hu
            cases hk
            rw [hu] at hg ⊢
            revert c1 c2
            generalize fc a = p
            generalize fc y.1 = q
            intro c1 c2
            match p, q, c1, c2 with
            | [x1], [x2], c1, c2 =>
              obtain ⟨n1, rfl⟩ := c1.1
              obtain ⟨n2, rfl⟩ := c2.1
              exact .inr (by simp [hg, isAggD, valOf, Instr.sameNow, eqV])
          · rename_i fs hu
            rw [hu]
            exact .inl (by simp [Instr.sameNow])
          · rename_i mm t' hu
            rw [hu]
            exact .inl (by simp [Instr.sameNow])
          · cases hk
        rcases hs with hs | hs
        · left; rw [hs]
        · rw [hs]
          by_cases hx : a = y.1
          · right; simp [hx, ixK]
          · rcases ih m (i + 1) h.2 with h1 | h1
            · left; simp [hx, h1]
            · right
              simp only [hx, decide_false, h1, ixK, if_false, Option.map_map]
              congr 2
              funext j
              simp
              omega
  unfold Instr.findKey
  simp only [Sem.run_bind, run_underlying hT.u, Result.andThen_ok]
  rcases key es m 0 h with h1 | h1
  · rw [h1]; simpa using hask
  · rw [h1]; simp
end
end Go.Proofs.Ytcdakcemcehfiaa
