/- The walk library, part e: structs and arrays held against each other; slices that are written out. -/
import Derived.Test.YtcdakcemcehfiaaSxd
import Derived.Laws.StructEq
import Derived.ChangeKeysEq
namespace Go.Proofs.Ytcdakcemcehfiaa
open Go Go.RowKit

inductive CK where | int (k : IntKind) | bool
  deriving DecidableEq

def ckV : CK → Value → Prop
  | .int k, v => ∃ n, v = .int k n
  | .bool, v => ∃ b, v = .bool b

/-- The kinds of a plain type's cells. -/
def flds (f : TypeId → Option (List CK)) : List Field → Nat → Option (List CK)
  | [], _ => some []
  | fd :: fs, o => if fd.offset = o ∧ fd.name ≠ "_" then match f fd.type with
      | some ks => match flds f fs (o + ks.length) with
        | some ks' => some (ks ++ ks')
        | none => none
      | none => none
    else none

def lenOk (n : Nat) : Option (List CK) → Option (List CK)
  | some ks => if ks.length = n then some ks else none
  | none => none

def plainK (T : List (Nat × TyE)) : Nat → TypeId → Option (List CK)
  | 0, _ => none
  | n + 1, t => match lkT T t with
    | none => none
    | some e => lenOk e.size (match e.u with
      | .int k => some [.int k]
      | .bool => some [.bool]
      | .struct fs => flds (plainK T n) fs.toList 0
      | .array m t' => (plainK T n t').map fun ks => (List.replicate m ks).flatten
      | _ => none)

def cks : List CK → List Value → Prop
  | [], [] => True
  | k :: ks, v :: vs => ckV k v ∧ cks ks vs
  | _, _ => False

theorem cks_len : ∀ {ks : List CK} {vs : List Value}, cks ks vs → vs.length = ks.length
  | [], [], _ => rfl
  | _ :: _, _ :: _, h => by simp [cks_len h.2]
  | [], _ :: _, h => h.elim
  | _ :: _, [], h => h.elim

theorem cks_split : ∀ {ks ks' : List CK} {vs : List Value}, cks (ks ++ ks') vs → cks ks (vs.take ks.length) ∧ cks ks' (vs.drop ks.length)
  | [], ks', vs, h => ⟨by simp [cks], by simpa using h⟩
  | k :: ks, ks', [], h => h.elim
  | k :: ks, ks', v :: vs, h => by
    have := cks_split (ks := ks) h.2
    exact ⟨⟨h.1, by simpa using this.1⟩, by simpa using this.2⟩

def eqV : List Value → List Value → Bool
  | .int _ a :: xs, .int _ b :: ys => (a == b) && eqV xs ys
  | .bool a :: xs, .bool b :: ys => (a == b) && eqV xs ys
  | [], [] => true
  | _, _ => false

theorem eqV_split : ∀ {ks : List CK} {xs ys : List Value} (xs' ys' : List Value), cks ks xs → cks ks ys → eqV (xs ++ xs') (ys ++ ys') = (eqV xs ys && eqV xs' ys')
  | [], [], [], _, _, _, _ => by simp [eqV]
  | k :: ks, x :: xs, y :: ys, xs', ys', h, h' => by
    have ih := eqV_split xs' ys' h.2 h'.2
    cases k with
    | int k =>
      obtain ⟨a, rfl⟩ := h.1
      obtain ⟨b, rfl⟩ := h'.1
      simp [eqV, ih, Bool.and_assoc]
    | bool =>
      obtain ⟨a, rfl⟩ := h.1
      obtain ⟨b, rfl⟩ := h'.1
      simp [eqV, ih, Bool.and_assoc]
  | [], _ :: _, _, _, _, h, _ => h.elim
  | [], [], _ :: _, _, _, _, h => h.elim
  | _ :: _, [], _, _, _, h, _ => h.elim
  | _ :: _, _ :: _, [], _, _, _, h => h.elim

def valOf (agg : Bool) (cs : List Value) : Value := if agg then .agg cs.toArray else cs.headD undef

theorem part_val {P : Program} {w : World} {t o : Nat} {e : TyE} (h : TyOk P t e) {ks : List CK} (hk : ks.length = e.size) {cs : List Value} (hc : cks ks ((cs.drop o).take ks.length)) :
    (part t cs.toArray o).run P w = .ok (valOf e.agg ((cs.drop o).take ks.length)) w := by
  have hl := cks_len hc
  simp only [List.length_take, List.length_drop] at hl
  cases ha : e.agg with
  | true =>
    simp [part, h.run_agg, ha, h.run_size, valOf, hk]
    try rw [List.take_drop, Nat.add_comm]
  | false =>
    have h1 := h.o ha
    have hkl : ks.length = 1 := by rw [hk, h1]
    have hlt : o < cs.length := by omega
    simp [part, h.run_agg, ha, valOf, hkl, hlt]
    rw [List.drop_eq_getElem_cons hlt]
    rfl

/-- Scalars that are known. -/
def svals : List DV → Option (List Value)
  | [] => some []
  | .v u :: ds => match svals ds with | some us => some (u :: us) | none => none
  | _ :: _ => none

theorem svals_ok {A : Nat → Prop} {w : World} : ∀ {ds : List DV} {us cs : List Value}, svals ds = some us → RepL A w cs ds → cs = us
  | [], us, cs, h, hr => by simp only [svals, Option.some.injEq] at h; subst h; exact hr.nil_inv
  | d :: ds, us, cs, h, hr => by
    obtain ⟨c, cs', rfl, h1, h2⟩ := hr.cons_inv
    cases d <;> simp only [svals] at h <;> first | (simp only [reduceCtorEq] at h; done) | skip
    split at h
    · rename_i us' hu
      simp only [Option.some.injEq] at h
      subst h
      rw [svals_ok hu h2, h1.v_inv]
    · cases h

def ckB : List CK → List Value → Bool
  | [], [] => true
  | .int k :: ks, .int k' _ :: vs => decide (k = k') && ckB ks vs
  | .bool :: ks, .bool _ :: vs => ckB ks vs
  | _, _ => false
theorem ckB_ok : ∀ {ks : List CK} {vs : List Value}, ckB ks vs = true → cks ks vs
  | [], [], _ => trivial
  | .int k :: ks, .int k' n :: vs, h => by
    simp only [ckB, Bool.and_eq_true, decide_eq_true_eq] at h
    exact ⟨⟨n, by rw [h.1]⟩, ckB_ok h.2⟩
  | .bool :: ks, .bool b :: vs, h => ⟨⟨b, rfl⟩, ckB_ok h⟩
  | [], _ :: _, h => by simp [ckB] at h
  | .int _ :: _, [], h => by simp [ckB] at h
  | .bool :: _, [], h => by simp [ckB] at h
  | .int _ :: _, .bool _ :: _, h => by simp [ckB] at h
  | .int _ :: _, .float .. :: _, h => by simp [ckB] at h
  | .int _ :: _, .complex .. :: _, h => by simp [ckB] at h
  | .int _ :: _, .string _ :: _, h => by simp [ckB] at h
  | .int _ :: _, .pointer _ :: _, h => by simp [ckB] at h
  | .int _ :: _, .slice .. :: _, h => by simp [ckB] at h
  | .int _ :: _, .map _ :: _, h => by simp [ckB] at h
  | .int _ :: _, .chan _ :: _, h => by simp [ckB] at h
  | .int _ :: _, .func .. :: _, h => by simp [ckB] at h
  | .int _ :: _, .nilFunc :: _, h => by simp [ckB] at h
  | .int _ :: _, .iface .. :: _, h => by simp [ckB] at h
  | .int _ :: _, .nilIface :: _, h => by simp [ckB] at h
  | .int _ :: _, .agg _ :: _, h => by simp [ckB] at h
  | .int _ :: _, .tuple _ :: _, h => by simp [ckB] at h
  | .bool :: _, .int _ _ :: _, h => by simp [ckB] at h
  | .bool :: _, .float .. :: _, h => by simp [ckB] at h
  | .bool :: _, .complex .. :: _, h => by simp [ckB] at h
  | .bool :: _, .string _ :: _, h => by simp [ckB] at h
  | .bool :: _, .pointer _ :: _, h => by simp [ckB] at h
  | .bool :: _, .slice .. :: _, h => by simp [ckB] at h
  | .bool :: _, .map _ :: _, h => by simp [ckB] at h
  | .bool :: _, .chan _ :: _, h => by simp [ckB] at h
  | .bool :: _, .func .. :: _, h => by simp [ckB] at h
  | .bool :: _, .nilFunc :: _, h => by simp [ckB] at h
  | .bool :: _, .iface .. :: _, h => by simp [ckB] at h
  | .bool :: _, .nilIface :: _, h => by simp [ckB] at h
  | .bool :: _, .agg _ :: _, h => by simp [ckB] at h
  | .bool :: _, .tuple _ :: _, h => by simp [ckB] at h

theorem lenOk_some {n : Nat} {x : Option (List CK)} {ks : List CK} (h : lenOk n x = some ks) : x = some ks ∧ ks.length = n := by
  cases x with
  | none => simp [lenOk] at h
  | some k =>
    simp only [lenOk] at h
    split at h
    · rename_i hl; simp only [Option.some.injEq] at h; subst h; exact ⟨rfl, hl⟩
    · cases h

theorem plain_e {C : Cx} {n t : Nat} {ks : List CK} (h : plainK C.T n t = some ks) : ∃ e, lkT C.T t = some e ∧ ks.length = e.size := by
  cases n with
  | zero => simp [plainK] at h
  | succ n =>
    simp only [plainK] at h
    cases hh : lkT C.T t with
    | none => simp [hh] at h
    | some e =>
      simp only [hh] at h
      exact ⟨e, rfl, (lenOk_some h).2⟩

theorem TyOk.cellsOf {P : Program} {t : TypeId} {e : TyE} (h : TyOk P t e) : P.cellsOf t = e.size := by
  obtain ⟨i, hi, h1, _⟩ := h.info
  simp [Program.cellsOf, hi, h1]

theorem eq_plain {C : Cx} (w : World) : ∀ (n m : Nat) (t : TypeId) (ks : List CK) (e : TyE), plainK C.T n t = some ks → lkT C.T t = some e → ∀ cs cs' : List Value, cks ks cs → cks ks cs' →
    (Op.equalIn (n + m) t (valOf e.agg cs) (valOf e.agg cs')).run C.P w = .ok (eqV cs cs') w
  | 0, m, t, ks, e, h, _, _, _, _, _ => by simp [plainK] at h
  | n + 1, m, t, ks, e, h, he, cs, cs', hc, hc' => by
    have hT := C.get he
    rw [show n + 1 + m = (n + m) + 1 from by omega]
    simp only [plainK, he] at h
    obtain ⟨h, hlen⟩ := lenOk_some h
    have hg := hT.g
    split at h
    · rename_i k hu
      cases h
      rw [hu] at hg
      match cs, cs', hc, hc' with
      | [x], [y], hc, hc' =>
        obtain ⟨a, rfl⟩ := hc.1
        obtain ⟨b, rfl⟩ := hc'.1
        simp only [hg, isAggD, valOf, Bool.false_eq_true, if_false, List.headD_cons]
        rw [run_equalIn_int w (n + m) t k k a b (by rw [hT.u, hu])]
        simp [eqV]
    · rename_i hu
      cases h
      rw [hu] at hg
      match cs, cs', hc, hc' with
      | [x], [y], hc, hc' =>
        obtain ⟨a, rfl⟩ := hc.1
        obtain ⟨b, rfl⟩ := hc'.1
        simp only [hg, isAggD, valOf, Bool.false_eq_true, if_false, List.headD_cons]
        rw [run_equalIn_bool' w (n + m) t a b (by rw [hT.u, hu])]
        simp [eqV]
    · rename_i fs hu
      rw [hu] at hg
      simp only [hg, isAggD, valOf, if_true]
      have hf : C.P.fieldsOf t = fs := by simp [Program.fieldsOf, hT.u, hu]
      rw [run_equalIn_struct w (n + m) t _ _ (by rw [hf, hT.u, hu]) hT.h, hf]
      have key : ∀ (l : List Field) (o : Nat) (ks : List CK), flds (plainK C.T n) l o = some ks → cks ks (cs.drop o) → cks ks (cs'.drop o) →
          (Op.eqFields (n + m) cs.toArray cs'.toArray l).run C.P w = .ok (eqV (cs.drop o) (cs'.drop o)) w := by
        intro l
        induction l with
        | nil =>
          intro o ks h h1 h2
          simp only [flds, Option.some.injEq] at h
          subst h
          have e1 := List.eq_nil_of_length_eq_zero (cks_len h1)
          have e2 := List.eq_nil_of_length_eq_zero (cks_len h2)
          simp [Op.eqFields, e1, e2, eqV]
        | cons fd l ih =>
          intro o ks h h1 h2
          simp only [flds] at h
          split at h
          · rename_i hc0
            obtain ⟨ho, hn⟩ := hc0
            split at h
            · rename_i k1 hk1
              split at h
              · rename_i k2 hk2
                simp only [Option.some.injEq] at h
                subst h
                obtain ⟨s1, s2⟩ := cks_split h1
                obtain ⟨t1, t2⟩ := cks_split h2
                rw [List.drop_drop] at s2 t2
                obtain ⟨e', he', hl'⟩ := plain_e hk1
                have ih1 := eq_plain w n m fd.type k1 e' hk1 he' _ _ s1 t1
                have ih2 := ih (o + k1.length) k2 hk2 s2 t2
                have hp1 := part_val (P := C.P) (w := w) (C.get he') hl' s1
                have hp2 := part_val (P := C.P) (w := w) (C.get he') hl' t1
                subst ho
                simp only [Op.eqFields, hn, ne_eq, not_false_eq_true, if_true, Sem.run_bind, hp1, hp2, Result.andThen_ok, ih1]
                have hs : eqV (cs.drop fd.offset) (cs'.drop fd.offset) = (eqV ((cs.drop fd.offset).take k1.length) ((cs'.drop fd.offset).take k1.length) && eqV (cs.drop (fd.offset + k1.length)) (cs'.drop (fd.offset + k1.length))) := by
                  rw [← eqV_split _ _ s1 t1, ← List.drop_drop, ← List.drop_drop, List.take_append_drop, List.take_append_drop]
                rw [hs]
                cases hq : eqV ((cs.drop fd.offset).take k1.length) ((cs'.drop fd.offset).take k1.length) with
                | false => simp
                | true => simp [ih2]
              · cases h
            · cases h
          · cases h
      have := key fs.toList 0 ks h (by simpa using hc) (by simpa using hc')
      simpa using this
    · rename_i mm t' hu
      rw [hu] at hg
      simp only [hg, isAggD, valOf, if_true]
      cases hk1 : plainK C.T n t' with
      | none => simp [hk1] at h
      | some k1 =>
        simp only [hk1, Option.map_some, Option.some.injEq] at h
        subst h
        obtain ⟨e', he', hl'⟩ := plain_e hk1
        obtain ⟨i, hi, _⟩ := (C.get he').info
        rw [run_equalIn_array w (n + m) _ _ (by rw [hT.u, hu]) hi, (C.get he').cellsOf]
        have key : ∀ (r o : Nat), cks (List.replicate r k1).flatten (cs.drop (o * e'.size)) → cks (List.replicate r k1).flatten (cs'.drop (o * e'.size)) →
            (Op.eqItems (n + m) t' e'.size cs.toArray cs'.toArray (List.range' o r)).run C.P w = .ok (eqV (cs.drop (o * e'.size)) (cs'.drop (o * e'.size))) w := by
          intro r
          induction r with
          | zero =>
            intro o h1 h2
            have e1 := List.eq_nil_of_length_eq_zero (cks_len h1)
            have e2 := List.eq_nil_of_length_eq_zero (cks_len h2)
            simp [Op.eqItems, e1, e2, eqV]
          | succ r ih =>
            intro o h1 h2
            rw [List.replicate_succ, List.flatten_cons] at h1 h2
            obtain ⟨s1, s2⟩ := cks_split h1
            obtain ⟨t1, t2⟩ := cks_split h2
            rw [List.drop_drop] at s2 t2
            have ho : o * e'.size + k1.length = (o + 1) * e'.size := by rw [hl', Nat.add_mul, Nat.one_mul]
            have ih1 := eq_plain w n m t' k1 e' hk1 he' _ _ s1 t1
            have ih2 := ih (o + 1) (by rw [← ho]; exact s2) (by rw [← ho]; exact t2)
            have hp1 := part_val (P := C.P) (w := w) (C.get he') hl' s1
            have hp2 := part_val (P := C.P) (w := w) (C.get he') hl' t1
            rw [List.range'_succ]
            simp only [Op.eqItems, Sem.run_bind, hp1, hp2, Result.andThen_ok, ih1]
            have hs : eqV (cs.drop (o * e'.size)) (cs'.drop (o * e'.size)) = (eqV ((cs.drop (o * e'.size)).take k1.length) ((cs'.drop (o * e'.size)).take k1.length) && eqV (cs.drop ((o + 1) * e'.size)) (cs'.drop ((o + 1) * e'.size))) := by
              rw [← eqV_split _ _ s1 t1, ← ho, ← List.drop_drop, ← List.drop_drop, List.take_append_drop, List.take_append_drop]
            rw [hs]
            cases hq : eqV ((cs.drop (o * e'.size)).take k1.length) ((cs'.drop (o * e'.size)).take k1.length) with
            | false => simp
            | true => simp [ih2]
        have := key mm 0 (by simpa using hc) (by simpa using hc')
        rw [List.range_eq_range']
        simpa using this
    · cases h

section
variable {C : Cx} {E : En} {K : Kn} {Γ : List Res} {Q : Exit → Act → World → Prop} {ops : Array Oper} {o : Oper} {rest : List Oper}

def eqOp (op : BinOp) (c : Bool) : Option Bool := match op with | .eql => some c | .neq => some (!c) | _ => none

/-- Two structs or arrays held against each other. -/
theorem q_eq {op : BinOp} {t yt : TypeId} {x y : Operand} {xs ys : List DV} {us vs : List Value} {ks : List CK} {e : TyE} {c : Bool} {G : List (Bool × Bool)} (ho : o.op = .binOp op t x y yt) (hg : gpo ops K o.guard = some G)
    (hx : evG G K x = some (.agg xs)) (hy : evG G K y = some (.agg ys)) (hc : gA G K [x, y] = gB G K [x, y]) (hu : svals xs = some us) (hv : svals ys = some vs)
    (ht : lkT C.T t = some e) (ha : e.agg = true) (hk : plainK C.T 5 t = some ks) (h1 : ckB ks us = true) (h2 : ckB ks vs = true) (hop : eqOp op (eqV us vs) = some c) : Qv C E ops K Γ o (wrapG G (.v (.bool c))) := by
  refine qv_val hg (fun a w hT s f => ⟨.bool c, w, ?_, s, Mv.refl _ _ _, .v _⟩)
  obtain ⟨cs, e1, r1⟩ := (evG_ok f hT hc (by simp) hx).agg_inv
  obtain ⟨cs', e2, r2⟩ := (evG_ok f hT hc (by simp) hy).agg_inv
  have q1 := svals_ok hu r1
  have q2 := svals_ok hv r2
  subst q1 q2
  have hr := eq_plain (C := C) w 5 9995 t ks e hk ht cs cs' (ckB_ok h1) (ckB_ok h2)
  simp only [valOf, ha, if_true] at hr
  unfold execOp
  simp only [ho, e1, e2, Sem.run_bind, run_eqGuard_agg w op t x y _ _ (C.get ht).q, Result.andThen_ok]
  cases op <;> simp only [eqOp, reduceCtorEq, Option.some.injEq] at hop
  · subst hop
    rw [run_eql_struct, hr]; rfl
  · subst hop
    rw [run_neq_struct, hr]; rfl


theorem u_eq {op : BinOp} {t yt : TypeId} {x y : Operand} {xs ys : List DV} {us vs : List Value} {ks : List CK} {e : TyE} {c : Bool} (ho : o.op = .binOp op t x y yt) (hg : o.guard = none)
    (hx : ev K x = some (.agg xs)) (hy : ev K y = some (.agg ys)) (hu : svals xs = some us) (hv : svals ys = some vs)
    (ht : lkT C.T t = some e) (ha : e.agg = true) (hk : plainK C.T 5 t = some ks) (h1 : ckB ks us = true) (h2 : ckB ks vs = true) (hop : eqOp op (eqV us vs) = some c) : Qv C E ops K Γ o (.v (.bool c)) :=
  q_eq (G := []) ho (by rw [hg]; rfl) hx hy rfl hu hv ht ha hk h1 h2 hop
end
end Go.Proofs.Ytcdakcemcehfiaa
