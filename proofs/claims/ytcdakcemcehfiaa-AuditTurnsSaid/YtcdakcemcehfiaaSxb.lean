/- The walk library, part b: operations. -/
import Derived.Test.YtcdakcemcehfiaaSxa
namespace Go.Proofs.Ytcdakcemcehfiaa
open Go Go.RowKit

section
variable {C : Cx} {E : En} {K : Kn} {Γ : List Res} {Q : Exit → Act → World → Prop} {ops : Array Oper}

theorem o_val {o : Oper} {rest : List Oper} {d : DV} {Γ' : List Res} (hg : o.guard = none) (hs : dstOk E.N o.dst = true)
    (h : ∀ a w, St E w Γ → Fr E.N K (av E Γ) w a → ∃ v w', (execOp a.eval o).run C.P w = .ok (.value v) w' ∧ St E w' Γ' ∧ Mv E Γ w Γ' w' ∧ Rep (av E Γ') w' v d)
    (k : SO C E ops rest (putK o.dst d K) Γ' Q) : SO C E ops (o :: rest) K Γ Q := by
  intro a w s f
  obtain ⟨v, w', hr, hs', hm, hv⟩ := h a w s f
  refine wpList_plain hg fun Kc hK => ?_
  unfold Oper.wp
  rw [hr]
  exact hK _ _ (k _ _ hs' ((f.mv hm).put hs hv))

theorem o_skp {o : Oper} {rest : List Oper} {Γ' : List Res} (hg : o.guard = none) (hs : o.dst = none)
    (h : ∀ a w, St E w Γ → Fr E.N K (av E Γ) w a → ∃ w', (execOp a.eval o).run C.P w = .ok .skip w' ∧ St E w' Γ' ∧ Mv E Γ w Γ' w')
    (k : SO C E ops rest K Γ' Q) : SO C E ops (o :: rest) K Γ Q := by
  intro a w s f
  obtain ⟨w', hr, hs', hm⟩ := h a w s f
  refine wpList_plain hg fun Kc hK => ?_
  unfold Oper.wp
  rw [hr]
  show Kc (a.put o.dst undef) w'
  rw [hs]
  exact hK _ _ (k _ _ hs' (f.mv hm))

/-! ### guards -/
def gpath : DV → Option (List (Bool × Bool) × Bool)
  | .v (.bool c) => some ([], c)
  | .gd c w d => match gpath d with | some (l, c') => some ((c, w) :: l, c') | none => none
  | _ => none

/-- On which tests it hangs whether an operation is carried out. -/
def gpo (ops : Array Oper) (K : Kn) : Option (Nat × Bool) → Option (List (Bool × Bool))
  | none => some []
  | some (j, want) => match (ops.toList[j]?).bind (·.dst) with
    | some s => match lk K s with
      | some d => match gpath d with
        | some (l, c) => some (l ++ [(c, want)])
        | none => none
      | none => none
    | none => none

def allT : List (Bool × Bool) → Prop
  | [] => True
  | p :: G => p.1 = p.2 ∧ allT G

def wrapG : List (Bool × Bool) → DV → DV
  | [], d => d
  | p :: G, d => .gd p.1 p.2 (wrapG G d)

def strip : List (Bool × Bool) → DV → DV
  | _ :: G, .gd _ _ d => strip G d
  | _, d => d
def stripE : List (Bool × Bool) → DV → List (Bool × Bool)
  | _ :: G, .gd c w d => (c, w) :: stripE G d
  | _, _ => []

theorem strip_ok {A : Nat → Prop} {w : World} {u : Value} : ∀ {G : List (Bool × Bool)} {d : DV}, allT G → stripE G d = G.take (stripE G d).length → Rep A w u d → Rep A w u (strip G d)
  | [], d, _, _, h => by cases d <;> exact h
  | p :: G, d, hT, he, h => by
    cases d with
    | gd c want d =>
      simp only [stripE, List.length_cons, List.take_succ_cons, List.cons.injEq] at he
      obtain ⟨h1, h2⟩ := he
      cases h with
      | gdt _ _ _ _ _ h => exact strip_ok (G := G) (d := d) hT.2 h2 h
      | gdf _ _ _ hc => exact absurd (by have := hT.1; rw [← h1] at this; exact this) hc
    | _ => exact h

theorem allT_append : ∀ {G H : List (Bool × Bool)}, allT (G ++ H) ↔ allT G ∧ allT H
  | [], H => by simp [allT]
  | p :: G, H => by simp [allT, allT_append (G := G), and_assoc]

theorem gpath_ok {A : Nat → Prop} {w : World} {u : Value} : ∀ {d : DV} {l : List (Bool × Bool)} {c : Bool}, Rep A w u d → gpath d = some (l, c) → (allT l ∧ u = .bool c) ∨ (¬ allT l ∧ u = undef)
  | .v x, l, c, h, hg => by
    have := h.v_inv
    subst this
    cases u <;> simp [gpath] at hg
    obtain ⟨rfl, rfl⟩ := hg
    exact .inl ⟨trivial, rfl⟩
  | .gd c0 w0 d, l, c, h, hg => by
    simp only [gpath] at hg
    split at hg <;> first | (simp only [reduceCtorEq] at hg; done) | skip
    rename_i l' c' hl
    simp only [Option.some.injEq, Prod.mk.injEq] at hg
    obtain ⟨rfl, rfl⟩ := hg
    cases h with
    | gdt _ _ _ _ hc h =>
      rcases gpath_ok h hl with ⟨h1, h2⟩ | ⟨h1, h2⟩
      · exact .inl ⟨⟨hc, h1⟩, h2⟩
      · exact .inr ⟨fun h => h1 h.2, h2⟩
    | gdf _ _ _ hc => exact .inr ⟨fun h => hc h.1, rfl⟩
  | .agg _, _, _, _, hg => by simp [gpath] at hg
  | .tup _, _, _, _, hg => by simp [gpath] at hg
  | .sl _ _, _, _, _, hg => by simp [gpath] at hg
  | .mp _, _, _, _, hg => by simp [gpath] at hg
  | .el _ _ _ _, _, _, _, hg => by simp [gpath] at hg
  | .rp _ _ _ _, _, _, _, hg => by simp [gpath] at hg
  | .os _, _, _, _, hg => by simp [gpath] at hg
  | .un, _, _, _, hg => by simp [gpath] at hg
  | .clo _ _, _, _, _, hg => by simp [gpath] at hg

theorem wrapG_t {A : Nat → Prop} {w : World} {u : Value} {d : DV} : ∀ {G : List (Bool × Bool)}, allT G → Rep A w u d → Rep A w u (wrapG G d)
  | [], _, h => h
  | _ :: _, hT, h => .gdt _ _ _ _ hT.1 (wrapG_t hT.2 h)
theorem wrapG_f {A : Nat → Prop} {w : World} {d : DV} : ∀ {G : List (Bool × Bool)}, ¬ allT G → Rep A w undef (wrapG G d)
  | [], h => absurd trivial h
  | p :: G, h => by
    by_cases hp : p.1 = p.2
    · exact .gdt _ _ _ _ hp (wrapG_f fun h' => h ⟨hp, h'⟩)
    · exact .gdf _ _ _ hp

def evG (G : List (Bool × Bool)) (K : Kn) (x : Operand) : Option DV := match G with | [] => ev K x | G => (ev K x).map (strip G)
def gA (G : List (Bool × Bool)) (K : Kn) (l : List Operand) : List (List (Bool × Bool)) := match G with | [] => [] | G => l.map fun x => match ev K x with | some d => stripE G d | none => []
def gB (G : List (Bool × Bool)) (K : Kn) (l : List Operand) : List (List (Bool × Bool)) := match G with | [] => [] | G => l.map fun x => match ev K x with | some d => G.take (stripE G d).length | none => []

theorem map_eq_mem {α β : Type} {f g : α → β} : ∀ {l : List α}, l.map f = l.map g → ∀ x ∈ l, f x = g x
  | [], _, x, h => by simp at h
  | a :: l, h, x, hx => by
    simp only [List.map_cons, List.cons.injEq] at h
    rcases List.mem_cons.1 hx with rfl | hx
    · exact h.1
    · exact map_eq_mem h.2 x hx

theorem evG_ok {N : Nat} {K : Kn} {A : Nat → Prop} {w : World} {a : Act} (h : Fr N K A w a) {G : List (Bool × Bool)} (hT : allT G) {l : List Operand} (hc : gA G K l = gB G K l) {x : Operand} {d : DV} (hm : x ∈ l) (hx : evG G K x = some d) : Rep A w (a.eval x) d := by
  cases G with
  | nil => exact h.evl hx
  | cons p G =>
    simp only [evG] at hx
    cases he : ev K x with
    | none => simp [he] at hx
    | some d' =>
      simp only [he, Option.map_some, Option.some.injEq] at hx
      subst hx
      have := map_eq_mem hc x hm
      simp only [he] at this
      exact strip_ok hT this (h.evl he)

theorem want_tf {N : Nat} {A : Nat → Prop} {w : World} {a : Act} {o : Oper} {G : List (Bool × Bool)} (hg : gpo ops K o.guard = some G) (f : Fr N K A w a) :
    (allT G ∧ Region.wanted o (yielded ops a.tmps) = true) ∨ (¬ allT G ∧ Region.wanted o (yielded ops a.tmps) = false) := by
  cases hgd : o.guard with
  | none =>
    rw [hgd] at hg
    simp only [gpo, Option.some.injEq] at hg
    subst hg
    exact .inl ⟨trivial, by simp [Region.wanted, hgd]⟩
  | some jw =>
    obtain ⟨j, want⟩ := jw
    rw [hgd] at hg
    simp only [gpo] at hg
    split at hg <;> first | (simp only [reduceCtorEq] at hg; done) | skip
    rename_i sl hsl
    split at hg <;> first | (simp only [reduceCtorEq] at hg; done) | skip
    rename_i dd hdd
    split at hg <;> first | (simp only [reduceCtorEq] at hg; done) | skip
    rename_i l c hl
    simp only [Option.some.injEq] at hg
    subst hg
    obtain ⟨u, hu, hr⟩ := f.kn _ _ hdd
    have hy : yielded ops a.tmps j = match u with | .bool b => some b | _ => none := by
      unfold yielded
      rw [← Array.getElem?_toList, hsl]
      simp only [Option.bind_some, hu]
      cases u <;> rfl
    rcases gpath_ok hr hl with ⟨h1, rfl⟩ | ⟨h1, rfl⟩
    · by_cases hcw : c = want
      · exact .inl ⟨allT_append.2 ⟨h1, hcw, trivial⟩, by simp [Region.wanted, hgd, hy, hcw]⟩
      · exact .inr ⟨fun h => hcw (allT_append.1 h).2.1, by simp [Region.wanted, hgd, hy, hcw]⟩
    · exact .inr ⟨fun h => h1 (allT_append.1 h).1, by simp [Region.wanted, hgd, hy, undef]⟩

theorem want_t {N : Nat} {A : Nat → Prop} {w : World} {a : Act} {o : Oper} {G : List (Bool × Bool)} (hg : gpo ops K o.guard = some G) (f : Fr N K A w a) (hT : allT G) : Region.wanted o (yielded ops a.tmps) = true := by
  rcases want_tf hg f with h | h
  · exact h.2
  · exact absurd hT h.1
theorem want_f {N : Nat} {A : Nat → Prop} {w : World} {a : Act} {o : Oper} {G : List (Bool × Bool)} (hg : gpo ops K o.guard = some G) (f : Fr N K A w a) (hT : ¬ allT G) : Region.wanted o (yielded ops a.tmps) = false := by
  rcases want_tf hg f with h | h
  · exact absurd h.1 hT
  · exact h.2

/-- The operation hands back what d tells, and leaves what is owned as it is (in whatever order it is carried out). -/
def Qv (C : Cx) (E : En) (ops : Array Oper) (K : Kn) (Γ : List Res) (o : Oper) (d : DV) : Prop :=
  ∃ G d0, gpo ops K o.guard = some G ∧ d = wrapG G d0 ∧ ∀ a w, allT G → St E w Γ → Fr E.N K (av E Γ) w a → ∀ (Kc : Act → World → Prop) (Qx : Exit → Act → World → Prop),
    (∀ v w', St E w' Γ → Mv E Γ w Γ w' → Rep (av E Γ) w' v d0 → Kc (a.put o.dst v) w') → o.wp C.P a w Kc Qx

theorem qv_val {o : Oper} {d : DV} {G : List (Bool × Bool)} (hg : gpo ops K o.guard = some G)
    (h : ∀ a w, allT G → St E w Γ → Fr E.N K (av E Γ) w a → ∃ v w', (execOp a.eval o).run C.P w = .ok (.value v) w' ∧ St E w' Γ ∧ Mv E Γ w Γ w' ∧ Rep (av E Γ) w' v d) : Qv C E ops K Γ o (wrapG G d) := by
  refine ⟨G, d, hg, rfl, fun a w hT s f Kc Qx hK => ?_⟩
  obtain ⟨v, w', hr, hs, hm, hv⟩ := h a w hT s f
  unfold Oper.wp
  rw [hr]
  exact hK v w' hs hm hv

theorem Qv.step {o : Oper} {rest : List Oper} {d : DV} {sl : Nat} (hq : Qv C E ops K Γ o d) (hsl : o.dst = some sl) (hN : Nat.blt sl E.N = true) (k : SO C E ops rest ((sl, d) :: K) Γ Q) : SO C E ops (o :: rest) K Γ Q := by
  have hs : dstOk E.N o.dst = true := by rw [hsl]; exact hN
  have k : SO C E ops rest (putK o.dst d K) Γ Q := by rw [hsl]; exact k
  intro a w s f
  obtain ⟨G, d0, hg, rfl, h⟩ := hq
  refine wpList_step fun Kc hK => ?_
  rcases want_tf hg f with ⟨hT, hw⟩ | ⟨hT, hw⟩
  · rw [if_pos hw]
    exact h a w hT s f Kc Q fun v w' s' m' hv => hK _ _ (k _ _ s' ((f.mv m').put hs (wrapG_t hT hv)))
  · rw [hw, if_neg (by simp)]
    exact hK _ _ (k _ _ s (f.put hs (wrapG_f hT)))

/-! ### pure operations -/
def binI (op : BinOp) (k k' : IntKind) (a b : Int) : Option Value :=
  if k = k' then
    match op with
    | .add => some (.int k (k.wrap (a + b)))
    | .sub => some (.int k (k.wrap (a - b)))
    | .mul => some (.int k (k.wrap (a * b)))
    | .eql => some (.bool (a == b))
    | .neq => some (.bool (a != b))
    | .lss => some (.bool (decide (a < b)))
    | .leq => some (.bool (decide (a ≤ b)))
    | .gtr => some (.bool (decide (a > b)))
    | .geq => some (.bool (decide (a ≥ b)))
    | _ => none
  else none

def oneV : Option DV → Option Value | some (.v u) => some u | _ => none
def allV (e : Operand → Option DV) : List Operand → Option (List Value)
  | [] => some []
  | x :: l => match oneV (e x), allV e l with | some u, some us => some (u :: us) | _, _ => none

/-- The cells of a value that is put in a place of n cells. -/
def cellsD (agg : Bool) (n : Nat) : DV → Option (List DV)
  | .agg ds => if agg = true ∧ ds.length = n then some ds else none
  | .tup _ => none
  | .gd _ _ _ => none
  | d => if agg = true then none else some [d]

def spl (ds : List DV) (o : Nat) (new : List DV) : List DV := ds.take o ++ (new ++ ds.drop (o + new.length))

def fieldOf (T : List (Nat × TyE)) (t f : Nat) : Option (Field × TyE) :=
  match lkT T t with
  | some e => match e.u with
    | .struct fs => match fs.toList[f]? with
      | some fd => match lkT T fd.type with
        | some e' => if e'.size = 0 then none else some (fd, e')
        | none => none
      | none => none
    | _ => none
  | none => none

def partD (e' : TyE) (o : Nat) (ds : List DV) : Option DV :=
  if e'.agg = true then (if o + e'.size ≤ ds.length then some (.agg ((ds.drop o).take e'.size)) else none) else ds[o]?

def pv (T : List (Nat × TyE)) (e : Operand → Option DV) : Op → Option DV
  | .move x | .assign x => e x
  | .nilCheck x => match e x with
    | some (.v (.pointer (some a))) => some (.v (.pointer (some a)))
    | some (.el k r i o) => some (.el k r i o)
    | some (.rp u k i p) => some (.rp u k i p)
    | _ => none
  | .binOp op _ x y _ => match e x, e y with
    | some (.v (.int k a)), some (.v (.int k' b)) => (binI op k k' a b).map .v
    | _, _ => none
  | .unOp op _ x => match op, e x with
    | .not, some (.v (.bool b)) => some (.v (.bool !b))
    | .neg, some (.v (.int k n)) => some (.v (.int k (k.wrap (0 - n))))
    | _, _ => none
  | .convert s t x => match e x, lkT T s, lkT T t with
    | some (.v (.int _ n)), some es, some e' => match es.u, e'.u with | .int _, .int k => some (.v (.int k (k.wrap n))) | _, _ => none
    | _, _, _ => none
  | .extract x i => match e x with | some (.tup ds) => ds[i]? | _ => none
  | .field t x f => match e x, fieldOf T t f with
    | some (.agg ds), some (fd, e') => partD e' fd.offset ds
    | _, _ => none
  | .fieldAddr t x f => match e x, fieldOf T t f with
    | some (.v (.pointer (some ⟨b, o, none⟩))), some (fd, _) => some (.v (.pointer (some ⟨b, o + fd.offset, none⟩)))
    | some (.el k r i o), some (fd, _) => some (.el k r i (o + fd.offset))
    | some (.rp u k i p), some (fd, _) => some (.rp u k i (p + fd.offset))
    | _, _ => none
  | .makeFunc fn f c => match allV e f.toList, allV e c.toList with
    | some fs, some cs => some (.v (.func fn fs.toArray cs.toArray))
    | _, _ => none
  | _ => none

theorem allV_ok {A : Nat → Prop} {w : World} {ρ : Operand → Value} {e : Operand → Option DV} :
    ∀ {l : List Operand} (_ : ∀ x ∈ l, ∀ d, e x = some d → Rep A w (ρ x) d) (us : List Value), allV e l = some us → l.map ρ = us
  | [], _, us, h => by simp [allV] at h; simp [h]
  | x :: l, he, us, h => by
    simp only [allV] at h
    cases h1 : e x with
    | none => simp [h1, oneV] at h
    | some d =>
      cases h2 : allV e l with
      | none => simp [h2] at h
      | some us' =>
        cases d with
        | v u =>
          simp only [h1, oneV, h2, Option.some.injEq] at h
          subst h
          simp [allV_ok (fun y hy => he y (List.mem_cons_of_mem _ hy)) us' h2, (he x (by simp) _ h1).v_inv]
        | _ => simp [h1, oneV] at h

theorem fieldOf_ok {t f : Nat} {fd : Field} {e' : TyE} (h : fieldOf C.T t f = some (fd, e')) :
    ∃ fs : Array Field, C.P.underlying t = some (.struct fs) ∧ fs[f]? = some fd ∧ TyOk C.P fd.type e' ∧ e'.size ≠ 0 := by
  unfold fieldOf at h
  split at h
  · rename_i e he
    split at h
    · rename_i fs hfs
      split at h
      · rename_i fd' hfd
        split at h
        · rename_i e2 he2
          split at h
          · cases h
          · rename_i hz
            simp only [Option.some.injEq, Prod.mk.injEq] at h
            obtain ⟨rfl, rfl⟩ := h
            exact ⟨fs, by rw [(C.get he).u, hfs], by simpa using hfd, C.get he2, hz⟩
        · cases h
      · cases h
    · cases h
  · cases h

theorem TyOk.info {P : Program} {t : TypeId} {e : TyE} (h : TyOk P t e) : ∃ i, P.info? t = some i ∧ i.size = e.size ∧ i.bytes = e.bytes ∧ i.zero = some e.z := by
  have := h.i
  cases hi : P.info? t with
  | none => simp [hi] at this
  | some i => simp [hi] at this; exact ⟨i, rfl, this.1, this.2.1, this.2.2⟩

theorem TyOk.run_under {P : Program} {t : TypeId} {e : TyE} (h : TyOk P t e) (w : World) : (underlying t).run P w = .ok e.u w := by
  simp [underlying, h.u]
theorem TyOk.run_size {P : Program} {t : TypeId} {e : TyE} (h : TyOk P t e) (w : World) : (sizeOf t).run P w = .ok e.size w := by
  obtain ⟨i, hi, h1, _⟩ := h.info
  simp [sizeOf, typeInfo, hi, h1]
theorem TyOk.run_info {P : Program} {t : TypeId} {e : TyE} (h : TyOk P t e) : ∃ i : TypeInfo, i.size = e.size ∧ i.bytes = e.bytes ∧ i.zero = some e.z ∧ P.info? t = some i ∧ ∀ w, (typeInfo t).run P w = .ok i w := by
  obtain ⟨i, hi, h1, h2, h3⟩ := h.info
  exact ⟨i, h1, h2, h3, hi, fun w => by simp [typeInfo, hi]⟩
theorem TyOk.run_zero {P : Program} {t : TypeId} {e : TyE} (h : TyOk P t e) (w : World) : (zeroValue t).run P w = .ok e.z w := by
  obtain ⟨i, hi, _, _, h3⟩ := h.info
  simp [zeroValue, typeInfo, hi, h3]
theorem TyOk.run_agg {P : Program} {t : TypeId} {e : TyE} (h : TyOk P t e) (w : World) : (isAgg t).run P w = .ok e.agg w := by
  rw [h.g]
  simp only [isAgg, Sem.run_bind, h.run_under, Result.andThen_ok]
  cases e.u <;> rfl

theorem part_ok {P : Program} {A : Nat → Prop} {w : World} {t o : Nat} {e' : TyE} (h : TyOk P t e') {cs : List Value} {ds : List DV} (hr : RepL A w cs ds) {d : DV} (hd : partD e' o ds = some d) :
    ∃ v, (part t cs.toArray o).run P w = .ok v w ∧ Rep A w v d := by
  unfold partD at hd
  cases ha : e'.agg with
  | true =>
    rw [ha] at hd
    simp only [if_true] at hd
    split at hd
    · rename_i hle
      simp only [Option.some.injEq] at hd
      subst hd
      refine ⟨.agg ((cs.drop o).take e'.size).toArray, ?_, .agg _ _ ?_ ?_⟩
      · simp [part, h.run_agg, ha, h.run_size]
        try rw [List.take_drop, Nat.add_comm]
      · exact ((hr.drop o).take e'.size).1
      · exact ((hr.drop o).take e'.size).2
    · cases hd
  | false =>
    rw [ha] at hd
    simp only [Bool.false_eq_true, if_false] at hd
    obtain ⟨c, hc, hcd⟩ := hr.get hd
    exact ⟨c, by simp [part, h.run_agg, ha, hc], hcd⟩

theorem run_bin (op : BinOp) (t : TypeId) (x y : Operand) (k k' : IntKind) (a b : Int) {u : Value} (h : binI op k k' a b = some u) (P : Program) (w : World) :
    (do eqGuard op t x y (.int k a) (.int k' b); binOp op t (.int k a) (.int k' b) : Sem Value).run P w = .ok u w := by
  unfold binI at h
  split at h
  · rename_i hk
    subst hk
    split at h <;> first | (simp only [reduceCtorEq] at h; done) | (simp only [Option.some.injEq] at h; subst h; simp [eqGuard, binOp, Op.intArith, Op.intCmp])
  · simp at h

theorem fieldPlace_ok {P : Program} {w : World} {fd : Field} {e' : TyE} (h : TyOk P fd.type e') (hz : e'.size ≠ 0) (b o : Nat) :
    (fieldPlace ⟨b, o, none⟩ fd).run P w = .ok ⟨b, o + fd.offset, none⟩ w := by
  simp only [fieldPlace, Sem.run_bind, h.run_size, Result.andThen_ok, hz, if_false]
  simp only [Addr.add]
  split
  · rename_i h0; simp [h0]
  · simp

theorem Rep.el_inv {A : Nat → Prop} {w : World} {u : Value} {k i o : Nat} {rows : List (List DV)} (h : Rep A w u (.el k rows i o)) :
    ∃ b off cap, u = .pointer (some ⟨b, off + (i * k + o), none⟩) ∧ i < rows.length ∧ Rep A w (.slice (some ⟨b, off, none⟩) rows.length cap) (.sl k rows) := by
  cases h with | el b off cap _ _ _ _ hi h => exact ⟨b, off, cap, rfl, hi, h⟩

theorem Rep.rp_inv {A : Nat → Prop} {w : World} {u x : Value} {k i p : Nat} (h : Rep A w u (.rp x k i p)) : ∃ b n cap, u = .pointer (some ⟨b, i * k + p, none⟩) ∧ x = .slice (some ⟨b, 0, none⟩) n cap := by
  cases h with | rp b n cap => exact ⟨b, n, cap, rfl, rfl⟩

theorem pv_ok {A : Nat → Prop} {w : World} {ρ : Operand → Value} {e : Operand → Option DV} {o : Oper} (he' : ∀ x ∈ o.op.operands.toList, ∀ d, e x = some d → Rep A w (ρ x) d) {d : DV} (h : pv C.T e o.op = some d) :
    ∃ v, (execOp ρ o).run C.P w = .ok (.value v) w ∧ Rep A w v d := by
  unfold execOp
  generalize o.op = op at h he'
  cases op with
  | move x => exact ⟨_, by simp, he' x (by simp [Op.operands]) d h⟩
  | assign x => exact ⟨_, by simp, he' x (by simp [Op.operands]) d h⟩
  | nilCheck x =>
    have hex := he' x (by simp [Op.operands])
    simp only [pv] at h
    split at h <;> first | (simp only [reduceCtorEq] at h; done) | skip
    · rename_i a hx
      simp only [Option.some.injEq] at h; subst h
      have := (hex _ hx).v_inv
      exact ⟨.pointer (some a), by simp [this], .v _⟩
    · rename_i k r i p hx
      simp only [Option.some.injEq] at h; subst h
      have hr := hex _ hx
      obtain ⟨b, off, cap, hu, _⟩ := hr.el_inv
      exact ⟨ρ x, by simp [hu], hr⟩
    · rename_i u k i p hx
      simp only [Option.some.injEq] at h; subst h
      have hr := hex _ hx
      obtain ⟨b, n, cap, hu, _⟩ := hr.rp_inv
      exact ⟨ρ x, by simp [hu], hr⟩
  | binOp op t x y yt =>
    have hex := he' x (by simp [Op.operands])
    have hey := he' y (by simp [Op.operands])
    simp only [pv] at h
    split at h <;> first | (simp only [reduceCtorEq] at h; done) | skip
    rename_i k a k' b hx hy
    cases hb : binI op k k' a b with
    | none => simp [hb] at h
    | some u =>
      simp only [hb, Option.map_some, Option.some.injEq] at h
      subst h
      have h1 := (hex _ hx).v_inv
      have h2 := (hey _ hy).v_inv
      refine ⟨u, ?_, .v _⟩
      have := run_bin op t x y k k' a b hb C.P w
      simp only [h1, h2, Sem.run_bind, Sem.run_pure] at this ⊢
      rw [this]; rfl
  | unOp op t x =>
    have hex := he' x (by simp [Op.operands])
    simp only [pv] at h
    split at h <;> first | (simp only [reduceCtorEq] at h; done) | skip
    · rename_i b hx
      simp only [Option.some.injEq] at h; subst h
      exact ⟨.bool !b, by simp [(hex _ hx).v_inv, Op.unary], .v _⟩
    · rename_i k n hx
      simp only [Option.some.injEq] at h; subst h
      exact ⟨.int k (k.wrap (0 - n)), by simp [(hex _ hx).v_inv, Op.unary, Op.intArith], .v _⟩
  | convert s t x =>
    have hex := he' x (by simp [Op.operands])
    simp only [pv] at h
    split at h <;> first | (simp only [reduceCtorEq] at h; done) | skip
    rename_i k0 n es e' hx hs ht
    split at h <;> first | (simp only [reduceCtorEq] at h; done) | skip
    rename_i k1 k h1 h2
    simp only [Option.some.injEq] at h; subst h
    refine ⟨.int k (k.wrap n), ?_, .v _⟩
    simp [convert, underlying, (C.get hs).u, (C.get ht).u, h1, h2, (hex _ hx).v_inv, Conv.intToInt]
  | extract x i =>
    have hex := he' x (by simp [Op.operands])
    simp only [pv] at h
    split at h <;> first | (simp only [reduceCtorEq] at h; done) | skip
    rename_i ds hx
    obtain ⟨cs, hu, hr⟩ := (hex _ hx).tup_inv
    obtain ⟨c, hc, hcd⟩ := hr.get h
    exact ⟨c, by simp [hu, Instr.extract, hc], hcd⟩
  | field t x f =>
    have hex := he' x (by simp [Op.operands])
    simp only [pv] at h
    split at h <;> first | (simp only [reduceCtorEq] at h; done) | skip
    rename_i ds fd e' hx hf
    obtain ⟨cs, hu, hr⟩ := (hex _ hx).agg_inv
    obtain ⟨fs, h1, h2, h3, h4⟩ := fieldOf_ok hf
    obtain ⟨v, hv, hvd⟩ := part_ok h3 hr h
    refine ⟨v, ?_, hvd⟩
    simp [Instr.field, underlying, h1, h2, hu, asAgg, hv]
  | fieldAddr t x f =>
    have hex := he' x (by simp [Op.operands])
    simp only [pv] at h
    split at h <;> first | (simp only [reduceCtorEq] at h; done) | skip
    · rename_i b o fd e' hx hf
      simp only [Option.some.injEq] at h; subst h
      obtain ⟨fs, h1, h2, h3, h4⟩ := fieldOf_ok hf
      refine ⟨_, ?_, .v _⟩
      simp [Instr.fieldAt, underlying, h1, h2, (hex _ hx).v_inv, Instr.sureAddr, fieldPlace_ok h3 h4]
    · rename_i k r i o fd e' hx hf
      simp only [Option.some.injEq] at h; subst h
      obtain ⟨fs, h1, h2, h3, h4⟩ := fieldOf_ok hf
      obtain ⟨b, off, cap, hu, hi, hr⟩ := (hex _ hx).el_inv
      refine ⟨_, ?_, .el b off cap k r i (o + fd.offset) hi hr⟩
      simp [Instr.fieldAt, underlying, h1, h2, hu, Instr.sureAddr, fieldPlace_ok h3 h4, Nat.add_assoc]
    · rename_i u k i p fd e' hx hf
      simp only [Option.some.injEq] at h; subst h
      obtain ⟨fs, h1, h2, h3, h4⟩ := fieldOf_ok hf
      obtain ⟨b, n, cap, hu, rfl⟩ := (hex _ hx).rp_inv
      refine ⟨_, ?_, .rp b n cap k i (p + fd.offset)⟩
      simp [Instr.fieldAt, underlying, h1, h2, hu, Instr.sureAddr, fieldPlace_ok h3 h4, Nat.add_assoc]
  | makeFunc fn f c =>
    simp only [pv] at h
    split at h <;> first | (simp only [reduceCtorEq] at h; done) | skip
    rename_i fs cs hf hc
    simp only [Option.some.injEq] at h; subst h
    refine ⟨_, ?_, .v _⟩
    have e1 := allV_ok (fun x hx d hd => he' x (by simp [Op.operands]; exact .inl (by simpa using hx)) d hd) _ hf
    have e2 := allV_ok (fun x hx d hd => he' x (by simp [Op.operands]; exact .inr (by simpa using hx)) d hd) _ hc
    simp only [Instr.makeFunc, Sem.run_bind, Sem.run_pure, Result.andThen_ok]
    rw [← e1, ← e2, ← Array.toList_map, ← Array.toList_map]
  | _ => simp [pv] at h

def isP : Op → Bool
  | .move _ | .assign _ | .nilCheck _ | .binOp .. | .unOp .. | .convert .. | .extract .. | .field .. | .fieldAddr .. | .makeFunc .. => true
  | _ => false
theorem u_p {o : Oper} {d : DV} (_ : isP o.op = true) (hg : o.guard = none) (hv : pv C.T (ev K) o.op = some d) : Qv C E ops K Γ o d :=
  qv_val (G := []) (d := d) (by rw [hg]; rfl) (fun _ w _ s f => let ⟨v, h1, h2⟩ := pv_ok (C := C) (fun _ _ _ hx => f.evl hx) hv; ⟨v, w, h1, s, Mv.refl _ _ _, h2⟩)
theorem q_p {o : Oper} {d : DV} {G : List (Bool × Bool)} (_ : isP o.op = true) (hg : gpo ops K o.guard = some G) (hv : pv C.T (evG G K) o.op = some d)
    (hc : gA G K o.op.operands.toList = gB G K o.op.operands.toList) : Qv C E ops K Γ o (wrapG G d) :=
  qv_val hg (fun _ w hT s f => let ⟨v, h1, h2⟩ := pv_ok (C := C) (fun _ hm _ hx => evG_ok f hT hc hm hx) hv; ⟨v, w, h1, s, Mv.refl _ _ _, h2⟩)

/-- A choice between two bools. -/
def oneB : DV → Option (Bool × List (Bool × Bool))
  | .v (.bool x) => some (x, [])
  | .gd c w (.v (.bool x)) => some (x, [(c, w)])
  | _ => none

theorem oneB_ok {A : Nat → Prop} {w : World} {u : Value} {d : DV} {x : Bool} {l : List (Bool × Bool)} (h : Rep A w u d) (ho : oneB d = some (x, l)) (hl : allT l) : u = .bool x := by
  unfold oneB at ho
  split at ho
  · simp only [Option.some.injEq, Prod.mk.injEq] at ho; obtain ⟨rfl, _⟩ := ho; exact h.v_inv
  · simp only [Option.some.injEq, Prod.mk.injEq] at ho
    obtain ⟨rfl, rfl⟩ := ho
    cases h with
    | gdt _ _ _ _ _ h => exact h.v_inv
    | gdf _ _ _ hc => exact absurd hl.1 hc
  · cases ho

def pre1 (l : List (Bool × Bool)) (q : Bool × Bool) : List (Bool × Bool) := match l with | [] => [] | _ => [q]

theorem q_pick {o : Oper} {G : List (Bool × Bool)} {c x y : Operand} {c0 bx bY : Bool} {lx ly : List (Bool × Bool)} {dx dy : DV} (ho : o.op = .pick c x y) (hg : gpo ops K o.guard = some G)
    (hc0 : evG G K c = some (.v (.bool c0))) (hx : evG G K x = some dx) (hy : evG G K y = some dy) (hx1 : oneB dx = some (bx, lx)) (hy1 : oneB dy = some (bY, ly))
    (hc : gA G K [c, x, y] = gB G K [c, x, y]) (hlx : lx = pre1 lx (c0, true)) (hly : ly = pre1 ly (c0, false)) : Qv C E ops K Γ o (wrapG G (.v (.bool (bif c0 then bx else bY)))) := by
  refine qv_val hg (fun a w hT s f => ⟨.bool (bif c0 then bx else bY), w, ?_, s, Mv.refl _ _ _, .v _⟩)
  have e1 := (evG_ok f hT hc (by simp) hc0).v_inv
  have e2 := evG_ok f hT hc (by simp) hx
  have e3 := evG_ok f hT hc (by simp) hy
  unfold execOp
  simp only [ho, e1, asBool, Sem.run_bind, Sem.run_pure, Result.andThen_ok]
  cases c0 with
  | true =>
    have : allT lx := by rw [hlx]; cases lx <;> simp [pre1, allT]
    simp [oneB_ok e2 hx1 this]
  | false =>
    have : allT ly := by rw [hly]; cases ly <;> simp [pre1, allT]
    simp [oneB_ok e3 hy1 this]

theorem u_pick {o : Oper} {c x y : Operand} {c0 bx bY : Bool} {lx ly : List (Bool × Bool)} {dx dy : DV} (ho : o.op = .pick c x y) (hg : o.guard = none)
    (hc0 : ev K c = some (.v (.bool c0))) (hx : ev K x = some dx) (hy : ev K y = some dy) (hx1 : oneB dx = some (bx, lx)) (hy1 : oneB dy = some (bY, ly))
    (hlx : lx = pre1 lx (c0, true)) (hly : ly = pre1 ly (c0, false)) : Qv C E ops K Γ o (.v (.bool (bif c0 then bx else bY))) :=
  q_pick (G := []) ho (by rw [hg]; rfl) hc0 hx hy hx1 hy1 rfl hlx hly
end
end Go.Proofs.Ytcdakcemcehfiaa
