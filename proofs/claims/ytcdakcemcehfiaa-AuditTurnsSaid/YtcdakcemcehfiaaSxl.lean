/- The walk library, part l: structs and arrays that are built, parts of slices, results. -/
import Derived.Test.YtcdakcemcehfiaaSxk
namespace Go.Proofs.Ytcdakcemcehfiaa
open Go Go.RowKit

section
variable {C : Cx} {E : En} {K : Kn} {Γ : List Res} {Q : Exit → Act → World → Prop} {ops : Array Oper} {o : Oper} {rest : List Oper}

/-- The places of a struct's fields. -/
def plcs (T : List (Nat × TyE)) : List Field → Option (List (Nat × Nat))
  | [] => some []
  | f :: fs => match lkT T f.type, plcs T fs with | some e, some l => some ((f.offset, e.size) :: l) | _, _ => none

theorem plcs_ok {w : World} : ∀ {fs : List Field} {l : List (Nat × Nat)}, plcs C.T fs = some l → (fs.mapM (m := Sem) fun f => do pure (f.offset, ← sizeOf f.type)).run C.P w = .ok l w
  | [], l, h => by simp only [plcs, Option.some.injEq] at h; subst h; simp
  | f :: fs, l, h => by
    simp only [plcs] at h
    split at h
    · rename_i e l' h1 h2
      simp only [Option.some.injEq] at h
      subst h
      have ih := plcs_ok (w := w) h2
      simp only [List.mapM_cons, Sem.run_bind, (C.get h1).run_size, Result.andThen_ok, Sem.run_pure, ih]
    · cases h

/-- A struct that is built. -/
theorem q_bst {t : TypeId} {parts : Array (Nat × Operand)} {pd : List (Nat × DV)} {e : TyE} {fs : Array Field} {l : List (Nat × Nat)} {ds : List DV} {G : List (Bool × Bool)} (ho : o.op = .build t parts) (hg : gpo ops K o.guard = some G)
    (ht : lkT C.T t = some e) (he : e.u = .struct fs) (ha : e.agg = true) (hl : plcs C.T fs.toList = some l) (hp : evParts G K parts.toList = some pd)
    (hc : gA G K (parts.toList.map (·.2)) = gB G K (parts.toList.map (·.2))) (hf : fillD (fun i => l[i]?) (e.zero.map zD) pd = some ds) : Qv C E ops K Γ o (wrapG G (.agg ds)) := by
  refine qv_val hg (fun a w hT s f => ?_)
  obtain ⟨q1, q2⟩ := evParts_ok f hT hc (fun p hp => List.mem_map.2 ⟨p, hp, rfl⟩) hp
  obtain ⟨cs, h3, h4⟩ := fill_ok (A := av E Γ) (w := w) (fun i => l[i]?) _ pd e.zero _ ds q1 q2 (zs_ok _ _ _) hf
  have hT1 := C.get ht
  have hz : e.z.cells = e.zero.toArray := by simp [TyE.z, ha, Value.cells]
  have hpl : (fs.mapM (m := Sem) fun f => do pure (f.offset, ← sizeOf f.type)).run C.P w = .ok l.toArray w := by
    have := plcs_ok (w := w) hl
    rw [Array.mapM_eq_mapM_toList]
    simp only [Sem.run_map, this]
    rfl
  refine ⟨_, w, ?_, s, .refl _ _ _, .agg cs ds h4.1 h4.2⟩
  unfold execOp
  have h3' : Instr.fill (fun i => l.toArray[i]?) e.zero.toArray (List.map (fun p => (p.1, a.eval p.2)) parts.toList) = some cs.toArray := by simpa using h3
  simp only [ho, Instr.build, Sem.run_bind, hT1.run_zero, hT1.run_under, he, Result.andThen_ok, hz, hpl, Array.toList_map, h3', Sem.run_pure]

/-- An array that is built. -/
theorem q_bar {t : TypeId} {n : Nat} {elem : TypeId} {parts : Array (Nat × Operand)} {pd : List (Nat × DV)} {e e2 : TyE} {ds : List DV} {G : List (Bool × Bool)} (ho : o.op = .build t parts) (hg : gpo ops K o.guard = some G)
    (ht : lkT C.T t = some e) (he : e.u = .array n elem) (ha : e.agg = true) (ht2 : lkT C.T elem = some e2) (hp : evParts G K parts.toList = some pd)
    (hc : gA G K (parts.toList.map (·.2)) = gB G K (parts.toList.map (·.2))) (hf : fillD (fun i => some (i * e2.size, e2.size)) (e.zero.map zD) pd = some ds) : Qv C E ops K Γ o (wrapG G (.agg ds)) := by
  refine qv_val hg (fun a w hT s f => ?_)
  obtain ⟨q1, q2⟩ := evParts_ok f hT hc (fun p hp => List.mem_map.2 ⟨p, hp, rfl⟩) hp
  obtain ⟨cs, h3, h4⟩ := fill_ok (A := av E Γ) (w := w) (fun i => some (i * e2.size, e2.size)) _ pd e.zero _ ds q1 q2 (zs_ok _ _ _) hf
  have hT1 := C.get ht
  have hz : e.z.cells = e.zero.toArray := by simp [TyE.z, ha, Value.cells]
  refine ⟨_, w, ?_, s, .refl _ _ _, .agg cs ds h4.1 h4.2⟩
  unfold execOp
  simp only [ho, Instr.build, Sem.run_bind, hT1.run_zero, hT1.run_under, he, (C.get ht2).run_size, Result.andThen_ok, hz, Array.toList_map, h3, Sem.run_pure]

/-- The first n of a slice that is read. -/
theorem q_sls {t k : Nat} {x y : Operand} {n : Int} {ik : IntKind} {rows : List (List DV)} {e e2 : TyE} {elem : TypeId} {G : List (Bool × Bool)} (ho : o.op = .slice t x none (some y) none) (hg : gpo ops K o.guard = some G)
    (hx : evG G K x = some (.sl k rows)) (hy : evG G K y = some (.v (.int ik n))) (hc : gA G K [x, y] = gB G K [x, y]) (ht : lkT C.T t = some e) (he : e.u = .slice elem) (ht2 : lkT C.T elem = some e2)
    (h0 : allT G → 0 ≤ n) (hn : allT G → n ≤ rows.length) : Qv C E ops K Γ o (wrapG G (.sl k (rows.take n.toNat))) := by
  refine qv_val hg (fun a w hT s f => ?_)
  have h0 := h0 hT
  have hn := hn hT
  have hr := evG_ok f hT hc (by simp) hx
  have hyy := (evG_ok f hT hc (by simp) hy).v_inv
  generalize hv : a.eval x = u at hr
  have hnn : (n.toNat : Int) = n := Int.toNat_of_nonneg h0
  cases hr with
  | slnil =>
    have hz : n = 0 := by simp at hn; omega
    subst hz
    refine ⟨.slice none 0 0, w, ?_, s, .refl _ _ _, by simpa using Rep.slnil k⟩
    unfold execOp
    simp [ho, hv, hyy, Instr.sliceAt, Instr.slice, (C.get ht).run_under, he, Instr.sliceBounds, Instr.sliceBound, asIntOf, (C.get ht2).run_size]
  | slz za =>
    have hz : n = 0 := by simp at hn; omega
    subst hz
    refine ⟨.slice (some za) 0 0, w, ?_, s, .refl _ _ _, by simpa using Rep.slz za k⟩
    unfold execOp
    simp [ho, hv, hyy, Instr.sliceAt, Instr.slice, (C.get ht).run_under, he, Instr.sliceBounds, Instr.sliceBound, asIntOf, (C.get ht2).run_size]
  | sl b off cap _ _ hA hcap hm hk u' hu hrr =>
    have hle : n.toNat ≤ rows.length := by omega
    have hlen : (rows.take n.toNat).length = n.toNat := by simp; omega
    refine ⟨.slice (some ⟨b, off, none⟩) n.toNat cap, w, ?_, s, .refl _ _ _, ?_⟩
    · unfold execOp
      have hb : 0 ≤ n ∧ n ≤ (cap : Int) := ⟨h0, by omega⟩
      simp [ho, hv, hyy, Instr.sliceAt, Instr.slice, (C.get ht).run_under, he, Instr.sliceBounds, Instr.sliceBound, asIntOf, (C.get ht2).run_size, hb, Addr.add]
    · have := Rep.sl (A := av E Γ) (w := w) b off cap k (rows.take n.toNat) (fun i r j d h1 h2 => ?_) (by omega) hm (fun r hr => hk r (List.mem_of_mem_take hr)) u' (fun i r j d h1 h2 => ?_) (fun i r j d h1 h2 => ?_)
      · rwa [hlen] at this
      all_goals
        rw [List.getElem?_take] at h1
        split at h1
        · first | exact hA i r j d h1 h2 | exact hu i r j d h1 h2 | exact hrr i r j d h1 h2
        · cases h1

/-- The lesser, the greater of two whole numbers. -/
theorem q_min {x y : Operand} {k : IntKind} {p q : Int} {ats : Array TypeId} {G : List (Bool × Bool)} (ho : o.op = .call { callee := .builtin .min, args := #[x, y], argTypes := ats }) (hg : gpo ops K o.guard = some G)
    (hx : evG G K x = some (.v (.int k p))) (hy : evG G K y = some (.v (.int k q))) (hc : gA G K [x, y] = gB G K [x, y]) : Qv C E ops K Γ o (wrapG G (.v (.int k (if q < p then q else p)))) := by
  refine qv_val hg (fun a w hT s f => ⟨_, w, ?_, s, .refl _ _ _, .v _⟩)
  unfold execOp
  simp [ho, resolve, invoke, builtin, Builtin.min_, Builtin.min2, (evG_ok f hT hc (by simp) hx).v_inv, (evG_ok f hT hc (by simp) hy).v_inv]
theorem q_max {x y : Operand} {k : IntKind} {p q : Int} {ats : Array TypeId} {G : List (Bool × Bool)} (ho : o.op = .call { callee := .builtin .max, args := #[x, y], argTypes := ats }) (hg : gpo ops K o.guard = some G)
    (hx : evG G K x = some (.v (.int k p))) (hy : evG G K y = some (.v (.int k q))) (hc : gA G K [x, y] = gB G K [x, y]) : Qv C E ops K Γ o (wrapG G (.v (.int k (if p < q then q else p)))) := by
  refine qv_val hg (fun a w hT s f => ⟨_, w, ?_, s, .refl _ _ _, .v _⟩)
  unfold execOp
  simp [ho, resolve, invoke, builtin, Builtin.max_, Builtin.max2, (evG_ok f hT hc (by simp) hx).v_inv, (evG_ok f hT hc (by simp) hy).v_inv]

theorem u_bst {t : TypeId} {parts : Array (Nat × Operand)} {pd : List (Nat × DV)} {e : TyE} {fs : Array Field} {l : List (Nat × Nat)} {ds : List DV} (ho : o.op = .build t parts) (hg : o.guard = none)
    (ht : lkT C.T t = some e) (he : e.u = .struct fs) (ha : e.agg = true) (hl : plcs C.T fs.toList = some l) (hp : evParts [] K parts.toList = some pd)
    (hf : fillD (fun i => l[i]?) (e.zero.map zD) pd = some ds) : Qv C E ops K Γ o (.agg ds) := q_bst (G := []) ho (by rw [hg]; rfl) ht he ha hl hp rfl hf
theorem u_bar {t : TypeId} {n : Nat} {elem : TypeId} {parts : Array (Nat × Operand)} {pd : List (Nat × DV)} {e e2 : TyE} {ds : List DV} (ho : o.op = .build t parts) (hg : o.guard = none)
    (ht : lkT C.T t = some e) (he : e.u = .array n elem) (ha : e.agg = true) (ht2 : lkT C.T elem = some e2) (hp : evParts [] K parts.toList = some pd)
    (hf : fillD (fun i => some (i * e2.size, e2.size)) (e.zero.map zD) pd = some ds) : Qv C E ops K Γ o (.agg ds) := q_bar (G := []) ho (by rw [hg]; rfl) ht he ha ht2 hp rfl hf
theorem u_sls {t k : Nat} {x y : Operand} {n : Int} {ik : IntKind} {rows : List (List DV)} {e e2 : TyE} {elem : TypeId} (ho : o.op = .slice t x none (some y) none) (hg : o.guard = none)
    (hx : ev K x = some (.sl k rows)) (hy : ev K y = some (.v (.int ik n))) (ht : lkT C.T t = some e) (he : e.u = .slice elem) (ht2 : lkT C.T elem = some e2)
    (h0 : 0 ≤ n) (hn : n ≤ rows.length) : Qv C E ops K Γ o (.sl k (rows.take n.toNat)) := q_sls (G := []) ho (by rw [hg]; rfl) hx hy rfl ht he ht2 (fun _ => h0) (fun _ => hn)
/-- The first n of a slice that is read, as a list's image. -/
theorem u_slm {α : Type} {f : α → List DV} {l : List α} {t k n : Nat} {x y : Operand} {ik : IntKind} {e e2 : TyE} {elem : TypeId} (ho : o.op = .slice t x none (some y) none) (hg : o.guard = none)
    (hx : ev K x = some (.sl k (l.map f))) (hy : ev K y = some (.v (.int ik (n : Int)))) (ht : lkT C.T t = some e) (he : e.u = .slice elem) (ht2 : lkT C.T elem = some e2)
    (hn : n ≤ l.length) : Qv C E ops K Γ o (.sl k ((l.take n).map f)) := by
  have := u_sls (C := C) (E := E) (K := K) (Γ := Γ) (ops := ops) (o := o) ho hg hx hy ht he ht2 (by omega) (by simp; omega)
  rwa [Int.toNat_natCast, ← List.map_take] at this
theorem u_min {x y : Operand} {k : IntKind} {p q : Int} {ats : Array TypeId} (ho : o.op = .call { callee := .builtin .min, args := #[x, y], argTypes := ats }) (hg : o.guard = none)
    (hx : ev K x = some (.v (.int k p))) (hy : ev K y = some (.v (.int k q))) : Qv C E ops K Γ o (.v (.int k (if q < p then q else p))) := q_min (G := []) ho (by rw [hg]; rfl) hx hy rfl
theorem u_max {x y : Operand} {k : IntKind} {p q : Int} {ats : Array TypeId} (ho : o.op = .call { callee := .builtin .max, args := #[x, y], argTypes := ats }) (hg : o.guard = none)
    (hx : ev K x = some (.v (.int k p))) (hy : ev K y = some (.v (.int k q))) : Qv C E ops K Γ o (.v (.int k (if p < q then q else p))) := q_max (G := []) ho (by rw [hg]; rfl) hx hy rfl
end

/-! ### results -/
section
variable {C : Cx} {E : En} {K : Kn} {Γ : List Res}

def rslot (tmps : Array Value) : ResultVar → Sem Value
  | .tmp t => pure (tmps.getD t undef)
  | .cell a t => do loadVar t (← asAddr (tmps.getD a undef))

theorem results_eq (fn : Func) (tmps : Array Value) : results fn tmps = (do
    let vs ← fn.results.mapM (rslot tmps)
    pure (if h : vs.size = 1 then vs[0] else .tuple vs)) := by
  unfold results
  congr 1

/-- What a result is known to be. -/
def RSl (C : Cx) (E : En) (K : Kn) (Γ : List Res) (r : ResultVar) (d : DV) : Prop :=
  ∀ a w, St E w Γ → Fr E.N K (av E Γ) w a → ∃ v, (rslot a.tmps r).run C.P w = .ok v w ∧ Rep (av E Γ) w v d

theorem rs_t {t : Nat} {d : DV} (h : lk K t = some d) : RSl C E K Γ (.tmp t) d := by
  intro a w s f
  obtain ⟨v, h1, h2⟩ := f.kn _ _ h
  exact ⟨v, by simp [rslot, Array.getD_eq_getD_getElem?, h1], h2⟩

theorem rs_c (i : Nat) {t b T ty : Nat} {ds : List DV} {e : TyE} {d : DV} (h : lk K t = some (.v (.pointer (some ⟨b, 0, none⟩)))) (hi : Γ[i]? = some (cellsR b T ds)) (ht : lkT C.T ty = some e) (hd : partD e 0 ds = some d) : RSl C E K Γ (.cell t ty) d := by
  intro a w s f
  obtain ⟨v, h1, h2⟩ := f.kn _ _ h
  have h2 := h2.v_inv
  subst h2
  obtain ⟨cs, hb, hr⟩ := s.ok _ (List.mem_of_getElem? hi)
  obtain ⟨u, h3, h4⟩ := loadVar_ok (C.get ht) hr (cells_cell hb) hd
  refine ⟨u, ?_, h4⟩
  simp only [rslot, Array.getD_eq_getD_getElem?, h1, Option.getD_some, Sem.run_bind]
  simpa [asAddr] using h3

theorem x_fin {fn : Func} {A : Nat → Prop} {w0 : World} {n : Nat} {res : DV} (h : ∀ a w, St ⟨fun _ => False, A, w0, n⟩ w Γ → Fr n K (av ⟨fun _ => False, A, w0, n⟩ Γ) w a → ∃ v, (results fn a.tmps).run C.P w = .ok v w ∧ Rep (av ⟨fun _ => False, A, w0, n⟩ Γ) w v res) :
    SX ⟨fun _ => False, A, w0, n⟩ K Γ (fun a w => bodyPost C.P fn (Rt A w0 res) .ret a w) := by
  constructor
  intro a w s f
  obtain ⟨v, h1, h2⟩ := h a w s f
  exact ⟨f.df, v, h1, v, rfl, ⟨⟨s.os, s.tape, s.output, s.size, fun b hb => s.same b hb (fun h => h)⟩, s.drawn⟩, h2.keep (fun _ _ _ => rfl) fun b _ h => .inl h⟩

theorem x_r1 {fn : Func} {A : Nat → Prop} {w0 : World} {n : Nat} {res d : DV} {r : ResultVar} (hres : fn.results = #[r]) (h : RSl C ⟨fun _ => False, A, w0, n⟩ K Γ r d) (he : d = res) :
    SX ⟨fun _ => False, A, w0, n⟩ K Γ (fun a w => bodyPost C.P fn (Rt A w0 res) .ret a w) := by
  refine x_fin fun a w s f => ?_
  subst he
  obtain ⟨v, h1, h2⟩ := h a w s f
  refine ⟨v, ?_, h2⟩
  rw [results_eq, hres]
  simp [h1]

theorem x_r2 {fn : Func} {A : Nat → Prop} {w0 : World} {n : Nat} {res d d2 : DV} {r r2 : ResultVar} (hres : fn.results = #[r, r2]) (h : RSl C ⟨fun _ => False, A, w0, n⟩ K Γ r d) (h' : RSl C ⟨fun _ => False, A, w0, n⟩ K Γ r2 d2) (he : .tup [d, d2] = res) :
    SX ⟨fun _ => False, A, w0, n⟩ K Γ (fun a w => bodyPost C.P fn (Rt A w0 res) .ret a w) := by
  refine x_fin fun a w s f => ?_
  subst he
  obtain ⟨v, h1, h2⟩ := h a w s f
  obtain ⟨v', h1', h2'⟩ := h' a w s f
  have hr := RepL.cons h2 (RepL.cons h2' (RepL.nil (A := av ⟨fun _ => False, A, w0, n⟩ Γ) (w := w)))
  refine ⟨.tuple #[v, v'], ?_, .tup [v, v'] _ hr.1 hr.2⟩
  rw [results_eq, hres]
  simp [h1, h1']

theorem x_r3 {fn : Func} {A : Nat → Prop} {w0 : World} {n : Nat} {res d d2 d3 : DV} {r r2 r3 : ResultVar} (hres : fn.results = #[r, r2, r3]) (h : RSl C ⟨fun _ => False, A, w0, n⟩ K Γ r d) (h' : RSl C ⟨fun _ => False, A, w0, n⟩ K Γ r2 d2) (h'' : RSl C ⟨fun _ => False, A, w0, n⟩ K Γ r3 d3)
    (he : .tup [d, d2, d3] = res) :
    SX ⟨fun _ => False, A, w0, n⟩ K Γ (fun a w => bodyPost C.P fn (Rt A w0 res) .ret a w) := by
  refine x_fin fun a w s f => ?_
  subst he
  obtain ⟨v, h1, h2⟩ := h a w s f
  obtain ⟨v', h1', h2'⟩ := h' a w s f
  obtain ⟨v'', h1'', h2''⟩ := h'' a w s f
  have hr := RepL.cons h2 (RepL.cons h2' (RepL.cons h2'' (RepL.nil (A := av ⟨fun _ => False, A, w0, n⟩ Γ) (w := w))))
  refine ⟨.tuple #[v, v', v''], ?_, .tup [v, v', v''] _ hr.1 hr.2⟩
  rw [results_eq, hres]
  simp [h1, h1', h1'']
end
end Go.Proofs.Ytcdakcemcehfiaa
