/- The walk library, part o: bools held against each other, shifts, remainders, parts of slices. -/
import Derived.Test.YtcdakcemcehfiaaSxn
namespace Go.Proofs.Ytcdakcemcehfiaa
open Go Go.RowKit

section
variable {C : Cx} {E : En} {K : Kn} {Γ : List Res} {Q : Exit → Act → World → Prop} {ops : Array Oper} {o : Oper} {rest : List Oper}

/-- Two bools held against each other. -/
theorem q_bb {op : BinOp} {t yt : TypeId} {x y : Operand} {a b c : Bool} {e : TyE} {G : List (Bool × Bool)} (ho : o.op = .binOp op t x y yt) (hg : gpo ops K o.guard = some G)
    (hx : evG G K x = some (.v (.bool a))) (hy : evG G K y = some (.v (.bool b))) (hc : gA G K [x, y] = gB G K [x, y]) (ht : lkT C.T t = some e) (hu : e.u = .bool) (hop : eqOp op (a == b) = some c) : Qv C E ops K Γ o (wrapG G (.v (.bool c))) := by
  refine qv_val hg (fun a' w hT s f => ⟨.bool c, w, ?_, s, Mv.refl _ _ _, .v _⟩)
  have e1 := (evG_ok f hT hc (by simp) hx).v_inv
  have e2 := (evG_ok f hT hc (by simp) hy).v_inv
  have hr : (Op.equalIn Op.maxDepth t (.bool a) (.bool b)).run C.P w = .ok (a == b) w := run_equalIn_bool' (P := C.P) w 9999 t a b ((C.get ht).u.trans (congrArg some hu))
  unfold execOp
  simp only [ho, e1, e2, Sem.run_bind]
  cases op <;> simp only [eqOp, reduceCtorEq, Option.some.injEq] at hop
  · subst hop
    simp [eqGuard, binOp, Op.equal, hr]
  · subst hop
    simp [eqGuard, binOp, Op.equal, hr]
theorem u_bb {op : BinOp} {t yt : TypeId} {x y : Operand} {a b c : Bool} {e : TyE} (ho : o.op = .binOp op t x y yt) (hg : o.guard = none)
    (hx : ev K x = some (.v (.bool a))) (hy : ev K y = some (.v (.bool b))) (ht : lkT C.T t = some e) (hu : e.u = .bool) (hop : eqOp op (a == b) = some c) : Qv C E ops K Γ o (.v (.bool c)) :=
  q_bb (G := []) ho (by rw [hg]; rfl) hx hy rfl ht hu hop

/-- A shift to the right by a count that is written out. -/
theorem q_shr {t yt : TypeId} {x y : Operand} {a : Int} {k k' : IntKind} {n : Nat} {G : List (Bool × Bool)} (ho : o.op = .binOp .shr t x y yt) (hg : gpo ops K o.guard = some G)
    (hx : evG G K x = some (.v (.int k a))) (hy : evG G K y = some (.v (.int k' (n : Int)))) (hc : gA G K [x, y] = gB G K [x, y]) (hn : Nat.ble n k.bits = true) : Qv C E ops K Γ o (wrapG G (.v (.int k (a.fdiv (2 ^ n))))) := by
  refine qv_val hg (fun a' w hT s f => ⟨_, w, ?_, s, Mv.refl _ _ _, .v _⟩)
  have e1 := (evG_ok f hT hc (by simp) hx).v_inv
  have e2 := (evG_ok f hT hc (by simp) hy).v_inv
  have hn' := Nat.le_of_ble_eq_true hn
  unfold execOp
  have h0 : ¬ ((n : Int) < 0) := by omega
  simp [ho, e1, e2, eqGuard, binOp, Op.shift, Nat.min_eq_left hn', h0]
theorem u_shr {t yt : TypeId} {x y : Operand} {a : Int} {k k' : IntKind} {n : Nat} (ho : o.op = .binOp .shr t x y yt) (hg : o.guard = none)
    (hx : ev K x = some (.v (.int k a))) (hy : ev K y = some (.v (.int k' (n : Int)))) (hn : Nat.ble n k.bits = true) : Qv C E ops K Γ o (.v (.int k (a.fdiv (2 ^ n)))) :=
  q_shr (G := []) ho (by rw [hg]; rfl) hx hy rfl hn

/-- What is left of a division. -/
theorem q_rem {t yt : TypeId} {x y : Operand} {a b : Int} {k : IntKind} {G : List (Bool × Bool)} (ho : o.op = .binOp .rem t x y yt) (hg : gpo ops K o.guard = some G)
    (hx : evG G K x = some (.v (.int k a))) (hy : evG G K y = some (.v (.int k b))) (hc : gA G K [x, y] = gB G K [x, y]) (hn : b ≠ 0) : Qv C E ops K Γ o (wrapG G (.v (.int k (a.tmod b)))) := by
  refine qv_val hg (fun a' w hT s f => ⟨_, w, ?_, s, Mv.refl _ _ _, .v _⟩)
  have e1 := (evG_ok f hT hc (by simp) hx).v_inv
  have e2 := (evG_ok f hT hc (by simp) hy).v_inv
  unfold execOp
  simp [ho, e1, e2, eqGuard, binOp, Op.intDiv, hn]
theorem u_rem {t yt : TypeId} {x y : Operand} {a b : Int} {k : IntKind} (ho : o.op = .binOp .rem t x y yt) (hg : o.guard = none)
    (hx : ev K x = some (.v (.int k a))) (hy : ev K y = some (.v (.int k b))) (hn : b ≠ 0) : Qv C E ops K Γ o (.v (.int k (a.tmod b))) :=
  q_rem (G := []) ho (by rw [hg]; rfl) hx hy rfl hn
/-- (i + n - d) % n at places. -/
theorem remN {a n : Nat} : ((a : Int).tmod (n : Int)) = ((a % n : Nat) : Int) := by
  rw [Int.tmod_eq_emod_of_nonneg (by omega)]; simp

/-- A call that is answered at once. -/
theorem q_now {f : FuncId} {xs : Array Operand} {ats : Array TypeId} {us : List Value} {ds : List DV} {r : Value} {d : DV} {G : List (Bool × Bool)} (hb : ∀ w, (callFunc f us.toArray).run C.P w = .ok (.value r) w) (hr : ∀ A w, Rep A w r d)
    (ho : o.op = .call { callee := .value (.func f), args := xs, argTypes := ats }) (hg : gpo ops K o.guard = some G) (hx : evsG G K xs.toList = some ds) (hu : svals ds = some us)
    (hc : gA G K xs.toList = gB G K xs.toList) : Qv C E ops K Γ o (wrapG G d) := by
  refine qv_val hg (fun a' w hT s f => ⟨r, w, ?_, s, Mv.refl _ _ _, hr _ _⟩)
  have hrep := evsG_ok f hT hc (fun _ h => h) hx
  have := svals_ok hu hrep
  unfold execOp
  have e : Array.map a'.eval xs = us.toArray := by rw [← this, ← Array.toList_map]
  simp [ho, resolve, Act.eval, Deferred.ofValue, invoke]
  have h2 := hb w
  rw [← e] at h2
  simp [h2]
theorem u_now {f : FuncId} {xs : Array Operand} {ats : Array TypeId} {us : List Value} {ds : List DV} {r : Value} {d : DV} (hb : ∀ w, (callFunc f us.toArray).run C.P w = .ok (.value r) w) (hr : ∀ A w, Rep A w r d)
    (ho : o.op = .call { callee := .value (.func f), args := xs, argTypes := ats }) (hg : o.guard = none) (hx : evs K xs.toList = some ds) (hu : svals ds = some us) : Qv C E ops K Γ o d :=
  q_now (G := []) hb hr ho (by rw [hg]; rfl) (by rw [evs_evsG]; exact hx) hu rfl
end

/-- The state as it is made known in other words, and what is known with it. -/
theorem w_convE {C : Cx} {E : En} {K : Kn} {Γ : List Res} {Q : Exit → Act → World → Prop} {c : Code} {ι : Type} {p : ι → Prop} {Γ' : ι → List Res} (h : ∀ w, St E w Γ → ∃ x, p x ∧ St E w (Γ' x) ∧ Mv E Γ w (Γ' x) w) (k : ∀ x, p x → SW C E c K (Γ' x) Q) : SW C E c K Γ Q := by
  intro a w s f
  obtain ⟨x, hp, s', m⟩ := h w s
  exact k x hp a w s' (f.mv m)
/-- What is owned is written in another form. -/
theorem w_asG {C : Cx} {E : En} {K : Kn} {Γ : List Res} {Q : Exit → Act → World → Prop} {c : Code} (Γ' : List Res) (e : Γ = Γ') (k : SW C E c K Γ' Q) : SW C E c K Γ Q := by subst e; exact k
/-- More is known of a slot in other words. -/
theorem w_know {C : Cx} {E : En} {K : Kn} {Γ : List Res} {Q : Exit → Act → World → Prop} {c : Code} (sl : Nat) {d : DV} (d' : DV) (hk : lk K sl = some d) (hc : ∀ A w u, Rep A w u d → Rep A w u d') (k : SW C E c ((sl, d') :: K) Γ Q) : SW C E c K Γ Q := by
  intro a w s f
  refine k a w s ⟨f.df, f.sz, fun t d0 ht => ?_⟩
  simp only [lk] at ht
  by_cases e : sl = t
  · subst e
    simp only [Nat.beq_refl, cond_true, Option.some.injEq] at ht
    subst ht
    obtain ⟨u, h1, h2⟩ := f.kn _ _ hk
    exact ⟨u, h1, hc _ _ _ h2⟩
  · have : Nat.beq sl t = false := by
      cases hb : Nat.beq sl t with
      | false => rfl
      | true => exact absurd (Nat.eq_of_beq_eq_true hb) e
    rw [this, cond_false] at ht
    exact f.kn t d0 ht
/-- A nil slice is an own slice; it is a slice of nothing. -/
theorem nil_os (A : Nat → Prop) (w : World) (u : Value) (h : Rep A w u (.v (.slice none 0 0))) : Rep A w u (.os (.slice none 0 0)) := by rw [h.v_inv]; exact .os _ _ _
theorem nil_sl (k : Nat) (A : Nat → Prop) (w : World) (u : Value) (h : Rep A w u (.v (.slice none 0 0))) : Rep A w u (.sl k []) := by rw [h.v_inv]; exact .slnil k
theorem rs_nil {C : Cx} {E : En} {K : Kn} {Γ : List Res} {t k : Nat} (h : lk K t = some (.v (.slice none 0 0))) : RSl C E K Γ (.tmp t) (.sl k []) := by
  intro a w s f
  obtain ⟨v, h1, h2⟩ := f.kn _ _ h
  exact ⟨v, by simp [rslot, Array.getD_eq_getD_getElem?, h1], nil_sl k _ _ _ h2⟩
theorem x_conv {E : En} {K : Kn} {Γ Γ' : List Res} {R : Act → World → Prop} (h : ∀ w, St E w Γ → St E w Γ' ∧ Mv E Γ w Γ' w) (k : SX E K Γ' R) : SX E K Γ R := by
  constructor
  intro a w s f
  obtain ⟨s', m⟩ := h w s
  exact k.h a w s' (f.mv m)

/-! ### closures that read -/
section
variable {C : Cx} {E : En} {K : Kn} {Γ : List Res} {Q : Exit → Act → World → Prop} {ops : Array Oper} {o : Oper} {rest : List Oper}

theorem map_evals {a : Act} (fs : Array Operand) : (fs.map a.eval) = (fs.toList.map a.eval).toArray := by
  rw [← Array.toList_map]

theorem q_mkf {g : FuncId} {cs : Array Operand} {ds : List DV} {G : List (Bool × Bool)} (ho : o.op = .makeFunc (.func g) #[] cs) (hg : gpo ops K o.guard = some G) (hx : evsG G K cs.toList = some ds) (hc : gA G K cs.toList = gB G K cs.toList) :
    Qv C E ops K Γ o (wrapG G (.clo g ds)) := by
  refine qv_val hg (fun a w hT s f => ?_)
  have hr := evsG_ok f hT hc (fun _ h => h) hx
  refine ⟨.func (.func g) #[] (cs.toList.map a.eval).toArray, w, ?_, s, .refl _ _ _, .clo g _ _ hr.1 hr.2⟩
  unfold execOp
  simp only [ho, Instr.makeFunc, Sem.run_bind, Sem.run_pure, Result.andThen_ok, map_evals]
  rfl
theorem u_mkf {g : FuncId} {cs : Array Operand} {ds : List DV} (ho : o.op = .makeFunc (.func g) #[] cs) (hg : o.guard = none) (hx : evs K cs.toList = some ds) : Qv C E ops K Γ o (.clo g ds) :=
  q_mkf (G := []) ho (by rw [hg]; rfl) (by rw [evs_evsG]; exact hx) rfl

/-- A closure is called. -/
theorem q_clo {g : FuncId} {x : Operand} {xs : Array Operand} {ats : Array TypeId} {ds cs : List DV} {res : DV} {G : List (Bool × Bool)} (hf : FunOk C g (ds ++ cs) res) (hb : ∀ args w, (callFunc g args).run C.P w = .ok (.enter g args) w)
    (ho : o.op = .call { callee := .value x, args := xs, argTypes := ats }) (hg : gpo ops K o.guard = some G) (hx0 : evG G K x = some (.clo g cs)) (hx : evsG G K xs.toList = some ds)
    (hc : gA G K (x :: xs.toList) = gB G K (x :: xs.toList)) : Qv C E ops K Γ o (wrapG G res) := by
  refine q_gcall (vs := fun a => xs.toList.map a.eval ++ (match a.eval x with | .func _ _ c => c.toList | _ => [])) hf hg (fun a w hT s fr => ?_)
  obtain ⟨vs, hu, hr⟩ := (evG_ok fr hT hc (by simp) hx0).clo_inv
  refine ⟨?_, ?_⟩
  · unfold execOp
    simp [ho, resolve, hu, Deferred.ofValue, invoke, hb, map_evals]
  · simp only [hu]
    exact (evsG_ok fr hT hc (fun _ h => List.mem_cons_of_mem _ h) hx).append (by simpa using hr)
theorem u_clo {g : FuncId} {x : Operand} {xs : Array Operand} {ats : Array TypeId} {ds cs : List DV} {res : DV} (hf : FunOk C g (ds ++ cs) res) (hb : ∀ args w, (callFunc g args).run C.P w = .ok (.enter g args) w)
    (ho : o.op = .call { callee := .value x, args := xs, argTypes := ats }) (hg : o.guard = none) (hx0 : ev K x = some (.clo g cs)) (hx : evs K xs.toList = some ds) : Qv C E ops K Γ o res :=
  q_clo (G := []) hf hb ho (by rw [hg]; rfl) hx0 (by rw [evs_evsG]; exact hx) rfl
end

theorem cells_el {A A' : Nat → Prop} {w : World} {b T : Nat} {ds : List DV} (h : (cellsR b T ds).ok A w) (hn : Nat.blt 0 ds.length = true) (hA : ∀ x, x < w.heap.size → A' x → A x) (hb : ¬ A' b) : Rep A' w (.pointer (some ⟨b, 0, none⟩)) (.el ds.length [ds] 0 0) := by
  obtain ⟨cs, hc, hr⟩ := h
  have hr' := hr.keep (A' := A') (w' := w) (fun _ _ _ => rfl) hA
  have hl : 0 < ds.length := by simpa [Nat.blt_eq] using hn
  have key : ∀ (i : Nat) (r : List DV) (j : Nat) (d : DV), [ds][i]? = some r → r[j]? = some d → i = 0 ∧ r = ds := fun i r j d h1 h2 => by
    cases i with
    | zero => simp at h1; exact ⟨rfl, h1.symm⟩
    | succ i => simp at h1
  have := Rep.sl (A := A') (w := w) b 0 1 ds.length [ds] (fun _ _ _ _ _ _ => hb) (by simp) (by unfold maxLen; omega) (by simp) (fun i j => cs.getD j undef) (fun i r j d h1 h2 => by
      obtain ⟨rfl, rfl⟩ := key i r j d h1 h2
      obtain ⟨c, h3, _⟩ := hr'.get h2
      simp [World.cell?, hc, h3, List.getD_eq_getElem?_getD]) (fun i r j d h1 h2 => by
      obtain ⟨rfl, rfl⟩ := key i r j d h1 h2
      obtain ⟨c, h3, h4⟩ := hr'.get h2
      simpa [List.getD_eq_getElem?_getD, h3] using h4)
  have h2 := Rep.el b 0 1 ds.length [ds] 0 0 (by simp) (by simpa using this)
  simpa using h2

/-- Own cells, to which a slot points, are from now on read alone. -/
theorem w_fre {C : Cx} {E : En} {K : Kn} {Γ : List Res} {Q : Exit → Act → World → Prop} {c : Code} (i sl : Nat) {b T : Nat} {ds : List DV} (hk : lk K sl = some (.v (.pointer (some ⟨b, 0, none⟩)))) (hi : Γ[i]? = some (cellsR b T ds)) (hn : Nat.blt 0 ds.length = true)
    (kk : SW C E c ((sl, .el ds.length [ds] 0 0) :: K) (Γ.set i unitR) Q) : SW C E c K Γ Q := by
  intro a w s f
  obtain ⟨s', mv⟩ := s.cut hi
  refine kk a w s' ⟨f.df, f.sz, fun t d ht => ?_⟩
  simp only [lk] at ht
  by_cases e : sl = t
  · subst e
    simp only [Nat.beq_refl, cond_true, Option.some.injEq] at ht
    subst ht
    obtain ⟨u, h1, h2⟩ := f.kn _ _ hk
    refine ⟨u, h1, ?_⟩
    rw [h2.v_inv]
    refine cells_el (s.ok _ (List.mem_of_getElem? hi)) hn (fun x _ h => ?_) (s.cut_av hi rfl)
    rcases h with h | ⟨r, hr, hx⟩
    · exact .inl h
    · obtain ⟨j, hj⟩ := List.getElem?_of_mem hr
      rcases set_get hi hj with ⟨_, rfl⟩ | ⟨_, hj⟩
      · exact hx.elim
      · exact .inr (fpA_mem hj hx)
  · have : Nat.beq sl t = false := by
      cases hb : Nat.beq sl t with
      | false => rfl
      | true => exact absurd (Nat.eq_of_beq_eq_true hb) e
    rw [this, cond_false] at ht
    obtain ⟨u, h1, h2⟩ := f.kn t d ht
    exact ⟨u, h1, mv _ _ h2⟩
end Go.Proofs.Ytcdakcemcehfiaa
