/- The walk library, part u: results of one's own in two slots; array elements in own rows; own rows, pointed at, freed. -/
import Derived.Test.YtcdakcemcehfiaaSxt
namespace Go.Proofs.Ytcdakcemcehfiaa
open Go Go.RowKit

section
variable {C : Cx} {E : En} {K : Kn} {Γ : List Res} {Q : Exit → Act → World → Prop} {ops : Array Oper} {o : Oper} {rest : List Oper} {c : Code}

/-- The address of an array's element, in a row of one's own. -/
theorem q_ixra {x y : Operand} {t kk j p m : Nat} {v : Value} {n : Int} {ik : IntKind} {elem : TypeId} {e e2 : TyE} {G : List (Bool × Bool)} (ho : o.op = .indexAddr t x y) (hg : gpo ops K o.guard = some G)
    (hx : evG G K x = some (.rp v kk j p)) (hy : evG G K y = some (.v (.int ik n))) (hc : gA G K [x, y] = gB G K [x, y]) (ht : lkT C.T t = some e) (he : e.u = .array m elem) (ht2 : lkT C.T elem = some e2)
    (h0 : allT G → 0 ≤ n) (hn : allT G → n < m) : Qv C E ops K Γ o (wrapG G (.rp v kk j (p + n.toNat * e2.size))) := by
  refine qv_val hg (fun a w hT s f => ?_)
  have h0 := h0 hT
  have hn := hn hT
  have hyy := (evG_ok f hT hc (by simp) hy).v_inv
  obtain ⟨b, n0, cap0, hu, rfl⟩ := (evG_ok f hT hc (by simp) hx).rp_inv
  refine ⟨.pointer (some ⟨b, j * kk + (p + n.toNat * e2.size), none⟩), w, ?_, s, .refl _ _ _, .rp b n0 cap0 kk j _⟩
  unfold execOp
  simp [ho, Instr.indexAt, hyy, asIntOf, underlying, (C.get ht).u, he, hu, h0, hn, (C.get ht2).run_size, Instr.sureAddr, add_none, Nat.add_assoc]
theorem u_ixra {x y : Operand} {t kk j p m : Nat} {v : Value} {n : Int} {ik : IntKind} {elem : TypeId} {e e2 : TyE} (ho : o.op = .indexAddr t x y) (hg : o.guard = none)
    (hx : ev K x = some (.rp v kk j p)) (hy : ev K y = some (.v (.int ik n))) (ht : lkT C.T t = some e) (he : e.u = .array m elem) (ht2 : lkT C.T elem = some e2)
    (h0 : 0 ≤ n) (hn : n < m) : Qv C E ops K Γ o (.rp v kk j (p + n.toNat * e2.size)) := q_ixra (G := []) ho (by rw [hg]; rfl) hx hy rfl ht he ht2 (fun _ => h0) (fun _ => hn)

theorem u_quo {t yt : TypeId} {x y : Operand} {a b : Int} {k : IntKind} (ho : o.op = .binOp .quo t x y yt) (hg : o.guard = none)
    (hx : ev K x = some (.v (.int k a))) (hy : ev K y = some (.v (.int k b))) (hn : b ≠ 0) : Qv C E ops K Γ o (.v (.int k (k.wrap (a.tdiv b)))) := by
  refine qv_val (G := []) (by rw [hg]; rfl) (fun a' w hT s f => ⟨_, w, ?_, s, Mv.refl _ _ _, .v _⟩)
  have e1 := (f.evl hx).v_inv
  have e2 := (f.evl hy).v_inv
  unfold execOp
  simp [ho, e1, e2, eqGuard, binOp, Op.intDiv, hn]

/-- A call whose contract is known where it is made. -/
theorem q_callT {f : FuncId} {xs : Array Operand} {ats : Array TypeId} {ds : List DV} {res : DV} {G : List (Bool × Bool)} (hf : allT G → FunOk C f ds res) (hb : ∀ args w, (callFunc f args).run C.P w = .ok (.enter f args) w)
    (ho : o.op = .call { callee := .value (.func f), args := xs, argTypes := ats }) (hg : gpo ops K o.guard = some G) (hx : evsG G K xs.toList = some ds)
    (hc : gA G K xs.toList = gB G K xs.toList) : Qv C E ops K Γ o (wrapG G res) := by
  refine ⟨G, res, hg, rfl, fun a w hT s fr Kc Qx hK => ?_⟩
  have hrep := evsG_ok fr hT hc (fun _ h => h) hx
  have hr : (execOp a.eval o).run C.P w = .ok (.enter f (xs.toList.map a.eval).toArray) w := by
    unfold execOp
    simp [ho, resolve, Act.eval, Deferred.ofValue, invoke, hb]
    rw [← Array.toList_map]
  unfold Oper.wp
  rw [hr]
  refine (hf hT (av E Γ) w _ s.av_lt hrep).mono ?_
  rintro e w' ⟨v, rfl, hbel, hv⟩
  obtain ⟨s', m'⟩ := Bel.fp s hbel
  exact hK _ _ s' m' hv

/-- No more is known than this. -/
theorem w_less (K' : Kn) (Γ' : List Res) (hk : sub K K') (hΓ : Γ = Γ') (k : SW C E c K' Γ' Q) : SW C E c K Γ Q := by
  subst hΓ
  exact fun a w s f => k a w s (f.less (sub_all hk))

theorem FunOw.args {f : FuncId} {ds ds' : List DV} {ι : Type} {res : ι → DV} {r : ι → Res} (h : FunOw C f ds res r) (hc : ∀ A w cs, RepL A w cs ds' → RepL A w cs ds) : FunOw C f ds' res r := fun A w vs hA hr => h A w vs hA (hc _ _ _ hr)

/-- Many own things, each by itself. -/
theorem o_open {L : List Res} (k : SO C E ops rest K (Γ ++ L) Q) : SO C E ops rest K (Γ ++ [starR L]) Q := fun a w s f => k a w s.open_star.1 (f.mv s.open_star.2)

theorem x_ow3 {fn : Func} {A : Nat → Prop} {w0 : World} {n : Nat} {ι : Type} {res : ι → DV} {r : ι → Res} {ra rb rc : Res} {d d2 : DV} {y y2 : ResultVar} (i j k : Nat) (x : ι) (hr : r x = starR [ra, rb, rc]) (hi : Γ[i]? = some ra) (hj : Γ[j]? = some rb) (hk : Γ[k]? = some rc)
    (hne : (Nat.beq i j || Nat.beq i k || Nat.beq j k) = false) (hres : fn.results = #[y, y2]) (h : RSl C ⟨fun _ => False, A, w0, n⟩ K Γ y d) (h' : RSl C ⟨fun _ => False, A, w0, n⟩ K Γ y2 d2) (he : .tup [d, d2] = res x) :
    SX ⟨fun _ => False, A, w0, n⟩ K Γ (fun a w => bodyPost C.P fn (fun e w' => ∃ v x, e = .returned v ∧ Bel w0 w' ∧ (r x).ok (fun b => A b ∨ (r x).fp b) w' ∧ (∀ b, (r x).fp b → w0.heap.size ≤ b) ∧ Rep (fun b => A b ∨ (r x).fp b) w' v (res x)) .ret a w) := by
  constructor
  intro a w s f
  obtain ⟨v, h1, h2⟩ := h a w s f
  obtain ⟨v', h1', h2'⟩ := h' a w s f
  have hrr := RepL.cons h2 (RepL.cons h2' (RepL.nil (A := av ⟨fun _ => False, A, w0, n⟩ Γ) (w := w)))
  have hfp : ∀ b, (starR [ra, rb, rc]).fp b → fpA Γ b := by
    rintro b ⟨q, hq, hb⟩
    simp only [List.mem_cons, List.not_mem_nil, or_false] at hq
    rcases hq with rfl | rfl | rfl
    · exact fpA_mem hi hb
    · exact fpA_mem hj hb
    · exact fpA_mem hk hb
  have hA : ∀ b, b < w.heap.size → (A b ∨ (starR [ra, rb, rc]).fp b) → av ⟨fun _ => False, A, w0, n⟩ Γ b := fun b _ h => h.imp id (hfp b)
  simp only [Bool.or_eq_false_iff] at hne
  have n1 : i ≠ j := fun e => by have := hne.1.1; subst e; simp at this
  have n2 : i ≠ k := fun e => by have := hne.1.2; subst e; simp at this
  have n3 : j ≠ k := fun e => by have := hne.2; subst e; simp at this
  have hok : (starR [ra, rb, rc]).ok (fun b => A b ∨ (starR [ra, rb, rc]).fp b) w := by
    refine ⟨fun q hq => ?_, ?_⟩
    · refine q.keep (s.ok q ?_) (fun _ _ _ => rfl) hA
      simp only [List.mem_cons, List.not_mem_nil, or_false] at hq
      rcases hq with rfl | rfl | rfl
      · exact List.mem_of_getElem? hi
      · exact List.mem_of_getElem? hj
      · exact List.mem_of_getElem? hk
    · refine List.pairwise_cons.2 ⟨fun q hq => ?_, List.pairwise_cons.2 ⟨fun q hq => ?_, List.pairwise_cons.2 ⟨fun q hq => by simp at hq, List.Pairwise.nil⟩⟩⟩
      · simp only [List.mem_cons, List.not_mem_nil, or_false] at hq
        rcases hq with rfl | rfl
        · exact s.apart _ _ _ _ n1 hi hj
        · exact s.apart _ _ _ _ n2 hi hk
      · simp only [List.mem_cons, List.not_mem_nil, or_false] at hq
        subst hq
        exact s.apart _ _ _ _ n3 hj hk
  refine ⟨f.df, .tuple #[v, v'], ?_, .tuple #[v, v'], x, rfl, ⟨⟨s.os, s.tape, s.output, s.size, fun b hb => s.same b hb (fun h => h)⟩, s.drawn⟩, by rw [hr]; exact hok, fun b hb => ?_, ?_⟩
  · rw [results_eq, hres]
    simp [h1, h1']
  · rw [hr] at hb
    obtain ⟨q, hq, hb⟩ := hfp b hb
    rcases s.own q hq b hb with h | h
    · exact h.elim
    · exact h
  · rw [← he, hr]
    exact (Rep.tup [v, v'] _ hrr.1 hrr.2).keep (fun _ _ _ => rfl) hA

theorem FunOw.free {f : FuncId} {ds : List DV} {ι : Type} {res : ι → DV} {r : ι → Res} {res' : DV} (h : FunOw C f ds res r)
    (hc : ∀ x A A' w v, (r x).ok A w → (∀ b, A' b → A b ∧ ¬ (r x).fp b) → Rep A w v (res x) → Rep A' w v res') : FunOk C f ds res' := by
  intro A w vs hA hr
  refine (h A w vs hA hr).mono ?_
  rintro e w' ⟨v, x, rfl, hbel, hok, hnew, hv⟩
  exact ⟨v, rfl, hbel, hc x _ A w' v hok (fun b hb => ⟨.inl hb, fun hf => by have := hA b hb; have := hnew b hf; omega⟩) hv⟩

/-- Own rows are from now on read alone: they lie in an own cell, and a slot points to one of them. -/
theorem w_frcp (i j p t : Nat) {T T' k b jj q : Nat} {v : Value} {rows : List (List DV)} {ds : List DV} (hi : Γ[i]? = some (rowR v T k rows)) (hj : Γ[j]? = some (cellsR b T' ds)) (hp : ds[p]? = some (.os v)) (hne : Nat.beq i j = false)
    (hk : lk K t = some (.rp v k jj q)) (hjj : jj < rows.length)
    (kk : SW C E c ((t, .el k rows jj q) :: K) ((Γ.set i unitR).set j (cellsR b T' (ds.set p (.sl k rows)))) Q) : SW C E c K Γ Q := by
  intro a w s f
  have hij : i ≠ j := fun e => by subst e; simp at hne
  obtain ⟨s', mv⟩ := s.cut hi
  have hj' : (Γ.set i unitR)[j]? = some (cellsR b T' ds) := by rw [List.getElem?_set_ne hij]; exact hj
  obtain ⟨cs, hb, hr⟩ := s'.ok _ (List.mem_of_getElem? hj')
  have hA1 : ∀ x, av E ((Γ.set i unitR).set j (cellsR b T' (ds.set p (.sl k rows)))) x → av E (Γ.set i unitR) x := by
    rintro x (h | ⟨r, hrm, hx⟩)
    · exact .inl h
    · obtain ⟨n, hn⟩ := List.getElem?_of_mem hrm
      rcases set_get hj' hn with ⟨_, rfl⟩ | ⟨_, hn⟩
      · exact .inr (fpA_mem hj' hx)
      · exact .inr (fpA_mem hn hx)
  have hA0 : ∀ x, av E (Γ.set i unitR) x → av E Γ x := by
    rintro x (h | ⟨r, hrm, hx⟩)
    · exact .inl h
    · obtain ⟨n, hn⟩ := List.getElem?_of_mem hrm
      rcases set_get hi hn with ⟨_, rfl⟩ | ⟨_, hn⟩
      · exact hx.elim
      · exact .inr (fpA_mem hn hx)
  have hrep : Rep (av E ((Γ.set i unitR).set j (cellsR b T' (ds.set p (.sl k rows))))) w v (.sl k rows) :=
    rowR_rep (s.ok _ (List.mem_of_getElem? hi)) (fun x _ h => hA0 x (hA1 x h)) fun x hx h => s.cut_av hi hx (hA1 x h)
  have hu := s'.upd (w' := w) hj' (cellsR b T' (ds.set p (.sl k rows))) rfl rfl rfl (Nat.le_refl _) (Nat.le_refl _) (fun _ _ _ => rfl) (fun x h => .inl h)
    ⟨cs, hb, by simp [hr.1], fun n u d h1 h2 => by
      rw [List.getElem?_set] at h2
      split at h2
      · rename_i e
        subst e
        split at h2
        · simp only [Option.some.injEq] at h2
          subst h2
          have h3 := hr.2 p u _ h1 hp
          have hu : u = v := by cases h3; rfl
          rw [hu]
          exact hrep
        · cases h2
      · exact (hr.2 n u d h1 h2).keep (fun _ _ _ => rfl) fun x _ h => hA1 x h⟩
  have hf := f.mv (mv.trans hu.2)
  refine kk a w hu.1 ⟨hf.df, hf.sz, fun t' d ht => ?_⟩
  simp only [lk] at ht
  by_cases e : t = t'
  · subst e
    simp only [Nat.beq_refl, cond_true, Option.some.injEq] at ht
    subst ht
    obtain ⟨u, h1, h2⟩ := f.kn _ _ hk
    refine ⟨u, h1, ?_⟩
    obtain ⟨g, n0, cap0, rfl, rfl⟩ := h2.rp_inv
    have hn0 : n0 = rows.length := by
      cases hrep with
      | sl => rfl
      | slz => simp at hjj
    subst hn0
    have := Rep.el g 0 cap0 k rows jj q hjj hrep
    simpa using this
  · have : Nat.beq t t' = false := by
      cases hb : Nat.beq t t' with
      | false => rfl
      | true => exact absurd (Nat.eq_of_beq_eq_true hb) e
    rw [this, cond_false] at ht
    exact hf.kn t' d ht
end
end Go.Proofs.Ytcdakcemcehfiaa
