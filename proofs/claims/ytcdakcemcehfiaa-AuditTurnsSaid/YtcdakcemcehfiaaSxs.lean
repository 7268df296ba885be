/- The walk library, part s: functions that turn what the caller owns; results of one's own. -/
import Derived.Test.YtcdakcemcehfiaaSxr
namespace Go.Proofs.Ytcdakcemcehfiaa
open Go Go.RowKit

/-- Nothing that was there has turned, r's blocks aside. -/
structure Bek (r : Res) (w w' : World) : Prop where
  os : w'.os = w.os
  tape : w'.tape = w.tape
  output : w'.output = w.output
  drawn : w.drawn ≤ w'.drawn
  size : w.heap.size ≤ w'.heap.size
  block : ∀ b, b < w.heap.size → ¬ r.fp b → w'.heap[b]? = w.heap[b]?

def RtK (A : Nat → Prop) (w : World) (r : Res) (res : DV) (e : Ending) (w' : World) : Prop := ∃ v, e = .returned v ∧ Bek r w w' ∧ r.ok A w' ∧ Rep A w' v res
/-- The function f, called with args by one who owns r, returns res, and leaves r. -/
def FunKp (C : Cx) (f : FuncId) (args : List DV) (res : DV) (r : Res) : Prop :=
  ∀ (A : Nat → Prop) (w : World) (vs : List Value), (∀ b, A b → b < w.heap.size) → (∀ b, r.fp b → A b) → r.ok A w → RepL A w vs args → Calls C.P f vs.toArray w (RtK A w r res)

section
variable {C : Cx} {E : En} {K : Kn} {Γ : List Res} {Q : Exit → Act → World → Prop} {ops : Array Oper} {o : Oper} {rest : List Oper} {c : Code}

theorem fnk_ok {f : FuncId} {fn : Func} {c : Code} {args : List DV} {res : DV} {r : Res} (n : Nat) (hf : C.P.funcs[f]? = some fn) (hb : fn.body = some c) (hn : fn.ntmps = n) (hl : Nat.ble args.length n = true)
    (h : ∀ A w, SW C ⟨r.fp, fun b => A b ∧ ¬ r.fp b, w, n⟩ c (kn0 0 args) [r] (bodyPost C.P fn (RtK A w r res))) : FunKp C f args res r := by
  intro A w vs hA hrA hok hr
  have hav : ∀ b, av ⟨r.fp, fun b => A b ∧ ¬ r.fp b, w, n⟩ [r] b → A b := by
    rintro b (h | ⟨x, hx, hb⟩)
    · exact h.1
    · rw [List.mem_singleton.1 hx] at hb; exact hrA b hb
  refine calls_of_wp hf hb (h A w _ w ⟨rfl, rfl, rfl, Nat.le_refl _, Nat.le_refl _, fun _ _ _ => rfl, fun x hx => ?_, fun x hx b hb => ?_, fun i j x y hij hx hy => ?_, fun b h => hA b h.1, fun x hx b hb => ?_⟩ ⟨rfl, ?_, ?_⟩)
  · rw [List.mem_singleton.1 hx]
    exact r.keep hok (fun _ _ _ => rfl) fun b _ h => hav b h
  · rw [List.mem_singleton.1 hx] at hb; exact .inl hb
  · cases i <;> cases j <;> simp at hx hy hij
  · rw [List.mem_singleton.1 hx] at hb; exact fun h => h.2 hb
  · have := Nat.le_of_ble_eq_true hl
    have := hr.1
    simp; omega
  · intro s d hd
    obtain ⟨_, h2⟩ := kn0_get args 0 s d hd
    obtain ⟨c, h3, h4⟩ := hr.get h2
    refine ⟨c, ?_, h4.keep (fun _ _ _ => rfl) fun b _ h => hav b h⟩
    rw [Nat.sub_zero] at h3
    have hlt : s < vs.length := by
      rcases Nat.lt_or_ge s vs.length with h | h
      · exact h
      · rw [List.getElem?_eq_none h] at h3; cases h3
    simp [Array.getElem?_append, hlt]
    simpa [List.getElem?_eq_getElem hlt] using h3

/-- Its end. -/
theorem x_kt {fn : Func} {A : Nat → Prop} {w0 : World} {n t : Nat} {res d : DV} {r : Res} (hΓ : Γ[0]? = some r) (hres : fn.results = #[.tmp t]) (hd : lk K t = some d) (he : d = res) :
    SX ⟨r.fp, fun b => A b ∧ ¬ r.fp b, w0, n⟩ K Γ (fun a w => bodyPost C.P fn (RtK A w0 r res) .ret a w) := by
  constructor
  intro a w s f
  subst he
  obtain ⟨v, h1, h2⟩ := f.kn _ _ hd
  have hA : ∀ b, b < w.heap.size → A b → av ⟨r.fp, fun b => A b ∧ ¬ r.fp b, w0, n⟩ Γ b := fun b _ h => by
    by_cases hb : r.fp b
    · exact .inr (fpA_mem hΓ hb)
    · exact .inl ⟨h, hb⟩
  refine ⟨f.df, v, ?_, v, rfl, ⟨s.os, s.tape, s.output, s.drawn, s.size, s.same⟩, r.keep (s.ok _ (List.mem_of_getElem? hΓ)) (fun _ _ _ => rfl) hA, h2.keep (fun _ _ _ => rfl) hA⟩
  rw [results_tmp hres]
  simp [Array.getD_eq_getD_getElem?, h1]

theorem set_self {Γ : List Res} {i : Nat} {r : Res} (hi : Γ[i]? = some r) : Γ.set i r = Γ := by
  apply List.ext_getElem?
  intro k
  rw [List.getElem?_set]
  split
  · rename_i e
    subst e
    split
    · exact hi.symm
    · rename_i h; rw [List.getElem?_eq_none (by omega)] at hi; cases hi
  · rfl

/-- A closure that is known to the letter is called by one who owns r. -/
theorem q_kp (i : Nat) {g : FuncId} {x : Operand} {xs : Array Operand} {ats : Array TypeId} {ds : List DV} {cs : List Value} {r : Res} {res : DV} {G : List (Bool × Bool)} (hf : FunKp C g (ds ++ cs.map DV.v) res r) (hb : ∀ args w, (callFunc g args).run C.P w = .ok (.enter g args) w)
    (ho : o.op = .call { callee := .value x, args := xs, argTypes := ats }) (hg : gpo ops K o.guard = some G) (hx0 : evG G K x = some (.v (.func (.func g) #[] cs.toArray))) (hx : evsG G K xs.toList = some ds)
    (hc : gA G K (x :: xs.toList) = gB G K (x :: xs.toList)) (hi : Γ[i]? = some r) : Qv C E ops K Γ o (wrapG G res) := by
  refine ⟨G, res, hg, rfl, fun a w hT s fr Kc Qx hK => ?_⟩
  have hu := (evG_ok fr hT hc (by simp) hx0).v_inv
  have hrun : (execOp a.eval o).run C.P w = .ok (.enter g (xs.toList.map a.eval ++ cs).toArray) w := by
    unfold execOp
    simp [ho, resolve, hu, Deferred.ofValue, invoke, hb, map_evals]
  have hrep : RepL (av E Γ) w (xs.toList.map a.eval ++ cs) (ds ++ cs.map DV.v) := by
    refine (evsG_ok fr hT hc (fun _ h => List.mem_cons_of_mem _ h) hx).append ⟨by simp, fun i c d h1 h2 => ?_⟩
    rw [List.getElem?_map, h1] at h2
    simp at h2
    rw [← h2]; exact .v _
  unfold Oper.wp
  rw [hrun]
  refine (hf (av E Γ) w _ s.av_lt (fun b h => .inr (fpA_mem hi h)) (s.ok _ (List.mem_of_getElem? hi)) hrep).mono ?_
  rintro e w' ⟨v, rfl, hbk, hok, hv⟩
  have hu2 := s.upd (w' := w') hi r hbk.os hbk.tape hbk.output hbk.drawn hbk.size hbk.block (fun b h => .inl h) (by rw [set_self hi]; exact hok)
  rw [set_self hi] at hu2
  exact hK _ _ hu2.1 hu2.2 hv
theorem u_kp (i : Nat) {g : FuncId} {x : Operand} {xs : Array Operand} {ats : Array TypeId} {ds : List DV} {cs : List Value} {r : Res} {res : DV} (hf : FunKp C g (ds ++ cs.map DV.v) res r) (hb : ∀ args w, (callFunc g args).run C.P w = .ok (.enter g args) w)
    (ho : o.op = .call { callee := .value x, args := xs, argTypes := ats }) (hg : o.guard = none) (hx0 : ev K x = some (.v (.func (.func g) #[] cs.toArray))) (hx : evs K xs.toList = some ds) (hi : Γ[i]? = some r) : Qv C E ops K Γ o res :=
  q_kp (G := []) i hf hb ho (by rw [hg]; rfl) hx0 (by rw [evs_evsG]; exact hx) rfl hi

/-- A load of cells that lie within something owned. -/
theorem u_ldx (i : Nat) {r : Res} {T t b p : Nat} {x : Operand} {ds : List DV} {e : TyE} {d : DV} (hr : ∀ A w, r.ok A w → (cellsR b T ds).ok A w) (ho : o.op = .load t x) (hg : o.guard = none) (hx : ev K x = some (.v (.pointer (some ⟨b, p, none⟩))))
    (hi : Γ[i]? = some r) (ht : lkT C.T t = some e) (hd : partD e p ds = some d) : Qv C E ops K Γ o d := by
  refine qv_val (G := []) (by rw [hg]; rfl) (fun a w hT s f => ?_)
  obtain ⟨cs, hb, hrr⟩ := hr _ _ (s.ok _ (List.mem_of_getElem? hi))
  obtain ⟨v, h1, h2⟩ := loadVar_ok (C.get ht) hrr (cells_cell hb) hd
  refine ⟨v, w, ?_, s, .refl _ _ _, h2⟩
  unfold execOp
  rw [Nat.zero_add] at h1
  simp only [ho, Instr.loadAt, (f.evl hx).v_inv, Instr.sureAddr, Sem.run_bind, Sem.run_pure, Result.andThen_ok, h1]

/-- A thing that is owned is told in other words, and what is known with it. -/
theorem w_resE (i : Nat) {r : Res} {ι : Type} (p : ι → Prop) (r' : ι → Res) (hi : Γ[i]? = some r) (h : ∀ A w, r.ok A w → ∃ x, p x ∧ (r' x).ok A w) (hf : ∀ x b, (r' x).fp b → r.fp b) (k : ∀ x, p x → SW C E c K (Γ.set i (r' x)) Q) : SW C E c K Γ Q := by
  intro a w s f
  obtain ⟨x, hp, hok⟩ := h _ _ (s.ok _ (List.mem_of_getElem? hi))
  have hok' : (r' x).ok (av E (Γ.set i (r' x))) w := (r' x).keep hok (fun _ _ _ => rfl) (av_set (w := w) hi fun b h => .inl (hf x b h))
  have hu := s.upd (w' := w) hi (r' x) rfl rfl rfl (Nat.le_refl _) (Nat.le_refl _) (fun _ _ _ => rfl) (fun b h => .inl (hf x b h)) hok'
  exact k x hp a w hu.1 (f.mv hu.2)
theorem x_res {R : Act → World → Prop} (i : Nat) {r : Res} (r' : Res) (hi : Γ[i]? = some r) (h : ∀ A w, r.ok A w → r'.ok A w) (hf : ∀ b, r'.fp b → r.fp b) (k : SX E K (Γ.set i r') R) : SX E K Γ R :=
  x_conv (fun w s => s.upd (w' := w) hi r' rfl rfl rfl (Nat.le_refl _) (Nat.le_refl _) (fun _ _ _ => rfl) (fun b h => .inl (hf b h))
    (h _ _ (r.keep (s.ok r (List.mem_of_getElem? hi)) (fun _ _ _ => rfl) (av_set (w := w) hi fun b h => .inl (hf b h))))) k
end

/-! ### results of one's own -/
/-- The function f, called with args, returns res x, and hands over r x, which lies in new blocks. -/
def FunOw (C : Cx) (f : FuncId) (args : List DV) {ι : Type} (res : ι → DV) (r : ι → Res) : Prop :=
  ∀ (A : Nat → Prop) (w : World) (vs : List Value), (∀ b, A b → b < w.heap.size) → RepL A w vs args → Calls C.P f vs.toArray w fun e w' => ∃ v x, e = .returned v ∧ Bel w w' ∧ (r x).ok (fun b => A b ∨ (r x).fp b) w' ∧ (∀ b, (r x).fp b → w.heap.size ≤ b) ∧ Rep (fun b => A b ∨ (r x).fp b) w' v (res x)

section
variable {C : Cx} {E : En} {K : Kn} {Γ : List Res} {Q : Exit → Act → World → Prop} {ops : Array Oper} {o : Oper} {rest : List Oper} {c : Code}
theorem fno_ok {f : FuncId} {fn : Func} {c : Code} {args : List DV} {ι : Type} {res : ι → DV} {r : ι → Res} (n : Nat) (hf : C.P.funcs[f]? = some fn) (hb : fn.body = some c) (hn : fn.ntmps = n) (hl : Nat.ble args.length n = true)
    (h : ∀ A w, SW C ⟨fun _ => False, A, w, n⟩ c (kn0 0 args) [] (bodyPost C.P fn fun e w' => ∃ v x, e = .returned v ∧ Bel w w' ∧ (r x).ok (fun b => A b ∨ (r x).fp b) w' ∧ (∀ b, (r x).fp b → w.heap.size ≤ b) ∧ Rep (fun b => A b ∨ (r x).fp b) w' v (res x))) : FunOw C f args res r := by
  intro A w vs hA hr
  refine calls_of_wp hf hb (h A w _ w ⟨rfl, rfl, rfl, Nat.le_refl _, Nat.le_refl _, fun _ _ _ => rfl, fun r hr => by simp at hr, fun r hr => by simp at hr, fun i j r s _ hi => by simp at hi, hA, fun r hr => by simp at hr⟩ ⟨rfl, ?_, ?_⟩)
  · have := Nat.le_of_ble_eq_true hl
    have := hr.1
    simp; omega
  · intro s d hd
    obtain ⟨_, h2⟩ := kn0_get args 0 s d hd
    obtain ⟨c, h3, h4⟩ := hr.get h2
    refine ⟨c, ?_, h4.keep (fun _ _ _ => rfl) fun b _ h => ?_⟩
    · rw [Nat.sub_zero] at h3
      have hlt : s < vs.length := by
        rcases Nat.lt_or_ge s vs.length with h | h
        · exact h
        · rw [List.getElem?_eq_none h] at h3; cases h3
      simp [Array.getElem?_append, hlt]
      simpa [List.getElem?_eq_getElem hlt] using h3
    · rcases h with h | ⟨r, hr, _⟩
      · exact h
      · simp at hr
theorem x_ow {fn : Func} {A : Nat → Prop} {w0 : World} {n t : Nat} {ι : Type} {res : ι → DV} {r : ι → Res} (i : Nat) (x : ι) (hi : Γ[i]? = some (r x)) (hres : fn.results = #[.tmp t]) (hd : lk K t = some (res x)) :
    SX ⟨fun _ => False, A, w0, n⟩ K Γ (fun a w => bodyPost C.P fn (fun e w' => ∃ v x, e = .returned v ∧ Bel w0 w' ∧ (r x).ok (fun b => A b ∨ (r x).fp b) w' ∧ (∀ b, (r x).fp b → w0.heap.size ≤ b) ∧ Rep (fun b => A b ∨ (r x).fp b) w' v (res x)) .ret a w) := by
  constructor
  intro a w s f
  obtain ⟨v, h1, h2⟩ := f.kn _ _ hd
  have hA : ∀ b, b < w.heap.size → (A b ∨ (r x).fp b) → av ⟨fun _ => False, A, w0, n⟩ Γ b := fun b _ h => h.imp id fun h => fpA_mem hi h
  refine ⟨f.df, v, ?_, v, x, rfl, ⟨⟨s.os, s.tape, s.output, s.size, fun b hb => s.same b hb (fun h => h)⟩, s.drawn⟩, (r x).keep (s.ok _ (List.mem_of_getElem? hi)) (fun _ _ _ => rfl) hA, fun b hb => ?_, h2.keep (fun _ _ _ => rfl) hA⟩
  · rw [results_tmp hres]
    simp [Array.getD_eq_getD_getElem?, h1]
  · rcases s.own _ (List.mem_of_getElem? hi) b hb with h | h
    · exact h.elim
    · exact h
/-- Its call. -/
theorem o_ow {f : FuncId} {xs : Array Operand} {ats : Array TypeId} {ds : List DV} {ι : Type} {res : ι → DV} {r : ι → Res} {sl : Nat} (hf : FunOw C f ds res r) (hb : ∀ args w, (callFunc f args).run C.P w = .ok (.enter f args) w)
    (ho : o.op = .call { callee := .value (.func f), args := xs, argTypes := ats }) (hg : o.guard = none) (hsl : o.dst = some sl) (hN : Nat.blt sl E.N = true) (hx : evs K xs.toList = some ds)
    (k : ∀ x, SO C E ops rest ((sl, res x) :: K) (Γ ++ [r x]) Q) : SO C E ops (o :: rest) K Γ Q := by
  have hs : dstOk E.N o.dst = true := by rw [hsl]; exact hN
  have k : ∀ x, SO C E ops rest (putK o.dst (res x) K) (Γ ++ [r x]) Q := by rw [hsl]; exact k
  intro a w s fr
  have hrep := fr.evs_ok hx
  refine wpList_plain hg fun Kc hK => ?_
  have hrun : (execOp a.eval o).run C.P w = .ok (.enter f (xs.toList.map a.eval).toArray) w := by
    unfold execOp
    simp [ho, resolve, Act.eval, Deferred.ofValue, invoke, hb]
    rw [← Array.toList_map]
  unfold Oper.wp
  rw [hrun]
  refine (hf (av E Γ) w _ s.av_lt hrep).mono ?_
  rintro e w' ⟨v, x, rfl, hbel, hok, hnew, hv⟩
  obtain ⟨s', m'⟩ := Bel.fp s hbel
  have hA : ∀ b, av E (Γ ++ [r x]) b → av E Γ b ∨ (r x).fp b := fun b h => by
    rcases h with h | h
    · exact .inl (.inl h)
    · rcases fpA_snoc.1 h with h | h
      · exact .inl (.inr h)
      · exact .inr h
  have hfar : ∀ b, b < w.heap.size → ¬ (r x).fp b := fun b hb h => by have := hnew b h; omega
  have hst : St E w' (Γ ++ [r x]) := by
    refine ⟨s'.os, s'.tape, s'.output, s'.drawn, s'.size, s'.same, fun y hy => ?_, fun y hy b hb => ?_, ap_iff.2 (List.pairwise_append.2 ⟨ap_iff.1 s'.apart, by simp, fun y hy z hz b h1 h2 => ?_⟩), s'.old, fun y hy b hb => ?_⟩
    · rcases List.mem_append.1 hy with hy | hy
      · -- what was owned is read as before: its blocks lie below
        refine y.keep (s.ok y hy) (fun b hb _ => hbel.block b hb) (fun b hb h => ?_)
        rcases hA b h with h | h
        · exact h
        · exact absurd h (hfar b hb)
      · rw [List.mem_singleton.1 hy]
        exact (r x).keep hok (fun _ _ _ => rfl) fun b _ h => hA b h
    · rcases List.mem_append.1 hy with hy | hy
      · exact s'.own y hy b hb
      · rw [List.mem_singleton.1 hy] at hb; exact .inr (Nat.le_trans s.size (hnew b hb))
    · rw [List.mem_singleton.1 hz] at h2
      have := y.lt (s.ok y hy) h1
      exact hfar b this h2
    · rcases List.mem_append.1 hy with hy | hy
      · exact s'.apt y hy b hb
      · rw [List.mem_singleton.1 hy] at hb
        intro h
        have := s.old b h
        have := s.size
        have := hnew b hb
        omega
  have hmv : Mv E Γ w (Γ ++ [r x]) w' := fun u d h => h.keep (fun b hb _ => hbel.block b hb) fun b hb h => by
    rcases hA b h with h | h
    · exact h
    · exact absurd h (hfar b hb)
  exact hK _ _ (k x _ _ hst ((fr.mv hmv).put hs (hv.keep (fun _ _ _ => rfl) fun b _ h => hA b h)))
end

/-- A cell's content is told in other words, at the end. -/
theorem x_cel {E : En} {K : Kn} {Γ : List Res} {R : Act → World → Prop} (j p : Nat) {b T : Nat} {ds : List DV} {d : DV} (d' : DV) (hj : Γ[j]? = some (cellsR b T ds)) (hp : ds[p]? = some d) (h : ∀ A w u, Rep A w u d → Rep A w u d')
    (kk : SX E K (Γ.set j (cellsR b T (ds.set p d'))) R) : SX E K Γ R := by
  refine x_res j (cellsR b T (ds.set p d')) hj (fun A w => ?_) (fun b h => h) kk
  rintro ⟨cs, hc, hr⟩
  refine ⟨cs, hc, by simp [hr.1], fun n u e h1 h2 => ?_⟩
  rw [List.getElem?_set] at h2
  split at h2
  · rename_i e0
    subst e0
    split at h2
    · simp only [Option.some.injEq] at h2
      subst h2
      exact h _ _ _ (hr.2 p u _ h1 hp)
    · cases h2
  · exact hr.2 n u e h1 h2
end Go.Proofs.Ytcdakcemcehfiaa
