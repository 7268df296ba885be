/- The walk library, part d: operations on own cells and on slices that are read; calls; returns; loops. -/
import Derived.Test.YtcdakcemcehfiaaSxc
namespace Go.Proofs.Ytcdakcemcehfiaa
open Go Go.RowKit

theorem alloc_new (w : World) (o : Obj) : (w.alloc o).heap[w.heap.size]? = some o := by
  show (w.heap.push o)[w.heap.size]? = some o
  simp

section
variable {C : Cx} {E : En} {K : Kn} {Γ : List Res} {Q : Exit → Act → World → Prop} {ops : Array Oper} {o : Oper} {rest : List Oper}

theorem o_box {T : TypeId} {x : Operand} {d : DV} {ds : List DV} {sl : Nat} (ho : o.op = .box T x) (hg : o.guard = none) (hsl : o.dst = some sl) (hN : Nat.blt sl E.N = true) (hx : ev K x = some d) (hd : cellsOf d = some ds)
    (k : ∀ b, SO C E ops rest ((sl, .v (.pointer (some ⟨b, 0, none⟩))) :: K) (Γ ++ [cellsR b T ds]) Q) : SO C E ops (o :: rest) K Γ Q := by
  have hs : dstOk E.N o.dst = true := by rw [hsl]; exact hN
  have k : ∀ b, SO C E ops rest (putK o.dst (.v (.pointer (some ⟨b, 0, none⟩))) K) (Γ ++ [cellsR b T ds]) Q := by rw [hsl]; exact k
  intro a w s f
  obtain ⟨cs, hc, hr⟩ := cellsOf_ok (f.evl hx) hd
  have hn := s.new (.cells cs.toArray T) (cellsR w.heap.size T ds) (fun b h => h)
    ⟨cs, alloc_new _ _, hr.keep (fun b hb _ => Below.heap_alloc w _ b hb) (fun b hb h => by
      rcases h with h | h
      · exact .inl h
      · rcases fpA_snoc.1 h with h | h
        · exact .inr h
        · have : b = w.heap.size := h
          omega)⟩
  refine wpList_plain hg fun Kc hK => ?_
  have hrun : (execOp a.eval o).run C.P w = .ok (.value (.pointer (some ⟨w.heap.size, 0, none⟩))) (w.alloc (.cells cs.toArray T)) := by
    unfold execOp
    simp only [ho, Instr.box, newVar, newRow, hc, Sem.run_bind, run_newObj, Result.andThen_ok, Sem.run_pure]
    rfl
  unfold Oper.wp
  rw [hrun]
  exact hK _ _ (k w.heap.size _ _ hn.1 ((f.mv hn.2).put hs (.v _)))

/-- Zero values, as they are known. -/
def zD : Value → DV
  | .slice a n c => .os (.slice a n c)
  | u => .v u

theorem zD_ok (A : Nat → Prop) (w : World) (u : Value) : Rep A w u (zD u) := by
  cases u <;> first | exact .v _ | exact .os _ _ _

theorem zs_ok (A : Nat → Prop) (w : World) : ∀ us : List Value, RepL A w us (us.map zD)
  | [] => .nil
  | u :: us => .cons (zD_ok A w u) (zs_ok A w us)

theorem TyOk.z_cells {P : Program} {t : TypeId} {e : TyE} (h : TyOk P t e) (h1 : ∀ u ∈ e.zero, u.oneCell' = true) : e.z.cells = e.zero.toArray := by
  unfold TyE.z
  cases ha : e.agg with
  | true => rfl
  | false =>
    have hl := h.n
    rw [h.o ha] at hl
    match hz : e.zero, hl with
    | [u], _ =>
      have := h1 u (by rw [hz]; simp)
      cases u <;> first | rfl | simp [Value.oneCell'] at this

def ones : List Value → Bool
  | [] => true
  | u :: us => u.oneCell' && ones us
theorem ones_mem : ∀ {us : List Value}, ones us = true → ∀ u ∈ us, u.oneCell' = true
  | [], _, u, h => by simp at h
  | x :: us, h, u, hu => by
    simp only [ones, Bool.and_eq_true] at h
    rcases List.mem_cons.1 hu with rfl | hu
    · exact h.1
    · exact ones_mem h.2 u hu

theorem o_alloc {T : TypeId} {e : TyE} {sl : Nat} (ho : o.op = .alloc T) (hg : o.guard = none) (hsl : o.dst = some sl) (hN : Nat.blt sl E.N = true) (ht : lkT C.T T = some e) (h1 : ones e.zero = true)
    (k : ∀ b, SO C E ops rest ((sl, .v (.pointer (some ⟨b, 0, none⟩))) :: K) (Γ ++ [cellsR b T (e.zero.map zD)]) Q) : SO C E ops (o :: rest) K Γ Q := by
  have hs : dstOk E.N o.dst = true := by rw [hsl]; exact hN
  have k : ∀ b, SO C E ops rest (putK o.dst (.v (.pointer (some ⟨b, 0, none⟩))) K) (Γ ++ [cellsR b T (e.zero.map zD)]) Q := by rw [hsl]; exact k
  intro a w s f
  have hT := C.get ht
  have hn := s.new (.cells e.zero.toArray T) (cellsR w.heap.size T (e.zero.map zD)) (fun b h => h) ⟨e.zero, alloc_new _ _, zs_ok _ _ _⟩
  refine wpList_plain hg fun Kc hK => ?_
  have hrun : (execOp a.eval o).run C.P w = .ok (.value (.pointer (some ⟨w.heap.size, 0, none⟩))) (w.alloc (.cells e.zero.toArray T)) := by
    unfold execOp
    simp only [ho, Instr.alloc, Sem.run_bind, hT.run_zero, Result.andThen_ok, newVar, newRow, hT.z_cells (ones_mem h1), run_newObj, Sem.run_pure]
    rfl
  unfold Oper.wp
  rw [hrun]
  exact hK _ _ (k w.heap.size _ _ hn.1 ((f.mv hn.2).put hs (.v _)))

theorem add_none (b o j : Nat) : (⟨b, o, none⟩ : Addr).add j = ⟨b, o + j, none⟩ := by unfold Addr.add; split <;> simp_all

theorem loadVar_ok {P : Program} {A : Nat → Prop} {w : World} {t b o : Nat} {e : TyE} (h : TyOk P t e) {cs : List Value} {ds : List DV} (hr : RepL A w cs ds)
    (hc : ∀ (j : Nat) (v : Value), cs[j]? = some v → w.cell? ⟨b, o + j, none⟩ = some v) {p : Nat} {d : DV} (hd : partD e p ds = some d) :
    ∃ v, (loadVar t ⟨b, o + p, none⟩).run P w = .ok v w ∧ Rep A w v d := by
  unfold partD at hd
  unfold loadVar
  simp only [Sem.run_bind, h.run_agg, Result.andThen_ok]
  cases ha : e.agg with
  | true =>
    rw [ha] at hd
    simp only [if_true] at hd ⊢
    split at hd
    · rename_i hle
      simp only [Option.some.injEq] at hd
      subst hd
      have hr' := (hr.drop p).take e.size
      have hl : ((cs.drop p).take e.size).length = e.size := by have := hr.1; simp; omega
      refine ⟨.agg ((cs.drop p).take e.size).toArray, ?_, .agg _ _ hr'.1 hr'.2⟩
      have hrun := run_loadCells_list (P := P) (w := w) ⟨b, o + p, none⟩ ((cs.drop p).take e.size) (fun j v hj => by
        rw [add_none, Nat.add_assoc]
        rw [List.getElem?_take] at hj
        split at hj
        · exact hc _ _ (by simpa using hj)
        · cases hj)
      rw [hl] at hrun
      simp only [Sem.run_bind, h.run_size, Result.andThen_ok, hrun, Sem.run_pure]
    · cases hd
  | false =>
    rw [ha] at hd
    simp only [Bool.false_eq_true, if_false] at hd ⊢
    obtain ⟨c, hcc, hcd⟩ := hr.get hd
    exact ⟨c, by simp [hc _ _ hcc], hcd⟩

theorem cells_cell {w : World} {b T : Nat} {cs : List Value} (h : w.heap[b]? = some (.cells cs.toArray T)) (j : Nat) (v : Value) (hj : cs[j]? = some v) : w.cell? ⟨b, 0 + j, none⟩ = some v := by
  simp [World.cell?, h, hj]

/-- A load of own cells. -/
theorem q_ld (i : Nat) {T t b p : Nat} {x : Operand} {ds : List DV} {e : TyE} {d : DV} {G : List (Bool × Bool)} (ho : o.op = .load t x) (hg : gpo ops K o.guard = some G) (hx : evG G K x = some (.v (.pointer (some ⟨b, p, none⟩))))
    (hc : gA G K [x] = gB G K [x]) (hi : Γ[i]? = some (cellsR b T ds)) (ht : lkT C.T t = some e) (hd : partD e p ds = some d) : Qv C E ops K Γ o (wrapG G d) := by
  refine qv_val hg (fun a w hT s f => ?_)
  obtain ⟨cs, hb, hr⟩ := s.ok _ (List.mem_of_getElem? hi)
  obtain ⟨v, h1, h2⟩ := loadVar_ok (C.get ht) hr (cells_cell hb) hd
  refine ⟨v, w, ?_, s, .refl _ _ _, h2⟩
  unfold execOp
  rw [Nat.zero_add] at h1
  simp only [ho, Instr.loadAt, (evG_ok f hT hc (by simp) hx).v_inv, Instr.sureAddr, Sem.run_bind, Sem.run_pure, Result.andThen_ok, h1]

/-- A store into own cells, as the state sees it. -/
theorem st_sem {w : World} (s : St E w Γ) {i T t b p : Nat} {ds new : List DV} {e : TyE} {d : DV} {v : Value} (hy : Rep (av E Γ) w v d) (hd : cellsOf d = some new) (h1 : all1 new = true) (hi : Γ[i]? = some (cellsR b T ds)) (ht : lkT C.T t = some e)
    (hl : Nat.beq new.length e.size = true) (hle : Nat.ble (p + new.length) ds.length = true) : ∃ w', (storeVar t ⟨b, p, none⟩ v).run C.P w = .ok () w' ∧ St E w' (Γ.set i (cellsR b T (spl ds p new))) ∧ Mv E Γ w (Γ.set i (cellsR b T (spl ds p new))) w' := by
  obtain ⟨cs, hb, hr⟩ := s.ok _ (List.mem_of_getElem? hi)
  obtain ⟨vs, hv, hrv⟩ := cellsOf_ok hy hd
  have hl' : vs.length = e.size := by rw [hrv.1]; exact Nat.eq_of_beq_eq_true hl
  have hle' : p + vs.length ≤ cs.length := by rw [hrv.1, hr.1]; exact Nat.le_of_ble_eq_true hle
  obtain ⟨w', h2, h3, h4, h5, h6, h7, h8⟩ := run_storeCells C.P b T vs w 0 p cs hb (fun v hm => by
    obtain ⟨j, hj⟩ := List.getElem?_of_mem hm
    have hjl : j < new.length := by
      rcases Nat.lt_or_ge j new.length with h | h
      · exact h
      · rw [List.getElem?_eq_none (by rw [hrv.1]; exact h)] at hj; cases hj
    exact one1_ok (hrv.2 j v _ hj (List.getElem?_eq_getElem hjl)) (all1_mem h1 _ (List.getElem_mem hjl))) (by omega)
  have hkeep : ∀ x, x < w.heap.size → ¬ av E Γ x → w'.heap[x]? = w.heap[x]? := fun x _ hn => h8 x fun e => hn (.inr (fpA_mem hi e))
  have hA : ∀ x, x < w.heap.size → av E (Γ.set i (cellsR b T (spl ds p new))) x → av E Γ x := by
    rintro x _ (h | ⟨r, hrm, hx⟩)
    · exact .inl h
    · obtain ⟨j, hj⟩ := List.getElem?_of_mem hrm
      rcases set_get hi hj with ⟨_, rfl⟩ | ⟨_, hj⟩
      · exact .inr (fpA_mem hi hx)
      · exact .inr (fpA_mem hj hx)
  have hu := s.upd hi (cellsR b T (spl ds p new)) h4 h5 h6 (sem_drawn _ h2) (Nat.le_of_eq h7.symm) (fun x _ hn => h8 x fun e => hn e) (fun x h => .inl h)
    ⟨_, h3, by
      have := hrv.1
      simp only [Nat.add_zero] at *
      rw [hrv.1]
      exact ((hr.take p).append (hrv.append (hr.drop _))).keep hkeep hA⟩
  exact ⟨w', by simp only [storeVar, (C.get ht).run_size, hv, List.size_toArray, hl', ne_eq, not_true_eq_false, if_false, Sem.run_bind, Result.andThen_ok, h2], hu.1, hu.2⟩

/-- A store into own cells. -/
theorem o_st (i : Nat) {T t b p : Nat} {x y : Operand} {ds new : List DV} {e : TyE} {d : DV} (ho : o.op = .store t x y) (hg : o.guard = none) (hs : o.dst = none) (hx : ev K x = some (.v (.pointer (some ⟨b, p, none⟩))))
    (hy : ev K y = some d) (hd : cellsOf d = some new) (h1 : all1 new = true) (hi : Γ[i]? = some (cellsR b T ds)) (ht : lkT C.T t = some e) (hl : Nat.beq new.length e.size = true) (hle : Nat.ble (p + new.length) ds.length = true)
    (k : SO C E ops rest K (Γ.set i (cellsR b T (spl ds p new))) Q) : SO C E ops (o :: rest) K Γ Q := by
  refine o_skp hg hs (fun a w s f => ?_) k
  obtain ⟨w', h2, hu⟩ := st_sem (C := C) s (f.evl hy) hd h1 hi ht hl hle
  refine ⟨w', ?_, hu⟩
  unfold execOp
  simp only [ho, Instr.storeAt, (f.evl hx).v_inv, Instr.sureAddr, Sem.run_bind, Sem.run_pure, Result.andThen_ok, h2]

/-! ### slices that are read -/
theorem Rep.sl_len {A : Nat → Prop} {w : World} {v : Value} {k : Nat} {rows : List (List DV)} (h : Rep A w v (.sl k rows)) : ∃ a cap, v = .slice a rows.length cap := by
  cases h with
  | slnil => exact ⟨none, 0, rfl⟩
  | slz a => exact ⟨some a, 0, rfl⟩
  | sl b off cap => exact ⟨_, cap, rfl⟩

theorem Rep.sl_at {A : Nat → Prop} {w : World} {v : Value} {k : Nat} {rows : List (List DV)} (h : Rep A w v (.sl k rows)) (hne : 0 < rows.length) : ∃ b off cap, v = .slice (some ⟨b, off, none⟩) rows.length cap := by
  cases h with
  | slnil => simp at hne
  | slz => simp at hne
  | sl b off cap => exact ⟨b, off, cap, rfl⟩

theorem q_len {x : Operand} {t k : Nat} {rows : List (List DV)} {elem : TypeId} {e : TyE} {ats : Array TypeId} {G : List (Bool × Bool)} (ho : o.op = .call { callee := .builtin .len, args := #[x], argTypes := ats }) (hg : gpo ops K o.guard = some G)
    (ha : ats = #[t]) (hx : evG G K x = some (.sl k rows)) (hc : gA G K [x] = gB G K [x]) (ht : lkT C.T t = some e) (he : e.u = .slice elem) : Qv C E ops K Γ o (wrapG G (.v (.int .i64 rows.length))) := by
  refine qv_val hg (fun a w hT s f => ?_)
  obtain ⟨ad, cap, hv⟩ := (evG_ok f hT hc (by simp) hx).sl_len
  refine ⟨_, w, ?_, s, .refl _ _ _, .v _⟩
  subst ha
  unfold execOp
  simp [ho, resolve, invoke, builtin, Builtin.len_, underlying, (C.get ht).u, he, hv, goInt]

/-- The address of an element of a slice that is read. -/
theorem q_ix {x y : Operand} {t kk : Nat} {n : Int} {ik : IntKind} {rows : List (List DV)} {elem : TypeId} {e e2 : TyE} {G : List (Bool × Bool)} (ho : o.op = .indexAddr t x y) (hg : gpo ops K o.guard = some G)
    (hx : evG G K x = some (.sl kk rows)) (hy : evG G K y = some (.v (.int ik n))) (hc : gA G K [x, y] = gB G K [x, y]) (ht : lkT C.T t = some e) (he : e.u = .slice elem) (ht2 : lkT C.T elem = some e2) (hk : Nat.beq e2.size kk = true)
    (h0 : allT G → 0 ≤ n) (hn : allT G → n < rows.length) : Qv C E ops K Γ o (wrapG G (.el kk rows n.toNat 0)) := by
  refine qv_val hg (fun a w hT s f => ?_)
  have h0 := h0 hT
  have hn := hn hT
  have hr := evG_ok f hT hc (by simp) hx
  have hyy := (evG_ok f hT hc (by simp) hy).v_inv
  obtain ⟨b, off, cap, hv⟩ := hr.sl_at (by omega)
  rw [hv] at hr
  have hk' : e2.size = kk := Nat.eq_of_beq_eq_true hk
  refine ⟨.pointer (some ⟨b, off + (n.toNat * kk + 0), none⟩), w, ?_, s, .refl _ _ _, .el b off cap kk rows n.toNat 0 (by omega) hr⟩
  unfold execOp
  simp [ho, Instr.indexAt, hyy, asIntOf, underlying, (C.get ht).u, he, hv, h0, hn, (C.get ht2).run_size, hk', add_none]

theorem Rep.sl_row {A : Nat → Prop} {w : World} {b off n cap k : Nat} {rows : List (List DV)} (h : Rep A w (.slice (some ⟨b, off, none⟩) n cap) (.sl k rows)) {i : Nat} {r : List DV} (hr : rows[i]? = some r) :
    ∃ cs : List Value, RepL A w cs r ∧ ∀ (j : Nat) (v : Value), cs[j]? = some v → w.cell? ⟨b, off + i * k + j, none⟩ = some v := by
  cases h with
  | slz => simp at hr
  | sl _ _ _ _ _ hA hc hm hk u hu hrr =>
    refine ⟨(List.range r.length).map (u i), ⟨by simp, fun j c d h1 h2 => ?_⟩, fun j v hj => ?_⟩
    · have hj : j < r.length := by
        rcases Nat.lt_or_ge j r.length with h | h
        · exact h
        · rw [List.getElem?_eq_none h] at h2; cases h2
      simp [hj] at h1
      subst h1
      exact hrr i r j d hr h2
    · have hj' : j < r.length := by
        rcases Nat.lt_or_ge j r.length with h | h
        · exact h
        · rw [List.getElem?_eq_none (by simpa using h)] at hj; cases hj
      simp [hj'] at hj
      subst hj
      rw [Nat.add_assoc]
      exact hu i r j _ hr (List.getElem?_eq_getElem hj')

/-- A load of an element of a slice that is read. -/
theorem q_lde {x : Operand} {t kk i p : Nat} {rows : List (List DV)} {r : List DV} {e : TyE} {d : DV} {G : List (Bool × Bool)} (hr : allT G → rows[i]? = some r) (ho : o.op = .load t x) (hg : gpo ops K o.guard = some G)
    (hx : evG G K x = some (.el kk rows i p)) (hc : gA G K [x] = gB G K [x]) (ht : lkT C.T t = some e) (hd : partD e p r = some d) : Qv C E ops K Γ o (wrapG G d) := by
  refine qv_val hg (fun a w hT s f => ?_)
  obtain ⟨b, off, cap, hv, hi, hsl⟩ := (evG_ok f hT hc (by simp) hx).el_inv
  obtain ⟨cs, hcs, hcell⟩ := hsl.sl_row (hr hT)
  obtain ⟨v, h1, h2⟩ := loadVar_ok (C.get ht) hcs hcell hd
  refine ⟨v, w, ?_, s, .refl _ _ _, h2⟩
  unfold execOp
  rw [Nat.add_assoc] at h1
  simp only [ho, Instr.loadAt, hv, Instr.sureAddr, Sem.run_bind, Sem.run_pure, Result.andThen_ok, h1]
end

/-! ### calls -/
structure Bel (w w' : World) : Prop extends Below w.heap.size w w' where
  drawn : w.drawn ≤ w'.drawn

def Rt (A : Nat → Prop) (w : World) (res : DV) (e : Ending) (w' : World) : Prop := ∃ v, e = .returned v ∧ Bel w w' ∧ Rep A w' v res

/-- The function f, called with args, returns res; it turns nothing that was there. -/
def FunOk (C : Cx) (f : FuncId) (args : List DV) (res : DV) : Prop :=
  ∀ (A : Nat → Prop) (w : World) (vs : List Value), (∀ b, A b → b < w.heap.size) → RepL A w vs args → Calls C.P f vs.toArray w (Rt A w res)

def kn0 : Nat → List DV → Kn
  | _, [] => []
  | i, d :: ds => (i, d) :: kn0 (i + 1) ds

theorem kn0_get : ∀ (ds : List DV) (i s : Nat) (d : DV), lk (kn0 i ds) s = some d → i ≤ s ∧ ds[s - i]? = some d
  | [], i, s, d, h => by simp [kn0, lk] at h
  | x :: ds, i, s, d, h => by
    simp only [kn0, lk] at h
    cases hb : Nat.beq i s with
    | true =>
      rw [hb] at h
      have := Nat.eq_of_beq_eq_true hb
      subst this
      simpa using h
    | false =>
      rw [hb, cond_false] at h
      obtain ⟨h1, h2⟩ := kn0_get ds (i + 1) s d h
      refine ⟨by omega, ?_⟩
      rw [show s - i = (s - (i + 1)) + 1 from by omega]
      simpa using h2

theorem Bel.fp {E : En} {w w' : World} {Γ : List Res} (s : St E w Γ) (hb : Bel w w') : St E w' Γ ∧ Mv E Γ w Γ w' := by
  have hh : ∀ b, b < w.heap.size → w'.heap[b]? = w.heap[b]? := fun b h => hb.block b h
  exact ⟨⟨hb.os.trans s.os, hb.tape.trans s.tape, hb.output.trans s.output, Nat.le_trans s.drawn hb.drawn, Nat.le_trans s.size hb.size, fun b h hf => (hh b (Nat.lt_of_lt_of_le h s.size)).trans (s.same b h hf),
    fun r hr => r.keep (s.ok r hr) (fun b h _ => hh b h) (fun _ _ h => h), s.own, s.apart, s.old, s.apt⟩, fun u d h => h.keep (fun b hb _ => hh b hb) fun _ _ h => h⟩

theorem St.av_lt {E : En} {w : World} {Γ : List Res} (s : St E w Γ) (b : Nat) (h : av E Γ b) : b < w.heap.size := by
  rcases h with h | ⟨r, hr, hb⟩
  · exact Nat.lt_of_lt_of_le (s.old b h) s.size
  · exact r.lt (s.ok r hr) hb

def evs (K : Kn) : List Operand → Option (List DV)
  | [] => some []
  | x :: l => match ev K x, evs K l with | some d, some ds => some (d :: ds) | _, _ => none

theorem Fr.evs_ok {N : Nat} {K : Kn} {A : Nat → Prop} {w : World} {a : Act} (h : Fr N K A w a) : ∀ {l : List Operand} {ds : List DV}, evs K l = some ds → RepL A w (l.map a.eval) ds
  | [], ds, hl => by simp only [evs, Option.some.injEq] at hl; subst hl; exact .nil
  | x :: l, ds, hl => by
    simp only [evs] at hl
    split at hl
    · rename_i d ds' h1 h2
      simp only [Option.some.injEq] at hl
      subst hl
      exact .cons (h.evl h1) (h.evs_ok h2)
    · cases hl

section
variable {C : Cx} {E : En} {K : Kn} {Γ : List Res} {Q : Exit → Act → World → Prop} {ops : Array Oper} {o : Oper} {rest : List Oper}

def evsG (G : List (Bool × Bool)) (K : Kn) : List Operand → Option (List DV)
  | [] => some []
  | x :: l => match evG G K x, evsG G K l with | some d, some ds => some (d :: ds) | _, _ => none

theorem evsG_ok {N : Nat} {A : Nat → Prop} {w : World} {a : Act} (h : Fr N K A w a) {G : List (Bool × Bool)} (hT : allT G) {L : List Operand} (hc : gA G K L = gB G K L) : ∀ {l : List Operand} {ds : List DV}, (∀ x ∈ l, x ∈ L) → evsG G K l = some ds → RepL A w (l.map a.eval) ds
  | [], ds, _, hl => by simp only [evsG, Option.some.injEq] at hl; subst hl; exact .nil
  | x :: l, ds, hm, hl => by
    simp only [evsG] at hl
    split at hl
    · rename_i d ds' h1 h2
      simp only [Option.some.injEq] at hl
      subst hl
      exact .cons (evG_ok h hT hc (hm x (by simp)) h1) (evsG_ok h hT hc (fun y hy => hm y (List.mem_cons_of_mem _ hy)) h2)
    · cases hl

/-- The operation of a call is a call of what the contract is of; no matter what is guarded. -/
theorem q_gcall {f : FuncId} {vs : Act → List Value} {ds : List DV} {res : DV} {G : List (Bool × Bool)} (hf : FunOk C f ds res) (hg : gpo ops K o.guard = some G)
    (hrun : ∀ a w, allT G → St E w Γ → Fr E.N K (av E Γ) w a → (execOp a.eval o).run C.P w = .ok (.enter f (vs a).toArray) w ∧ RepL (av E Γ) w (vs a) ds) : Qv C E ops K Γ o (wrapG G res) := by
  refine ⟨G, res, hg, rfl, fun a w hT s fr Kc Qx hK => ?_⟩
  obtain ⟨hr, hrep⟩ := hrun a w hT s fr
  unfold Oper.wp
  rw [hr]
  refine (hf (av E Γ) w _ s.av_lt hrep).mono ?_
  rintro e w' ⟨v, rfl, hbel, hv⟩
  obtain ⟨s', m'⟩ := Bel.fp s hbel
  exact hK _ _ s' m' hv

theorem q_call {f : FuncId} {xs : Array Operand} {ats : Array TypeId} {ds : List DV} {res : DV} {G : List (Bool × Bool)} (hf : FunOk C f ds res) (hb : ∀ args w, (callFunc f args).run C.P w = .ok (.enter f args) w)
    (ho : o.op = .call { callee := .value (.func f), args := xs, argTypes := ats }) (hg : gpo ops K o.guard = some G) (hx : evsG G K xs.toList = some ds)
    (hc : gA G K xs.toList = gB G K xs.toList) : Qv C E ops K Γ o (wrapG G res) := by
  refine q_gcall (vs := fun a => xs.toList.map a.eval) hf hg (fun a w hT s fr => ⟨?_, evsG_ok fr hT hc (fun _ h => h) hx⟩)
  unfold execOp
  simp [ho, resolve, Act.eval, Deferred.ofValue, invoke, hb]
  rw [← Array.toList_map]

theorem evs_evsG : ∀ l : List Operand, evsG [] K l = evs K l
  | [] => rfl
  | x :: l => by simp only [evsG, evs, evs_evsG l]; rfl
theorem u_ld (i : Nat) {T t b p : Nat} {x : Operand} {ds : List DV} {e : TyE} {d : DV} (ho : o.op = .load t x) (hg : o.guard = none) (hx : ev K x = some (.v (.pointer (some ⟨b, p, none⟩))))
    (hi : Γ[i]? = some (cellsR b T ds)) (ht : lkT C.T t = some e) (hd : partD e p ds = some d) : Qv C E ops K Γ o d := q_ld (G := []) i ho (by rw [hg]; rfl) hx rfl hi ht hd
theorem u_len {x : Operand} {t k : Nat} {rows : List (List DV)} {elem : TypeId} {e : TyE} {ats : Array TypeId} (ho : o.op = .call { callee := .builtin .len, args := #[x], argTypes := ats }) (hg : o.guard = none)
    (ha : ats = #[t]) (hx : ev K x = some (.sl k rows)) (ht : lkT C.T t = some e) (he : e.u = .slice elem) : Qv C E ops K Γ o (.v (.int .i64 rows.length)) := q_len (G := []) ho (by rw [hg]; rfl) ha hx rfl ht he
theorem u_ix {x y : Operand} {t kk : Nat} {n : Int} {ik : IntKind} {rows : List (List DV)} {elem : TypeId} {e e2 : TyE} (ho : o.op = .indexAddr t x y) (hg : o.guard = none)
    (hx : ev K x = some (.sl kk rows)) (hy : ev K y = some (.v (.int ik n))) (ht : lkT C.T t = some e) (he : e.u = .slice elem) (ht2 : lkT C.T elem = some e2) (hk : Nat.beq e2.size kk = true)
    (h0 : 0 ≤ n) (hn : n < rows.length) : Qv C E ops K Γ o (.el kk rows n.toNat 0) := q_ix (G := []) ho (by rw [hg]; rfl) hx hy rfl ht he ht2 hk (fun _ => h0) (fun _ => hn)
theorem u_lde {x : Operand} {t kk i p : Nat} {rows : List (List DV)} {r : List DV} {e : TyE} {d : DV} (hr : rows[i]? = some r) (ho : o.op = .load t x) (hg : o.guard = none)
    (hx : ev K x = some (.el kk rows i p)) (ht : lkT C.T t = some e) (hd : partD e p r = some d) : Qv C E ops K Γ o d := q_lde (G := []) (fun _ => hr) ho (by rw [hg]; rfl) hx rfl ht hd
theorem u_call {f : FuncId} {xs : Array Operand} {ats : Array TypeId} {ds : List DV} {res : DV} (hf : FunOk C f ds res) (hb : ∀ args w, (callFunc f args).run C.P w = .ok (.enter f args) w)
    (ho : o.op = .call { callee := .value (.func f), args := xs, argTypes := ats }) (hg : o.guard = none) (hx : evs K xs.toList = some ds) : Qv C E ops K Γ o res :=
  q_call (G := []) hf hb ho (by rw [hg]; rfl) (by rw [evs_evsG]; exact hx) rfl

theorem fn_ok {f : FuncId} {fn : Func} {c : Code} {args : List DV} {res : DV} (n : Nat) (hf : C.P.funcs[f]? = some fn) (hb : fn.body = some c) (hn : fn.ntmps = n) (hl : Nat.ble args.length n = true)
    (h : ∀ A w, SW C ⟨fun _ => False, A, w, n⟩ c (kn0 0 args) [] (bodyPost C.P fn (Rt A w res))) : FunOk C f args res := by
  intro A w vs hA hr
  refine calls_of_wp hf hb (h A w _ w ⟨rfl, rfl, rfl, Nat.le_refl _, Nat.le_refl _, fun _ _ _ => rfl, fun r hr => by simp at hr, fun r hr => by simp at hr, fun i j r s _ hi => by simp at hi, hA, fun r hr => by simp at hr⟩ ⟨rfl, ?_, ?_⟩)
  · have := Nat.le_of_ble_eq_true hl
    have := hr.1
    simp; omega
  · intro s d hd
    obtain ⟨_, h2⟩ := kn0_get args 0 s d hd
    obtain ⟨c, h3, h4⟩ := hr.get h2
    refine ⟨c, ?_, h4.keep (fun _ _ _ => rfl) fun b _ h => ?_⟩
    · rw [Nat.sub_zero] at h3
      have hlt : s < vs.length := by
        rcases Nat.lt_or_ge s vs.length with h | h
        · exact h
        · rw [List.getElem?_eq_none h] at h3; cases h3
      simp [Array.getElem?_append, hlt]
      simpa [List.getElem?_eq_getElem hlt] using h3
    · rcases h with h | ⟨r, hr, _⟩
      · exact h
      · simp at hr

theorem x_go {y : Code} (h : SW C E y K Γ Q) : SX E K Γ (fun a w => y.wp C.P Q a w) := ⟨h⟩

/-- The walk's end: one result, in a slot. -/
theorem x_rt {fn : Func} {A : Nat → Prop} {w0 : World} {n t : Nat} {res d : DV} (hres : fn.results = #[.tmp t]) (hd : lk K t = some d) (he : d = res) :
    SX ⟨fun _ => False, A, w0, n⟩ K Γ (fun a w => bodyPost C.P fn (Rt A w0 res) .ret a w) := by
  constructor
  intro a w s f
  subst he
  obtain ⟨v, h1, h2⟩ := f.kn _ _ hd
  refine ⟨f.df, v, ?_, v, rfl, ⟨⟨s.os, s.tape, s.output, s.size, fun b hb => s.same b hb (fun h => h)⟩, s.drawn⟩, h2.keep (fun _ _ _ => rfl) fun b _ h => .inl h⟩
  rw [results_tmp hres]
  simp [Array.getD_eq_getD_getElem?, h1]

theorem wrapS {k : Nat} (h : k < 4611686018427387904) : IntKind.i64.wrap ((k : Int) + 1) = ((k + 1 : Nat) : Int) := by
  have : IntKind.i64.wrap ((k : Int) + 1) = (k : Int) + 1 := by
    simp only [IntKind.wrap]
    simp [IntKind.bits, IntKind.signed]
    omega
  rw [this]; rfl
theorem lkS {K : Kn} {s k : Nat} (hk : lk K s = some (.i (IntKind.i64.wrap ((k : Int) + 1)))) (h : k < 4611686018427387904) : lk K s = some (.i ((k + 1 : Nat) : Int)) := by
  rw [hk, wrapS h]

/-! ### loops -/
def sub (K : Kn) : Kn → Prop
  | [] => True
  | p :: K' => lk K p.1 = some p.2 ∧ sub K K'

theorem sub_all {K : Kn} : ∀ {K' : Kn}, sub K K' → lt_all K K'
  | [], _, s, d, h => by simp [lk] at h
  | p :: K', hs, s, d, h => by
    simp only [lk] at h
    cases hb : Nat.beq p.1 s with
    | true =>
      rw [hb] at h
      have := Nat.eq_of_beq_eq_true hb
      subst this
      simp at h
      subst h
      exact hs.1
    | false =>
      rw [hb, cond_false] at h
      exact sub_all hs.2 s d h

theorem wp_loopx {P : Program} {c : Code} {ι : Type} (I : ι → Act → World → Prop) (m : ι → Nat)
    (round : ∀ x a w, I x a w → c.wp P (Exit.then (fun a' w' => ∃ y, m y < m x ∧ I y a' w') Q) a w) : ∀ x a w, I x a w → (Code.loop c).wp P Q a w := by
  intro x a w hI b k cs
  have key : ∀ n x a w, m x = n → I x a w →
      ∃ e a' w', Q e a' w' ∧ Arrives P (lone (b.at a (.code c :: .inLoop c :: k)) cs w) b k cs e a' w' := by
    intro n
    induction n using Nat.strongRecOn with
    | _ n ih =>
      intro x a w hn hI
      obtain ⟨e, a₁, w₁, hq, harr⟩ := round x a w hI b (.inLoop c :: k) cs
      cases e with
      | normal =>
        obtain ⟨y, hlt, hI₁⟩ := hq
        obtain ⟨e₂, a₂, w₂, hq₂, harr₂⟩ := ih (m y) (hn ▸ hlt) y a₁ w₁ rfl hI₁
        exact ⟨e₂, a₂, w₂, hq₂, .of_steps (Steps.trans harr (.one step_inLoop)) harr₂⟩
      | exit id => exact ⟨_, a₁, w₁, hq, .pass (x := .inLoop c) rfl (fun _ _ => .inl (by simp)) harr⟩
      | goto l => exact ⟨_, a₁, w₁, hq, .pass (x := .inLoop c) rfl (fun _ _ => .inl (by simp)) harr⟩
      | ret => exact ⟨_, a₁, w₁, hq, .pass (x := .inLoop c) rfl (fun _ _ => .inl (by simp)) harr⟩
      | panic ch => exact ⟨_, a₁, w₁, hq, .pass (x := .inLoop c) rfl (fun _ _ => .inl (by simp)) harr⟩
      | outgrown => exact ⟨_, a₁, w₁, hq, .pass (x := .inLoop c) rfl (fun _ _ => .inl (by simp)) harr⟩
  obtain ⟨e, a', w', hq, harr⟩ := key _ x a w rfl hI
  exact ⟨e, a', w', hq, .of_steps (.one step_loop) harr⟩

/-- The state at a loop's head. -/
def At (E : En) (K : Kn) (Γ : List Res) (a : Act) (w : World) : Prop := St E w Γ ∧ Fr E.N K (av E Γ) w a

/-- J x: what is known at the head; I x: what holds; m x: what goes down. -/
theorem w_loop {c : Code} {ι : Type} (I : ι → Prop) (J : ι → Kn × List Res) (m : ι → Nat) (x0 : ι) (hi : I x0) (hk : sub K (J x0).1) (hΓ : Γ = (J x0).2)
    (round : ∀ x, I x → SW C E c (J x).1 (J x).2 (Exit.then (fun a w => ∃ y, m y < m x ∧ I y ∧ At E (J y).1 (J y).2 a w) Q)) : SW C E (.loop c) K Γ Q := by
  intro a w s f
  refine wp_loopx (Q := Q) (fun x a w => I x ∧ At E (J x).1 (J x).2 a w) m (fun x a w h => ?_) x0 a w ⟨hi, ?_⟩
  · exact round x h.1 a w h.2.1 h.2.2
  · subst hΓ
    exact ⟨s, f.less (sub_all hk)⟩

/-- A round's end. -/
theorem x_rd {ι : Type} {I : ι → Prop} {J : ι → Kn × List Res} {m : ι → Nat} {x : ι} (y : ι) (n : Nat) (hm : m y < m x) (hi : I y) (hΓ : Γ.take n = (J y).2) (hk : sub K (J y).1) :
    SX E K Γ (fun a w => ∃ y, m y < m x ∧ I y ∧ At E (J y).1 (J y).2 a w) := by
  constructor
  intro a w s f
  obtain ⟨s', m'⟩ := s.take n
  exact ⟨y, hm, hi, hΓ ▸ s', hΓ ▸ (f.mv m').less (sub_all hk)⟩
end
end Go.Proofs.Ytcdakcemcehfiaa
