/- The walk library, part n: own rows read by index. -/
import Derived.Test.YtcdakcemcehfiaaSxm
namespace Go.Proofs.Ytcdakcemcehfiaa
open Go Go.RowKit

section
variable {C : Cx} {E : En} {K : Kn} {Γ : List Res} {Q : Exit → Act → World → Prop} {ops : Array Oper} {o : Oper} {rest : List Oper}

theorem Rep.os_inv {A : Nat → Prop} {w : World} {u v : Value} (h : Rep A w u (.os v)) : u = v := by cases h; rfl

/-- The rows of one's own, as they can be read for a moment. -/
theorem own_sl {w : World} (s : St E w Γ) {i : Nat} {v : Value} {T k : Nat} {rows : List (List DV)} (hi : Γ[i]? = some (rowR v T k rows)) : Rep (fun _ => False) w v (.sl k rows) :=
  rowR_rep (s.ok _ (List.mem_of_getElem? hi)) (fun _ _ h => h.elim) (fun _ _ h => h)

/-- How many rows of one's own there are. -/
theorem q_olen (i : Nat) {x : Operand} {t k T : Nat} {v : Value} {rows : List (List DV)} {elem : TypeId} {e : TyE} {ats : Array TypeId} {G : List (Bool × Bool)} (ho : o.op = .call { callee := .builtin .len, args := #[x], argTypes := ats }) (hg : gpo ops K o.guard = some G)
    (ha : ats = #[t]) (hx : evG G K x = some (.os v)) (hc : gA G K [x] = gB G K [x]) (hi : Γ[i]? = some (rowR v T k rows)) (ht : lkT C.T t = some e) (he : e.u = .slice elem) : Qv C E ops K Γ o (wrapG G (.v (.int .i64 rows.length))) := by
  refine qv_val hg (fun a w hT s f => ?_)
  obtain ⟨ad, cap, hv⟩ := (own_sl s hi).sl_len
  have hu := (evG_ok f hT hc (by simp) hx).os_inv
  refine ⟨_, w, ?_, s, .refl _ _ _, .v _⟩
  subst ha
  unfold execOp
  simp [ho, resolve, invoke, builtin, Builtin.len_, underlying, (C.get ht).u, he, hu, hv, goInt]
theorem u_olen (i : Nat) {x : Operand} {t k T : Nat} {v : Value} {rows : List (List DV)} {elem : TypeId} {e : TyE} {ats : Array TypeId} (ho : o.op = .call { callee := .builtin .len, args := #[x], argTypes := ats }) (hg : o.guard = none)
    (ha : ats = #[t]) (hx : ev K x = some (.os v)) (hi : Γ[i]? = some (rowR v T k rows)) (ht : lkT C.T t = some e) (he : e.u = .slice elem) : Qv C E ops K Γ o (.v (.int .i64 rows.length)) := q_olen (G := []) i ho (by rw [hg]; rfl) ha hx rfl hi ht he

/-- The address of a row of one's own. -/
theorem q_ixr (i : Nat) {x y : Operand} {t kk T : Nat} {v : Value} {n : Int} {ik : IntKind} {rows : List (List DV)} {elem : TypeId} {e e2 : TyE} {G : List (Bool × Bool)} (ho : o.op = .indexAddr t x y) (hg : gpo ops K o.guard = some G)
    (hx : evG G K x = some (.os v)) (hy : evG G K y = some (.v (.int ik n))) (hc : gA G K [x, y] = gB G K [x, y]) (hi : Γ[i]? = some (rowR v T kk rows)) (ht : lkT C.T t = some e) (he : e.u = .slice elem) (ht2 : lkT C.T elem = some e2) (hk : Nat.beq e2.size kk = true)
    (h0 : allT G → 0 ≤ n) (hn : allT G → n < rows.length) : Qv C E ops K Γ o (wrapG G (.rp v kk n.toNat 0)) := by
  refine qv_val hg (fun a w hT s f => ?_)
  have h0 := h0 hT
  have hn := hn hT
  have hyy := (evG_ok f hT hc (by simp) hy).v_inv
  have hu := (evG_ok f hT hc (by simp) hx).os_inv
  obtain ⟨h9, us, hown, hr⟩ := s.ok _ (List.mem_of_getElem? hi)
  rcases hown.2 with ⟨rfl, h1⟩ | ⟨g, cap, cur, rfl, _, hb, hnc, hcm, hcs, htk⟩
  · rw [h1] at hn; simp at hn; omega
  have hk' : e2.size = kk := Nat.eq_of_beq_eq_true hk
  refine ⟨.pointer (some ⟨g, n.toNat * kk + 0, none⟩), w, ?_, s, .refl _ _ _, .rp g _ cap kk n.toNat 0⟩
  unfold execOp
  simp [ho, Instr.indexAt, hyy, asIntOf, underlying, (C.get ht).u, he, hu, h0, hn, (C.get ht2).run_size, hk', add_none]
theorem u_ixr (i : Nat) {x y : Operand} {t kk T : Nat} {v : Value} {n : Int} {ik : IntKind} {rows : List (List DV)} {elem : TypeId} {e e2 : TyE} (ho : o.op = .indexAddr t x y) (hg : o.guard = none)
    (hx : ev K x = some (.os v)) (hy : ev K y = some (.v (.int ik n))) (hi : Γ[i]? = some (rowR v T kk rows)) (ht : lkT C.T t = some e) (he : e.u = .slice elem) (ht2 : lkT C.T elem = some e2) (hk : Nat.beq e2.size kk = true)
    (h0 : 0 ≤ n) (hn : n < rows.length) : Qv C E ops K Γ o (.rp v kk n.toNat 0) := q_ixr (G := []) i ho (by rw [hg]; rfl) hx hy rfl hi ht he ht2 hk (fun _ => h0) (fun _ => hn)

/-- A load of a row of one's own. -/
theorem q_ldr (i : Nat) {x : Operand} {t kk j p T : Nat} {v : Value} {rows : List (List DV)} {r : List DV} {e : TyE} {d : DV} {G : List (Bool × Bool)} (hr : allT G → rows[j]? = some r) (ho : o.op = .load t x) (hg : gpo ops K o.guard = some G)
    (hx : evG G K x = some (.rp v kk j p)) (hc : gA G K [x] = gB G K [x]) (hi : Γ[i]? = some (rowR v T kk rows)) (ht : lkT C.T t = some e) (hd : partD e p r = some d) : Qv C E ops K Γ o (wrapG G d) := by
  refine qv_val hg (fun a w hT s f => ?_)
  have hrp := evG_ok f hT hc (by simp) hx
  generalize hav : a.eval x = u at hrp
  obtain ⟨h0, us, hown, hrep⟩ := s.ok _ (List.mem_of_getElem? hi)
  cases hrp with
  | rp g n cap =>
    rcases hown.2 with ⟨h1, _⟩ | ⟨g', cap', cur, h1, _, hb, hnc, hcm, hcs, htk⟩
    · cases h1
    cases h1
    have key : ∀ (q : Nat) (d : DV), r[q]? = some d → ∃ c, us[j * kk + q]? = some c ∧ Rep (av E Γ) w c d := fun q d h => hrep.get (flat_at h0 (hr hT) h)
    have hrl : RepL (av E Γ) w ((List.range r.length).map fun q => us.getD (j * kk + q) undef) r := ⟨by simp, fun q c d h1 h2 => by
      have hq : q < r.length := by
        rcases Nat.lt_or_ge q r.length with h | h
        · exact h
        · rw [List.getElem?_eq_none h] at h2; cases h2
      obtain ⟨c', h3, h4⟩ := key q d h2
      simp [hq, List.getD_eq_getElem?_getD, h3] at h1
      rw [← h1]; exact h4⟩
    obtain ⟨v', h1, h2⟩ := loadVar_ok (b := g) (o := j * kk) (C.get ht) hrl (fun q v'' hq => by
      have hql : q < r.length := by
        rcases Nat.lt_or_ge q r.length with h | h
        · exact h
        · rw [List.getElem?_eq_none (by simpa using h)] at hq; cases hq
      obtain ⟨c', h3, _⟩ := key q _ (List.getElem?_eq_getElem hql)
      simp [hql, List.getD_eq_getElem?_getD, h3] at hq
      subst hq
      have hcur : cur[j * kk + q]? = some c' := by
        rw [← htk, List.getElem?_take] at h3
        split at h3
        · simpa using h3
        · cases h3
      simp [World.cell?, hb, hcur]) hd
    refine ⟨v', w, ?_, s, .refl _ _ _, h2⟩
    unfold execOp
    simp only [ho, Instr.loadAt, hav, Instr.sureAddr, Sem.run_bind, Sem.run_pure, Result.andThen_ok, h1]
theorem u_ldr (i : Nat) {x : Operand} {t kk j p T : Nat} {v : Value} {rows : List (List DV)} {r : List DV} {e : TyE} {d : DV} (hr : rows[j]? = some r) (ho : o.op = .load t x) (hg : o.guard = none)
    (hx : ev K x = some (.rp v kk j p)) (hi : Γ[i]? = some (rowR v T kk rows)) (ht : lkT C.T t = some e) (hd : partD e p r = some d) : Qv C E ops K Γ o d := q_ldr (G := []) i (fun _ => hr) ho (by rw [hg]; rfl) hx rfl hi ht hd

/-- The address of an array's element. -/
theorem q_ixa {x y : Operand} {t b p m : Nat} {n : Int} {ik : IntKind} {elem : TypeId} {e e2 : TyE} {G : List (Bool × Bool)} (ho : o.op = .indexAddr t x y) (hg : gpo ops K o.guard = some G)
    (hx : evG G K x = some (.v (.pointer (some ⟨b, p, none⟩)))) (hy : evG G K y = some (.v (.int ik n))) (hc : gA G K [x, y] = gB G K [x, y]) (ht : lkT C.T t = some e) (he : e.u = .array m elem) (ht2 : lkT C.T elem = some e2)
    (h0 : allT G → 0 ≤ n) (hn : allT G → n < m) : Qv C E ops K Γ o (wrapG G (.v (.pointer (some ⟨b, p + n.toNat * e2.size, none⟩)))) := by
  refine qv_val hg (fun a w hT s f => ?_)
  have h0 := h0 hT
  have hn := hn hT
  have hyy := (evG_ok f hT hc (by simp) hy).v_inv
  have hu := (evG_ok f hT hc (by simp) hx).v_inv
  refine ⟨_, w, ?_, s, .refl _ _ _, .v _⟩
  unfold execOp
  simp [ho, Instr.indexAt, hyy, asIntOf, underlying, (C.get ht).u, he, hu, h0, hn, (C.get ht2).run_size, Instr.sureAddr, add_none]
theorem u_ixa {x y : Operand} {t b p m : Nat} {n : Int} {ik : IntKind} {elem : TypeId} {e e2 : TyE} (ho : o.op = .indexAddr t x y) (hg : o.guard = none)
    (hx : ev K x = some (.v (.pointer (some ⟨b, p, none⟩)))) (hy : ev K y = some (.v (.int ik n))) (ht : lkT C.T t = some e) (he : e.u = .array m elem) (ht2 : lkT C.T elem = some e2)
    (h0 : 0 ≤ n) (hn : n < m) : Qv C E ops K Γ o (.v (.pointer (some ⟨b, p + n.toNat * e2.size, none⟩))) := q_ixa (G := []) ho (by rw [hg]; rfl) hx hy rfl ht he ht2 (fun _ => h0) (fun _ => hn)
end
end Go.Proofs.Ytcdakcemcehfiaa
