/- The walk library, part r: one of many own rows, a map in an own cell are from now on read alone. -/
import Derived.Test.YtcdakcemcehfiaaSxq
namespace Go.Proofs.Ytcdakcemcehfiaa
open Go Go.RowKit

theorem wrapI {n : Int} (h0 : 0 ≤ n) (h1 : n < 9223372036854775808) : IntKind.i64.wrap n = n := by
  simp only [IntKind.wrap, IntKind.bits, IntKind.signed]
  simp
  omega
theorem mset_new {α β : Type} [DecidableEq α] {a : α} {v : β} : ∀ {m : List (α × β)}, a ∉ m.map (·.1) → mset a v m = m ++ [(a, v)]
  | [], _ => rfl
  | x :: m, h => by
    simp only [List.map_cons, List.mem_cons, not_or] at h
    simp [mset, h.1, mset_new (v := v) h.2]

section
variable {C : Cx} {E : En} {K : Kn} {Γ : List Res} {Q : Exit → Act → World → Prop} {c : Code}

theorem av_unit {E : En} {Γ L : List Res} {i p : Nat} {r : Res} {w : World} (s : St E w Γ) (hi : Γ[i]? = some (starR L)) (hp : L[p]? = some r) {b : Nat} (hb : r.fp b) : ¬ av E (Γ.set i (starR (L.set p unitR))) b := by
  rintro (h | ⟨x, hx, hxb⟩)
  · exact s.apt _ (List.mem_of_getElem? hi) b ⟨r, List.mem_of_getElem? hp, hb⟩ h
  · obtain ⟨j, hj⟩ := List.getElem?_of_mem hx
    rcases set_get hi hj with ⟨_, rfl⟩ | ⟨hne, hj⟩
    · obtain ⟨y, hy, hyb⟩ := hxb
      obtain ⟨q, hq⟩ := List.getElem?_of_mem hy
      rcases set_get hp hq with ⟨_, rfl⟩ | ⟨hne, hq⟩
      · exact hyb.elim
      · exact ap_iff.2 (s.ok _ (List.mem_of_getElem? hi)).2 p q r y hne hp hq b hb hyb
    · exact s.apart i j _ x hne hi hj b ⟨r, List.mem_of_getElem? hp, hb⟩ hxb

/-- One of many own rows, in a slot, is from now on read alone. -/
theorem w_frs (i p sl : Nat) {T k : Nat} {v : Value} {L : List Res} {rows : List (List DV)} (hp : L[p]? = some (rowR v T k rows)) (hk : lk K sl = some (.os v)) (hi : Γ[i]? = some (starR L))
    (kk : SW C E c ((sl, .sl k rows) :: K) (Γ.set i (starR (L.set p unitR))) Q) : SW C E c K Γ Q := by
  intro a w s f
  obtain ⟨s', mv⟩ := s.updS (w' := w) (r' := unitR) hi hp rfl rfl rfl (Nat.le_refl _) (Nat.le_refl _) (fun _ _ _ => rfl) (fun _ h => h.elim) trivial
  refine kk a w s' ⟨f.df, f.sz, fun t d ht => ?_⟩
  simp only [lk] at ht
  by_cases e : sl = t
  · subst e
    simp only [Nat.beq_refl, cond_true, Option.some.injEq] at ht
    subst ht
    obtain ⟨u, h1, h2⟩ := f.kn _ _ hk
    refine ⟨u, h1, ?_⟩
    rw [h2.os_inv]
    refine rowR_rep ((s.ok _ (List.mem_of_getElem? hi)).1 _ (List.mem_of_getElem? hp)) (av_set (w := w) hi fun b h => ?_) fun b hb => av_unit (w := w) s hi hp hb
    obtain ⟨y, hy, hyb⟩ := h
    obtain ⟨q, hq⟩ := List.getElem?_of_mem hy
    rcases set_get hp hq with ⟨_, rfl⟩ | ⟨hne, hq⟩
    · exact hyb.elim
    · exact .inl ⟨y, List.mem_of_getElem? hq, hyb⟩
  · have : Nat.beq sl t = false := by
      cases hb : Nat.beq sl t with
      | false => rfl
      | true => exact absurd (Nat.eq_of_beq_eq_true hb) e
    rw [this, cond_false] at ht
    obtain ⟨u, h1, h2⟩ := f.kn t d ht
    exact ⟨u, h1, mv _ _ h2⟩

/-- A cell's content is told in other words. -/
theorem w_cel (j p : Nat) {b T : Nat} {ds : List DV} {d : DV} (d' : DV) (hj : Γ[j]? = some (cellsR b T ds)) (hp : ds[p]? = some d) (h : ∀ A w u, Rep A w u d → Rep A w u d')
    (kk : SW C E c K (Γ.set j (cellsR b T (ds.set p d'))) Q) : SW C E c K Γ Q := by
  refine w_res j (cellsR b T (ds.set p d')) hj (fun A w => ?_) (fun b h => h) kk
  rintro ⟨cs, hc, hr⟩
  refine ⟨cs, hc, by simp [hr.1], fun n u e h1 h2 => ?_⟩
  rw [List.getElem?_set] at h2
  split at h2
  · rename_i e0
    subst e0
    split at h2
    · simp only [Option.some.injEq] at h2
      subst h2
      exact h _ _ _ (hr.2 p u _ h1 hp)
    · cases h2
  · exact hr.2 n u e h1 h2
theorem un_of (d : DV) (hd : one1 d = true) (A : Nat → Prop) (w : World) (u : Value) (h : Rep A w u d) : Rep A w u .un := .un _ (one1_ok h hd)

/-- A map of one's own that lies in an own cell is from now on read alone. -/
theorem w_frcm (i j p : Nat) {α β : Type} {bm b T' : Nat} {fk : α → Value} {fv : β → DV} {m m0 : List (α × β)} {ds : List DV} (hpm : m.Perm m0) (hi : Γ[i]? = some (mapR bm fk fv m)) (hj : Γ[j]? = some (cellsR b T' ds)) (hp : ds[p]? = some (.v (.map (some bm)))) (hne : Nat.beq i j = false)
    (kk : SW C E c K ((Γ.set i unitR).set j (cellsR b T' (ds.set p (mpD fk fv m0)))) Q) : SW C E c K Γ Q := by
  refine w_conv (fun w s => ?_) kk
  have hij : i ≠ j := fun e => by subst e; simp at hne
  obtain ⟨s', mv⟩ := s.cut hi
  have hj' : (Γ.set i unitR)[j]? = some (cellsR b T' ds) := by rw [List.getElem?_set_ne hij]; exact hj
  obtain ⟨cs, hb, hr⟩ := s'.ok _ (List.mem_of_getElem? hj')
  have hA1 : ∀ x, x < w.heap.size → av E ((Γ.set i unitR).set j (cellsR b T' (ds.set p (mpD fk fv m0)))) x → av E (Γ.set i unitR) x := av_set (w := w) hj' fun b h => .inl h
  have hA1' : ∀ x, av E ((Γ.set i unitR).set j (cellsR b T' (ds.set p (mpD fk fv m0)))) x → av E (Γ.set i unitR) x := by
    rintro x (h | ⟨r, hrm, hx⟩)
    · exact .inl h
    · obtain ⟨n, hn⟩ := List.getElem?_of_mem hrm
      rcases set_get hj' hn with ⟨_, rfl⟩ | ⟨_, hn⟩
      · exact .inr (fpA_mem hj' hx)
      · exact .inr (fpA_mem hn hx)
  obtain ⟨hnd, es, hbm, k1, _, k3⟩ := s.ok _ (List.mem_of_getElem? hi)
  have hu := s'.upd (w' := w) hj' (cellsR b T' (ds.set p (mpD fk fv m0))) rfl rfl rfl (Nat.le_refl _) (Nat.le_refl _) (fun _ _ _ => rfl) (fun x h => .inl h)
    ⟨cs, hb, by simp [hr.1], fun n u d h1 h2 => by
      rw [List.getElem?_set] at h2
      split at h2
      · rename_i e
        subst e
        split at h2
        · simp only [Option.some.injEq] at h2
          subst h2
          have h3 := (hr.2 p u _ h1 hp).v_inv
          rw [h3]
          exact Rep.mpD_mk hpm ((hpm.map _).nodup_iff.1 hnd) (fun h => s.cut_av hi rfl (hA1' _ h)) hbm k1 fun i e x h4 h5 => (mv _ _ (k3 i e x h4 h5)).keep (fun _ _ _ => rfl) fun b hb h => hA1' _ h
        · cases h2
      · exact (hr.2 n u d h1 h2).keep (fun _ _ _ => rfl) fun x _ h => hA1' x h⟩
  exact ⟨hu.1, mv.trans hu.2⟩
end

theorem St.sub {E : En} {w : World} {Γ Γ' : List Res} (s : St E w Γ) (h : Γ'.Sublist Γ) : St E w Γ' ∧ Mv E Γ w Γ' w := by
  have hm : ∀ r, r ∈ Γ' → r ∈ Γ := fun r hr => h.subset hr
  have hA : ∀ b, av E Γ' b → av E Γ b := fun b hb => hb.imp id fun ⟨x, hx, hb⟩ => ⟨x, hm x hx, hb⟩
  exact ⟨⟨s.os, s.tape, s.output, s.drawn, s.size, s.same, fun x hx => x.keep (s.ok x (hm x hx)) (fun _ _ _ => rfl) (fun b _ h => hA b h),
    fun x hx => s.own x (hm x hx), ap_iff.2 ((ap_iff.1 s.apart).sublist h), s.old, fun x hx => s.apt x (hm x hx)⟩, fun u d h => h.keep (fun _ _ _ => rfl) fun b _ h => hA b h⟩
/-- One own thing is let go. -/
theorem x_drop {E : En} {K : Kn} {Γ : List Res} {R : Act → World → Prop} (j : Nat) (k : SX E K (Γ.eraseIdx j) R) : SX E K Γ R := x_conv (fun _ s => s.sub (List.eraseIdx_sublist _ _)) k
theorem w_drop {C : Cx} {E : En} {K : Kn} {Γ : List Res} {Q : Exit → Act → World → Prop} {c : Code} (j : Nat) (k : SW C E c K (Γ.eraseIdx j) Q) : SW C E c K Γ Q := w_conv (fun _ s => s.sub (List.eraseIdx_sublist _ _)) k
theorem one1_mpD {α β : Type} (fk : α → Value) (fv : β → DV) (m : List (α × β)) : one1 (mpD fk fv m) = true := by unfold mpD; rfl

section
variable {C : Cx} {E : En} {K : Kn} {Γ : List Res} {Q : Exit → Act → World → Prop}
variable {α β : Type} [DecidableEq α] {fk : α → Value} {fv : β → DV} {kt et t : TypeId}

/-- A value put into a map of one's own, as the state sees it. -/
theorem mu_sem {w : World} (s : St E w Γ) (KT : KeyT C kt fk) (a : α) (v : β) {i b : Nat} {m : List (α × β)} {e : TyE} {u : Value} (hu : Rep (av E Γ) w u (fv v)) (hi : Γ[i]? = some (mapR b fk fv m)) (ht : lkT C.T t = some e) (he : e.u = .map kt et) :
    ∃ w', (Instr.mapUpdate t (.map (some b)) (fk a) u).run C.P w = .ok () w' ∧ St E w' (Γ.set i (mapR b fk fv (mset a v m))) ∧ Mv E Γ w (Γ.set i (mapR b fk fv (mset a v m))) w' := by
  obtain ⟨hnd, es, hb, h1, h2, h3⟩ := s.ok _ (List.mem_of_getElem? hi)
  obtain ⟨es', hr, k1, k2, k3⟩ := upd_run KT ht he hb h1 h2 a v u
  have hkeep : ∀ x, x < w.heap.size → ¬ av E Γ x → ({ w with heap := w.heap.setIfInBounds b (.map es' es'.size) } : World).heap[x]? = w.heap[x]? := fun x _ hn => (heapSet hb).2 x fun e => hn (.inr (fpA_mem hi e))
  have hA := av_set (E := E) (r' := mapR b fk fv (mset a v m)) (w := w) hi (fun b h => .inl h)
  have hu := s.upd (w' := { w with heap := w.heap.setIfInBounds b (.map es' es'.size) }) hi (mapR b fk fv (mset a v m)) rfl rfl rfl (Nat.le_refl _) (by simp) (fun x _ hn => (heapSet hb).2 x fun e => hn e) (fun x h => .inl h)
    ⟨KT.nodup hnd a v, es', (heapSet hb).1, k1, k2, fun i e x h4 h5 => by
      rcases k3 i e x h4 h5 with ⟨e1, e2⟩ | ⟨e0, e1, e2, e3⟩
      · rw [e1, e2]; exact hu.keep hkeep hA
      · rw [e2]; exact (h3 i e0 x e1 e3).keep hkeep hA⟩
  exact ⟨_, hr, hu.1, hu.2⟩

/-- .. as an effect of a drawn region. -/
theorem d_mu {id : Nat} {l : List Oper} {Γs : Nat → Value → List Res} {n : Nat} {R : List Sp} {o : Oper} (i : Nat) (KT : KeyT C kt fk) (a : α) (v : β) {x y z : Operand} {b : Nat} {m : List (α × β)} {e : TyE} {dy dz : DV} (js : List Nat) (st : Nat) (hj : subB l n js = true) (ho : l[n]? = some o) (hop : o.op = .mapUpdate t x y z) (hg : o.guard = none)
    (hst : Nat.beq (efs R.reverse (fun j => Nat.blt j n)) st = true)
    (hx : ∀ bs c, ev (kq l R n bs c js ++ K) x = some (.v (.map (some b)))) (hy : ∀ bs c, ev (kq l R n bs c js ++ K) y = some dy) (hz : ∀ bs c, ev (kq l R n bs c js ++ K) z = some dz) (hk : kvD dy = some (fk a)) (hv : dz = fv v)
    (hi : ∀ c Γx, (Γs st c ++ Γx)[i]? = some (mapR b fk fv m)) (ht : lkT C.T t = some e) (he : e.u = .map kt et)
    (hΓ : ∀ c Γx, (Γs st c ++ Γx).set i (mapR b fk fv (mset a v m)) = Γs (st + 1) c ++ Γx)
    (k : DG C E id l K Γ Q Γs (n + 1) (.ef (fun _ => .v undef) :: R)) : DG C E id l K Γ Q Γs n R := by
  refine d_ef (f := fun _ => .v undef) js st hj ho hg hst (fun bs c Γx a' w s f Kc Qx hK => ?_) k
  subst hv
  obtain ⟨w', h2, hu⟩ := mu_sem (C := C) (t := t) s KT a v (f.evl (hz bs c)) (hi c Γx) ht he
  rw [hΓ] at hu
  have hrun : (execOp a'.eval o).run C.P w = .ok .skip w' := by
    unfold execOp
    simp [hop, (f.evl (hx bs c)).v_inv, kvD_ok (f.evl (hy bs c)) hk, h2]
  unfold Oper.wp
  rw [hrun]
  exact hK undef c w' (.inr rfl) hu.1 hu.2 (.v _)
end

/-- A map that is read is handed on, if it is asked for. -/
theorem q_mvm {C : Cx} {E : En} {K : Kn} {Γ : List Res} {ops : Array Oper} {o : Oper} {α β : Type} {fk : α → Value} {fv : β → DV} {m : List (α × β)} {x : Operand} {G : List (Bool × Bool)} (ho : o.op = .move x) (hg : gpo ops K o.guard = some G) (hx : ev K x = some (mpD fk fv m)) : Qv C E ops K Γ o (wrapG G (mpD fk fv m)) := by
  refine qv_val hg (fun a w _ s f => ⟨a.eval x, w, ?_, s, .refl _ _ _, f.evl hx⟩)
  unfold execOp
  simp [ho]
end Go.Proofs.Ytcdakcemcehfiaa
