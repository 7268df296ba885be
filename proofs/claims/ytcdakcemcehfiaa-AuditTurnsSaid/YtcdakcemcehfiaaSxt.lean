/- The walk library, part t: own rows written in; slices written out that grow. -/
import Derived.Test.YtcdakcemcehfiaaSxs
namespace Go.Proofs.Ytcdakcemcehfiaa
open Go Go.RowKit

theorem flat_set {k : Nat} : ∀ {rows : List (List DV)}, (∀ r ∈ rows, r.length = k) → ∀ {j p : Nat} {r new : List DV}, rows[j]? = some r → p + new.length ≤ k → (rows.set j (spl r p new)).flatten = spl rows.flatten (j * k + p) new
  | [], _, j, p, r, new, h, _ => by simp at h
  | x :: rows, hk, 0, p, r, new, h, hp => by
    simp at h
    subst h
    have hl : x.length = k := hk x (by simp)
    simp only [List.set_cons_zero, List.flatten_cons, Nat.zero_mul, Nat.zero_add, spl]
    rw [List.take_append_of_le_length (by omega), List.drop_append_of_le_length (by omega)]
    simp [List.append_assoc]
  | x :: rows, hk, j + 1, p, r, new, h, hp => by
    have hl : x.length = k := hk x (by simp)
    have ih := flat_set (k := k) (rows := rows) (fun y hy => hk y (List.mem_cons_of_mem _ hy)) (j := j) (p := p) (r := r) (new := new) (by simpa using h) hp
    simp only [List.set_cons_succ, List.flatten_cons, ih]
    unfold spl
    have e : (j + 1) * k + p = x.length + (j * k + p) := by rw [hl, Nat.succ_mul]; omega
    have e2 : (x ++ rows.flatten).take (x.length + (j * k + p)) = x ++ rows.flatten.take (j * k + p) := by rw [List.take_append, List.take_of_length_le (by omega)]; congr 2; omega
    have e3 : (x ++ rows.flatten).drop (x.length + (j * k + p) + new.length) = rows.flatten.drop (j * k + p + new.length) := by rw [List.drop_append, List.drop_eq_nil_of_le (by omega), List.nil_append]; congr 1; omega
    rw [e, e2, e3, List.append_assoc]

section
variable {C : Cx} {E : En} {K : Kn} {Γ : List Res} {Q : Exit → Act → World → Prop} {ops : Array Oper} {o : Oper} {rest : List Oper}

/-- A store into own rows. -/
theorem o_str (i : Nat) {T t kk j p : Nat} {x y : Operand} {v : Value} {rows : List (List DV)} {r new : List DV} {e : TyE} {d : DV} (hr : rows[j]? = some r) (ho : o.op = .store t x y) (hg : o.guard = none) (hs : o.dst = none) (hx : ev K x = some (.rp v kk j p))
    (hy : ev K y = some d) (hd : cellsOf d = some new) (h1 : all1 new = true) (hi : Γ[i]? = some (rowR v T kk rows)) (ht : lkT C.T t = some e) (hl : Nat.beq new.length e.size = true) (hle : Nat.ble (p + new.length) kk = true)
    (k : SO C E ops rest K (Γ.set i (rowR v T kk (rows.set j (spl r p new)))) Q) : SO C E ops (o :: rest) K Γ Q := by
  refine o_skp hg hs (fun a w s f => ?_) k
  obtain ⟨h0, us, hown, hrep⟩ := s.ok _ (List.mem_of_getElem? hi)
  obtain ⟨vs, hv, hrv⟩ := cellsOf_ok (f.evl hy) hd
  obtain ⟨g, n0, cap0, hpt, hvs⟩ := (f.evl hx).rp_inv
  have hjl : j < rows.length := by
    rcases Nat.lt_or_ge j rows.length with h | h
    · exact h
    · rw [List.getElem?_eq_none h] at hr; cases hr
  rcases hown.2 with ⟨_, h00⟩ | ⟨g', capx, cur, hv2, _, hb, hnc, hcm, hcs, htk⟩
  · omega
  rw [hvs] at hv2
  cases hv2
  have hlen := hown.1
  have hl' : vs.length = e.size := by rw [hrv.1]; exact Nat.eq_of_beq_eq_true hl
  have hle' : p + vs.length ≤ kk := by rw [hrv.1]; exact Nat.le_of_ble_eq_true hle
  have hjk : j * kk + kk ≤ rows.length * kk := by
    have := Nat.mul_le_mul_right kk (show j + 1 ≤ rows.length from hjl)
    rwa [Nat.add_mul, Nat.one_mul] at this
  have hck : rows.length * kk ≤ cap0 * kk := Nat.mul_le_mul_right _ hnc
  have hb' : w.heap[g]? = some (.cells cur.toList.toArray T) := by simpa using hb
  obtain ⟨w', h2, h3, h4, h5, h6, h7, h8⟩ := run_storeCells C.P g T vs w 0 (j * kk + p) cur.toList hb' (fun v hm => by
    obtain ⟨q, hq⟩ := List.getElem?_of_mem hm
    have hql : q < new.length := by
      rcases Nat.lt_or_ge q new.length with h | h
      · exact h
      · rw [List.getElem?_eq_none (by rw [hrv.1]; exact h)] at hq; cases hq
    exact one1_ok (hrv.2 q v _ hq (List.getElem?_eq_getElem hql)) (all1_mem h1 _ (List.getElem_mem hql))) (by simp; omega)
  have hkeep : ∀ x, x < w.heap.size → ¬ av E Γ x → w'.heap[x]? = w.heap[x]? := fun x _ hn => h8 x fun e => hn (.inr (fpA_mem hi (by rw [hvs, e]; rfl)))
  have hA := av_set (E := E) (r' := rowR v T kk (rows.set j (spl r p new))) (w := w) hi (fun b h => .inl h)
  have hu := s.upd hi (rowR v T kk (rows.set j (spl r p new))) h4 h5 h6 (sem_drawn _ h2) (Nat.le_of_eq h7.symm) (fun x _ hn => h8 x fun e => hn (by rw [hvs, e]; rfl)) (fun x h => .inl h)
    ⟨fun y hy => by
      rcases List.mem_or_eq_of_mem_set hy with hy | hy
      · exact h0 y hy
      · rw [hy]
        have := h0 r (List.mem_of_getElem? hr)
        simp only [spl, List.length_append, List.length_take, List.length_drop]
        rw [hrv.1] at hle'
        omega, us.take (j * kk + p) ++ (vs ++ us.drop (j * kk + p + vs.length)), ⟨by simp [hlen]; omega, .inr ⟨g, cap0, _, by rw [hvs, List.length_set], Nat.zero_le _, h3, by rw [List.length_set]; exact hnc, hcm, by simp; omega, by
      rw [List.length_set, ← htk]
      simp only [Nat.add_zero]
      apply List.ext_getElem?
      intro q
      simp only [List.getElem?_take, List.getElem?_append, List.length_take, List.getElem?_drop]
      have hcl : cur.toList.length = cap0 * kk := by simpa using hcs
      simp only [hcl]
      by_cases hq : q < rows.length * kk
      · rw [if_pos hq]
        by_cases hq2 : q < j * kk + p
        · have a1 : q < min (j * kk + p) (cap0 * kk) := by omega
          have a2 : q < min (j * kk + p) (min (rows.length * kk) (cap0 * kk)) := by omega
          simp only [a1, a2, hq2, hq, if_true]
        · have a1 : ¬ q < min (j * kk + p) (cap0 * kk) := by omega
          have a2 : ¬ q < min (j * kk + p) (min (rows.length * kk) (cap0 * kk)) := by omega
          simp only [a1, a2, if_false]
          have b1 : min (j * kk + p) (cap0 * kk) = j * kk + p := by omega
          have b2 : min (j * kk + p) (min (rows.length * kk) (cap0 * kk)) = j * kk + p := by omega
          rw [b1, b2]
          split
          · rfl
          · rw [if_pos (by omega)]
      · rw [if_neg hq]
        have a2 : ¬ q < min (j * kk + p) (min (rows.length * kk) (cap0 * kk)) := by omega
        have b2 : min (j * kk + p) (min (rows.length * kk) (cap0 * kk)) = j * kk + p := by omega
        simp only [b2]
        rw [if_neg (by omega), if_neg (by omega), if_neg (by omega)]⟩⟩, by
      rw [flat_set h0 hr (by rw [← hrv.1]; exact hle')]
      unfold spl
      rw [hrv.1]
      exact ((hrep.take _).append (hrv.append (hrep.drop _))).keep hkeep hA⟩
  refine ⟨w', ?_, hu.1, hu.2⟩
  unfold execOp
  simp only [ho, Instr.storeAt, hpt, Instr.sureAddr, Sem.run_bind, Sem.run_pure, Result.andThen_ok, storeVar, (C.get ht).run_size, hv, List.size_toArray, hl', ne_eq, not_true_eq_false, if_false, h2]

/-- A slice that is written out, and grows later. -/
theorem o_bso {t n : Nat} {parts : Array (Nat × Operand)} {pd : List (Nat × DV)} {e e2 : TyE} {elem : TypeId} {ds : List DV} {sl : Nat} (ho : o.op = .buildSlice t n parts) (hg : o.guard = none) (hsl' : o.dst = some sl) (hN : Nat.blt sl E.N = true)
    (ht : lkT C.T t = some e) (he : e.u = .slice elem) (ht2 : lkT C.T elem = some e2) (h1 : ones e2.zero = true) (hp : evParts [] K parts.toList = some pd)
    (hsm : (Nat.ble (n * e2.size) 16777216 && Nat.ble 1 e2.size && Nat.ble 1 n) = true)
    (hf : fillD (fun i => some (i * e2.size, e2.size)) ((zeros n e2.zero).map zD) pd = some ds) (hl : Nat.beq ds.length (n * e2.size) = true)
    (k : ∀ v, SO C E ops rest ((sl, .os v) :: K) (Γ ++ [rowR v elem e2.size (chunk e2.size n ds)]) Q) : SO C E ops (o :: rest) K Γ Q := by
  have hs : dstOk E.N o.dst = true := by rw [hsl']; exact hN
  have k : ∀ v, SO C E ops rest (putK o.dst (.os v) K) (Γ ++ [rowR v elem e2.size (chunk e2.size n ds)]) Q := by rw [hsl']; exact k
  intro a w s f
  simp only [Bool.and_eq_true] at hsm
  have hsm1 := Nat.le_of_ble_eq_true hsm.1.1
  have hsm2 := Nat.le_of_ble_eq_true hsm.1.2
  have hsm3 := Nat.le_of_ble_eq_true hsm.2
  have hT2 := C.get ht2
  have hdl := Nat.eq_of_beq_eq_true hl
  obtain ⟨q1, q2⟩ := evParts_ok f (G := []) trivial (L := parts.toList.map (·.2)) rfl (fun p hp => List.mem_map.2 ⟨p, hp, rfl⟩) hp
  obtain ⟨cs, h3, h4⟩ := fill_ok (A := av E Γ) (w := w) (fun i => some (i * e2.size, e2.size)) _ pd (zeros n e2.zero) _ ds q1 q2 (zs_ok _ _ _) hf
  have hmul : n * 1 ≤ n * e2.size := Nat.mul_le_mul_left _ hsm2
  have hn : n ≤ maxLen := by unfold maxLen; omega
  have hpos : 0 < n * e2.size := by omega
  have hcl : cs.length = n * e2.size := by rw [h4.1, hdl]
  have hfl : (chunk e2.size n ds).flatten = ds := by rw [chunk_flatten, List.take_of_length_le (by omega)]
  have hnew := s.new (.cells cs.toArray elem) (rowR (.slice (some ⟨w.heap.size, 0, none⟩) n n) elem e2.size (chunk e2.size n ds)) (fun b h => by simp only [rowR, Value.ownBlock, Option.some.injEq] at h; exact h.symm)
    ⟨chunk_mem_len _ _ _ (by omega), cs, ⟨by rw [chunk_len, hcl], .inr ⟨w.heap.size, n, cs.toArray, by rw [chunk_len], Nat.zero_le _, alloc_new _ _, by rw [chunk_len]; exact Nat.le_refl _, hn, by simpa using hcl, by rw [chunk_len, ← hcl]; simp⟩⟩, by
      rw [hfl]
      refine h4.keep (fun b hb _ => Below.heap_alloc w _ b hb) fun b hb h => ?_
      rcases h with h | h
      · exact .inl h
      · rcases fpA_snoc.1 h with h | h
        · exact .inr h
        · simp only [rowR, Value.ownBlock, Option.some.injEq] at h
          omega⟩
  refine wpList_plain hg fun Kc hK => ?_
  have hrun : (execOp a.eval o).run C.P w = .ok (.value (.slice (some ⟨w.heap.size, 0, none⟩) n n)) (w.alloc (.cells cs.toArray elem)) := by
    have hlen : n * e2.size = n * e2.zero.length := by rw [hT2.n]
    unfold execOp
    simp only [ho, Instr.buildSlice, Sem.run_bind, (C.get ht).run_under, he, Result.andThen_ok, hT2.run_size]
    rw [if_neg (by omega)]
    have h0 : ¬ n * e2.size = 0 := by omega
    simp only [h0, if_false, Sem.run_pure, Result.andThen_ok, Sem.run_bind, hT2.run_zero, hT2.z_cells (ones_mem h1), Array.toList_map]
    rw [hlen, zeros_range, h3]
    simp only [newRow, Sem.run_bind, run_newObj, Result.andThen_ok, Sem.run_pure]
    rfl
  unfold Oper.wp
  rw [hrun]
  exact hK _ _ (k _ _ _ hnew.1 ((f.mv hnew.2).put hs (.os _ _ _)))
end

/-- Rows are told in other words. -/
theorem row_conv {v : Value} {T k : Nat} {rows rows' : List (List DV)} (hl : rows'.length = rows.length) (hk : ∀ r ∈ rows', r.length = k) (h : ∀ A w cs, RepL A w cs rows.flatten → RepL A w cs rows'.flatten) (A : Nat → Prop) (w : World) (hr : (rowR v T k rows).ok A w) : (rowR v T k rows').ok A w := by
  obtain ⟨_, us, ho, hrr⟩ := hr
  exact ⟨hk, us, by rw [hl]; exact ho, h _ _ _ hrr⟩

section
variable {C : Cx} {E : En} {K : Kn} {Γ : List Res} {Q : Exit → Act → World → Prop} {c : Code}
/-- What lies in own rows and is many own rows' is from now on read alone. -/
theorem w_frn (i j : Nat) {v : Value} {T k : Nat} {rows : List (List DV)} {L : List Res} (rows' : List (List DV)) (hi : Γ[i]? = some (rowR v T k rows)) (hj : Γ[j]? = some (starR L)) (hne : Nat.beq i j = false)
    (hl : rows'.length = rows.length) (hk : ∀ r ∈ rows', r.length = k)
    (h : ∀ (A A' : Nat → Prop) (w : World) (u : Value) (q : Nat) (d d' : DV), rows.flatten[q]? = some d → rows'.flatten[q]? = some d' → (starR L).ok A w → (∀ b, A' b → A b ∧ ¬ (starR L).fp b) → Rep A w u d → Rep A' w u d')
    (kk : SW C E c K ((Γ.set j unitR).set i (rowR v T k rows')) Q) : SW C E c K Γ Q := by
  refine w_conv (fun w s => ?_) kk
  have hij : j ≠ i := fun e => by subst e; simp at hne
  obtain ⟨s', mv⟩ := s.cut hj
  have hi' : (Γ.set j unitR)[i]? = some (rowR v T k rows) := by rw [List.getElem?_set_ne hij]; exact hi
  have hA1 : ∀ x, av E ((Γ.set j unitR).set i (rowR v T k rows')) x → av E (Γ.set j unitR) x := by
    rintro x (h | ⟨r, hrm, hx⟩)
    · exact .inl h
    · obtain ⟨n, hn⟩ := List.getElem?_of_mem hrm
      rcases set_get hi' hn with ⟨_, rfl⟩ | ⟨_, hn⟩
      · exact .inr (fpA_mem hi' hx)
      · exact .inr (fpA_mem hn hx)
  have hA2 : ∀ x, av E (Γ.set j unitR) x → av E Γ x := by
    rintro x (h | ⟨r, hrm, hx⟩)
    · exact .inl h
    · obtain ⟨n, hn⟩ := List.getElem?_of_mem hrm
      rcases set_get hj hn with ⟨_, rfl⟩ | ⟨_, hn⟩
      · exact hx.elim
      · exact .inr (fpA_mem hn hx)
  obtain ⟨h0, us, hown, hrep⟩ := s.ok _ (List.mem_of_getElem? hi)
  have hstar := s.ok _ (List.mem_of_getElem? hj)
  have hfl := flat_len hk
  have hfl0 := flat_len h0
  have hu := s'.upd (w' := w) hi' (rowR v T k rows') rfl rfl rfl (Nat.le_refl _) (Nat.le_refl _) (fun _ _ _ => rfl) (fun x h => .inl h)
    ⟨hk, us, by rw [hl]; exact hown, by rw [hfl, hl, ← hfl0]; exact hrep.1, fun q u d' h1 h2 => by
      have hq : q < rows.flatten.length := by
        rcases Nat.lt_or_ge q rows'.flatten.length with h | h
        · rw [hfl0, ← hl, ← hfl]; exact h
        · rw [List.getElem?_eq_none h] at h2; cases h2
      have hd := List.getElem?_eq_getElem hq
      exact h _ _ w u q _ _ hd h2 hstar (fun b hb => ⟨hA2 b (hA1 b hb), fun hf => s.cut_av hj hf (hA1 b hb)⟩) (hrep.2 q u _ h1 hd)⟩
  exact ⟨hu.1, mv.trans hu.2⟩
end
end Go.Proofs.Ytcdakcemcehfiaa
