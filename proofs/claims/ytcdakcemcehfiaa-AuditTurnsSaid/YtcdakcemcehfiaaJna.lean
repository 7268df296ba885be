/- AuditTurns: the join: from the datum of a plan to what the walk knows; the statement. -/
import Derived.Test.YtcdakcemcehfiaaLwh
import Derived.Test.YtcdakcemcehfiaaRows
import Derived.WalkKit
import Derived.ProofKit
import Derived.OpenShut
import Derived.ChangeOld
import Derived.Below
import Derived.Deep.Slices
import Derived.Deep.Strs
namespace Go.Proofs.Ytcdakcemcehfiaa
open Go Go.ChangeShapes Go.WideShapes Go.ChangeAt Go.RowKit Go.Deep
set_option maxRecDepth 100000

abbrev NoA : Nat → Prop := fun _ => False
theorem rep_slice {H : Type} {enc : TypeId × Value → H} {P : Program} {W : World} {held : Bool} {fuel t e k : Nat} {cs : List Value} {x : DataW H × List MemPlace} (ht : P.underlying t = some (.slice e)) (hc : P.cellsOf e = k) (hk : 0 < k)
    {α : Type} [Inhabited α] (row : α → List DV) (hrow : ∀ a, (row a).length = k)
    (op : ∀ n cs' y, cs'.length = k → DataW.trod enc P W 0 (fun _ => true) held n e cs' = some y → ∃ a : α, RepL NoA W cs' (row a))
    (h : DataW.trod enc P W 0 (fun _ => true) held fuel t cs = some x) : ∃ l : List α, ∃ v, cs = [v] ∧ Rep NoA W v (.sl k (l.map row)) := by
  rcases open_slice ht h with ⟨rfl, _⟩ | ⟨a, len, cap, m, n, D, Pl, rfl, _, hl, hm, hmm, _, hi⟩
  · exact ⟨[], _, rfl, .slnil k⟩
  · have hmm : m = cap := by simpa using hmm
    subst hmm
    cases m with
    | zero =>
      have : len = 0 := by omega
      subst this
      exact ⟨[], _, rfl, .slz a k⟩
    | succ m =>
      obtain ⟨b, off, spot⟩ := a
      have hall : ∀ i, i < m + 1 → ∃ a : α, ∃ cs' : List Value, RepL NoA W cs' (row a) ∧ ∀ j, j < k → W.cell? (((⟨b, off, spot⟩ : Addr).add (i * k)).add j) = cs'[j]? := by
        intro i him
        obtain ⟨cs', h1, h2⟩ := hi i him
        rw [hc] at h1
        obtain ⟨_, h3, h4⟩ := World.cells?_some h1
        obtain ⟨a, ha⟩ := op n cs' _ h3 h2
        exact ⟨a, cs', ha, h4⟩
      have hspot : spot = none := by
        obtain ⟨a, cs', ha, h4⟩ := hall 0 (by omega)
        have hl0 : 0 < cs'.length := by rw [ha.1, hrow]; exact hk
        have h5 := h4 0 hk
        rw [List.getElem?_eq_getElem hl0] at h5
        simpa [Addr.add] using World.cell?_spot h5
      subst hspot
      obtain ⟨F, hF⟩ : ∃ F : Nat → α, ∀ i, i < m + 1 → ∃ cs' : List Value, RepL NoA W cs' (row (F i)) ∧ ∀ j, j < k → W.cell? ⟨b, off + (i * k + j), none⟩ = cs'[j]? := by
        refine ⟨fun i => if h : i < m + 1 then (hall i h).choose else default, fun i him => ?_⟩
        obtain ⟨cs', h1, h2⟩ := (hall i him).choose_spec
        refine ⟨cs', by simpa [him] using h1, fun j hj => ?_⟩
        have := h2 j hj
        rw [add_none, add_none, Nat.add_assoc] at this
        exact this
      refine ⟨(List.range len).map F, _, rfl, ?_⟩
      have hlen : (((List.range len).map F).map row).length = len := by simp
      have hget : ∀ (i : Nat) (r : List DV), (((List.range len).map F).map row)[i]? = some r → i < len ∧ r = row (F i) := by
        intro i r hr
        have hil : i < len := by
          rcases Nat.lt_or_ge i len with h | h
          · exact h
          · rw [List.getElem?_eq_none (by omega)] at hr; cases hr
        rw [List.getElem?_map, List.getElem?_map, List.getElem?_range hil] at hr
        exact ⟨hil, (Option.some.inj hr).symm⟩
      have key : ∀ (i : Nat) (r : List DV) (j : Nat) (d : DV), (((List.range len).map F).map row)[i]? = some r → r[j]? = some d → ∃ c, W.cell? ⟨b, off + (i * k + j), none⟩ = some c ∧ Rep NoA W c d := by
        intro i r j d hr hd
        obtain ⟨hil, rfl⟩ := hget i r hr
        obtain ⟨cs', h1, h2⟩ := hF i (by omega)
        obtain ⟨c, h3, h4⟩ := h1.get hd
        have hj : j < k := by
          rcases Nat.lt_or_ge j k with h | h
          · exact h
          · rw [List.getElem?_eq_none (by rw [hrow]; exact h)] at hd; cases hd
        exact ⟨c, (h2 j hj).trans h3, h4⟩
      have := Rep.sl (A := NoA) (w := W) b off (m + 1) k (((List.range len).map F).map row) (fun _ _ _ _ _ _ h => h) (by rw [hlen]; exact hl) hm (fun r hr => by
        obtain ⟨y, _, rfl⟩ := List.mem_map.1 hr
        exact hrow y) (fun i j => (W.cell? ⟨b, off + (i * k + j), none⟩).getD undef) (fun i r j d h1 h2 => by
        obtain ⟨c, h3, _⟩ := key i r j d h1 h2
        rw [h3]; rfl) (fun i r j d h1 h2 => by
        obtain ⟨c, h3, h4⟩ := key i r j d h1 h2
        rw [h3]; exact h4)
      rw [hlen] at this
      exact this

theorem int_cell {H : Type} {enc : TypeId × Value → H} {W : World} {held : Bool} {n : Nat} {cs : List Value} {y : DataW H × List MemPlace} (h : DataW.trod enc Try.prog W 0 (fun _ => true) held n 3 cs = some y) : ∃ x, cs = [.int .i64 x] := by
  obtain ⟨x, h1, _⟩ := DataW.trod_int (k := .i64) (by kernel_rfl) h
  exact ⟨x, h1⟩
theorem point_cells {H : Type} {enc : TypeId × Value → H} {W : World} {held : Bool} {n : Nat} {cs : List Value} {y : DataW H × List MemPlace} (h : DataW.trod enc Try.prog W 0 (fun _ => true) held n 50 cs = some y) (hl : cs.length = 2) : ∃ a b, cs = [.int .i64 a, .int .i64 b] := by
  match cs, hl with
  | [a, b], _ =>
    obtain ⟨y0, y1, n', _, _, h1, h2⟩ := trod_struct2 (Try.underlying50) h
    obtain ⟨x1, e1⟩ := int_cell (cs := [a]) h1
    obtain ⟨x2, e2⟩ := int_cell (cs := [b]) h2
    cases e1
    cases e2
    exact ⟨_, _, rfl⟩
theorem vtx_cells {H : Type} {enc : TypeId × Value → H} {W : World} {held : Bool} {n : Nat} {cs : List Value} {y : DataW H × List MemPlace} (hl : cs.length = 3) (h : DataW.trod enc Try.prog W 0 (fun _ => true) held n 52 cs = some y) : ∃ v : Vtx, RepL NoA W cs (rV v) := by
  match cs, hl with
  | [a, b, c], _ =>
    obtain ⟨y0, y1, n', _, _, h1, h2⟩ := trod_struct2 (Try.underlying52) h
    obtain ⟨x1, e1⟩ := int_cell (cs := [a]) h1
    obtain ⟨x2, x3, e2⟩ := point_cells (cs := [b, c]) h2 rfl
    cases e1
    cases e2
    exact ⟨(x1, x2, x3), RepL.cons (.v _) (RepL.cons (.v _) (RepL.cons (.v _) RepL.nil))⟩
theorem edg_cells {H : Type} {enc : TypeId × Value → H} {W : World} {held : Bool} {n : Nat} {cs : List Value} {y : DataW H × List MemPlace} (hl : cs.length = 3) (h : DataW.trod enc Try.prog W 0 (fun _ => true) held n 55 cs = some y) : ∃ e : Edg, RepL NoA W cs (rE e) := by
  match cs, hl with
  | [a, b, c], _ =>
    obtain ⟨y0, y1, y2, n', _, _, h1, h2, h3⟩ := trod_struct3 (Try.underlying55) h
    obtain ⟨x1, e1⟩ := int_cell (cs := [a]) h1
    obtain ⟨x2, e2⟩ := int_cell (cs := [b]) h2
    obtain ⟨x3, e3⟩ := int_cell (cs := [c]) h3
    cases e1
    cases e2
    cases e3
    exact ⟨(x1, x2, x3), RepL.cons (.v _) (RepL.cons (.v _) (RepL.cons (.v _) RepL.nil))⟩
/-- A plan that came in. -/
theorem plan_in {H : Type} {enc : TypeId × Value → H} {W : World} {held : Bool} {cs : Array Value} {d : DataW H} {ps : List MemPlace} (hl : cs.size = 2) (h : DataW.Trod enc Try.prog W 0 (fun _ => true) held 25 (.agg cs) d ps) :
    ∃ p : Pln, Rep NoA W (.agg cs) (dPl p) := by
  obtain ⟨fuel, h⟩ := h
  obtain ⟨l⟩ := cs
  match l, hl with
  | [a, b], _ =>
    obtain ⟨y0, y1, n', _, _, h1, h2⟩ := trod_struct2 (Try.underlying25) h
    obtain ⟨l1, v1, e1, r1⟩ := rep_slice (e := 52) (k := 3) (by kernel_rfl) (by kernel_rfl) (by decide) rV (fun _ => rfl) (fun n cs' y q1 q2 => vtx_cells q1 q2) (cs := [a]) h1
    obtain ⟨l2, v2, e2, r2⟩ := rep_slice (e := 55) (k := 3) (by kernel_rfl) (by kernel_rfl) (by decide) rE (fun _ => rfl) (fun n cs' y q1 q2 => edg_cells q1 q2) (cs := [b]) h2
    cases e1
    cases e2
    have hL : RepL NoA W [a, b] (rPl (l1, l2)) := RepL.cons r1 (RepL.cons r2 RepL.nil)
    exact ⟨(l1, l2), .agg _ _ hL.1 hL.2⟩

theorem own : ownKnob Try.prog.godebug = none := by kernel_rfl
theorem laidOut : laidOutB Try.prog = true := by kernel_rfl
theorem u8_range {x : Int} (h : (Lit.int .u8 x).wf = true) : 0 ≤ x ∧ x < 256 := by
  simp [Lit.wf, IntKind.min, IntKind.max, IntKind.signed, IntKind.bits] at h
  omega
theorem turns_lifted (os : Os) (started : os.Started) (H : Type) (enc : TypeId × Value → H) :
    ReturnsInHanded {} Try.checked os 3 .any (Rows.auditTurnsSpec.pre6 enc Try.prog Try.f3 Rows.auditTurnsRow.domain false) (Rows.auditTurnsSpec.post enc Try.prog Try.f3 false true false false) := by
  refine returnsInHanded_of_change (C := Try.checked) own started (by kernel_rfl) Try.func3
    (ChangeSpec.witness6 (enc := enc) (C := Try.checked) false ⟨#[], #[.agg #[.slice none 0 0, .slice none 0 0], .int .u8 0, .int .i64 0, .int .i64 0], []⟩ 8 (by kernel_rfl) (by kernel_rfl) (by kernel_rfl) (by kernel_rfl)) ?_
  intro W base args ds gs before hval0 hW hcnd _
  have hval : ∀ (j : Nat) t v, Try.f3.params[j]? = some t → args[j]? = some v → Value.okWide Try.prog W .any base t v := hval0
  have hW' := hW
  obtain ⟨p, q, hA0, hV, rfl, hfz, hnd⟩ := hW
  have hA : DataW.TrodAll enc Try.prog W 0 (fun _ => true) true Try.f3.params.toList args.toList ds p := hA0
  rw [Try.params3] at hA hval
  obtain ⟨v0, v1, v2, v3, d0, d1, d2, d3, p0, p1, p2, p3, rfl, rfl, rfl, h0, h1, h2, h3⟩ := trodAll_four hA
  obtain ⟨rfl, rfl⟩ := trodVars_none hV
  obtain ⟨cs, rfl, hsz⟩ := okWide_struct (Try.underlying25) (hval 0 25 v0 rfl rfl)
  have k0 := h0
  have lt0 : ∀ x ∈ p0, x.block < W.heap.size := by obtain ⟨m, hm⟩ := k0; exact DataW.trod_lt m _ _ _ hm
  obtain ⟨pl, rp⟩ := plan_in (hsz.trans (by kernel_rfl)) h0
  obtain ⟨wh, rfl, rfl, rfl, w1⟩ := open_int (Try.underlying5) (hval 1 5 v1 rfl rfl) h1
  obtain ⟨at', rfl, rfl, rfl, w2⟩ := open_int (Try.underlying3) (hval 2 3 v2 rfl rfl) h2
  obtain ⟨to, rfl, rfl, rfl, w3⟩ := open_int (Try.underlying3) (hval 3 3 v3 rfl rfl) h3
  clear hA0 hval0
  have hrep : RepL NoA W [.agg cs, .int .u8 wh, .int .i64 at', .int .i64 to] [dPl pl, .v (.int .u8 wh), .i at', .i to] := RepL.cons rp (RepL.cons (.v _) (RepL.cons (.v _) (RepL.cons (.v _) RepL.nil)))
  refine (AuditTurns_ok pl wh at' to (u8_range w1) NoA W _ (fun _ h => h.elim) hrep).mono fun e W' ⟨v, he, bel, hv⟩ => ?_
  subst he
  have hv := hv.v_inv
  subst hv
  exact ⟨_, rfl, _, _, _, [], _, [], hW', trodAll_mk1 (shut_bool (Try.underlying4) _), (trodAll_cons_mk (Below.trod laidOut (by kernel_rfl) (of_decide_eq_true (by kernel_rfl)) k0 bel.toBelow lt0) (trodAll_cons_mk (shut_int (Try.underlying5) w1) (trodAll_cons_mk (shut_int (Try.underlying3) w2) (trodAll_cons_mk (shut_int (Try.underlying3) w3) trodAll_mk0)))), rfl, bel.toBelow.frame _, fun h => by cases h⟩
/-- The statement. -/
theorem auditTurns_proved : Rows.AuditTurnsSaid :=
  OpenClaim.holds_of_wide 3 Try.f3 rfl rfl rfl rfl rfl rfl rfl ⟨rfl, rfl, rfl, rfl, rfl⟩ rfl rfl rfl rfl rfl (by kernel_rfl) Try.func3 (by kernel_rfl)
    (of_decide_eq_true (by kernel_rfl)) (by unfold Func.isWrapper; first | (rw [if_pos (by decide +kernel)]; kernel_rfl) | (rw [if_neg (by decide +kernel)]; exact ⟨rfl, rfl⟩))
    (fun os started H enc _ => turns_lifted os started H enc)
#print axioms auditTurns_proved
end Go.Proofs.Ytcdakcemcehfiaa
