/- The plain law, part c: what holds of a right plan. -/
import Derived.Test.YtcdakcemcehfiaaLwb
namespace Go.Proofs.Ytcdakcemcehfiaa
open Go

theorem fold_get {α β : Type} (kf : α → Int) (vf : α → β) : ∀ (l : List α) (m : List (Int × β)), l.Pairwise (fun a b => kf a ≠ kf b) →
    (∀ x ∈ l, mget (kf x) (l.foldl (fun m v => mset (kf v) (vf v) m) m) = some (vf x)) ∧ ∀ id, (∀ x ∈ l, kf x ≠ id) → mget id (l.foldl (fun m v => mset (kf v) (vf v) m) m) = mget id m
  | [], m, _ => ⟨fun x hx => by simp at hx, fun _ _ => rfl⟩
  | v :: l, m, h => by
    obtain ⟨h1, h2⟩ := List.pairwise_cons.1 h
    obtain ⟨i1, i2⟩ := fold_get kf vf l (mset (kf v) (vf v) m) h2
    simp only [List.foldl_cons]
    refine ⟨fun x hx => ?_, fun id hid => ?_⟩
    · rcases List.mem_cons.1 hx with rfl | hx
      · rw [i2 _ fun y hy => (h1 y hy).symm, mget_mset, if_pos rfl]
      · exact i1 x hx
    · rw [i2 id fun y hy => hid y (List.mem_cons_of_mem _ hy), mget_mset, if_neg (fun e => hid v (by simp) e.symm)]

theorem pRv_ok : ∀ (vs : List Vtx) (last : Int) (at_ : List (Int × Pt)) (met : List (Pt × Bool)) (at' : List (Int × Pt)), pRv last at_ met vs = some at' →
    at' = pAt at_ vs ∧ (∀ v ∈ vs, last < v.1 ∧ gIn v.2 = true ∧ (mget v.2 met).getD false = false) ∧ vs.Pairwise (fun a b => a.1 < b.1 ∧ a.2 ≠ b.2)
  | [], last, at_, met, at', h => by
    simp only [pRv, Option.some.injEq] at h
    exact ⟨h.symm, fun v hv => by simp at hv, List.Pairwise.nil⟩
  | v :: vs, last, at_, met, at', h => by
    rw [pRv] at h
    split at h
    · cases h
    · rename_i hc
      have hc : ((decide (v.1 ≤ last) || !gIn v.2) || (mget v.2 met).getD false) = false := by simpa using hc
      simp only [Bool.or_eq_false_iff, decide_eq_false_iff_not, Bool.not_eq_false'] at hc
      obtain ⟨i1, i2, i3⟩ := pRv_ok vs _ _ _ _ h
      refine ⟨i1, fun w hw => ?_, List.pairwise_cons.2 ⟨fun w hw => ?_, i3⟩⟩
      · rcases List.mem_cons.1 hw with rfl | hw
        · exact ⟨by omega, hc.1.2, hc.2⟩
        · obtain ⟨j1, j2, j3⟩ := i2 w hw
          refine ⟨by omega, j2, ?_⟩
          rw [mget_mset] at j3
          split at j3
          · simp at j3
          · exact j3
      · obtain ⟨j1, j2, j3⟩ := i2 w hw
        refine ⟨j1, fun e => ?_⟩
        rw [mget_mset, if_pos e.symm] at j3
        simp at j3
theorem pRe_ok (p : Pln) (at_ : List (Int × Pt)) : ∀ (es : List Edg) (k : Nat) (last : Int) (pairs : List ((Int × Int) × Bool)), pRe p at_ k last pairs es = true →
    (∀ e ∈ es, last < e.1 ∧ (mget e.2.1 at_).isSome = true ∧ (mget e.2.2 at_).isSome = true ∧ e.2.1 ≠ e.2.2 ∧ (mget (pEnds e) pairs).getD false = false ∧ pOnWay p (pPt at_ e.2.1) (pPt at_ e.2.2) = false) ∧ es.Pairwise (fun a b => a.1 < b.1 ∧ pEnds a ≠ pEnds b)
  | [], k, last, pairs, h => ⟨fun e he => by simp at he, List.Pairwise.nil⟩
  | e :: es, k, last, pairs, h => by
    rw [pRe] at h
    split at h
    · cases h
    · rename_i hc
      have hc : pEbad p at_ last pairs e = false := by simpa using hc
      unfold pEbad at hc
      simp only [Bool.or_eq_false_iff, decide_eq_false_iff_not, Bool.not_eq_false', beq_eq_false_iff_ne] at hc
      split at h
      · cases h
      · obtain ⟨i1, i2⟩ := pRe_ok p at_ es _ _ _ h
        refine ⟨fun w hw => ?_, List.pairwise_cons.2 ⟨fun w hw => ?_, i2⟩⟩
        · rcases List.mem_cons.1 hw with rfl | hw
          · exact ⟨by omega, hc.1.1.1.1.2, hc.1.1.1.2, hc.1.1.2, hc.1.2, hc.2⟩
          · obtain ⟨j1, j2, j3, j4, j5, j6⟩ := i1 w hw
            refine ⟨by omega, j2, j3, j4, ?_, j6⟩
            rw [mget_mset] at j5
            split at j5
            · simp at j5
            · exact j5
        · obtain ⟨j1, j2, j3, j4, j5, j6⟩ := i1 w hw
          refine ⟨j1, fun e => ?_⟩
          rw [mget_mset, if_pos e.symm] at j5
          simp at j5

/-- Of a right plan. -/
structure POk (p : Pln) : Prop where
  vlt : p.1.Pairwise fun a b => a.1 < b.1 ∧ a.2 ≠ b.2
  vin : ∀ v ∈ p.1, 0 < v.1 ∧ gIn v.2 = true
  elt : p.2.Pairwise fun a b => a.1 < b.1 ∧ pEnds a ≠ pEnds b
  epo : ∀ e ∈ p.2, 0 < e.1 ∧ e.2.1 ≠ e.2.2
  een : ∀ e ∈ p.2, ∃ a ∈ p.1, ∃ b ∈ p.1, a.1 = e.2.1 ∧ b.1 = e.2.2 ∧ ∀ v ∈ p.1, gOn v.2 a.2 b.2 = false
theorem pRight_ok {p : Pln} (h : pRight p = true) : POk p := by
  unfold pRight at h
  split at h
  · cases h
  · split at h
    · cases h
    · rename_i at_ hv
      obtain ⟨a1, a2, a3⟩ := pRv_ok _ _ _ _ _ hv
      obtain ⟨b1, b2⟩ := pRe_ok p at_ _ _ _ _ h
      have hne : p.1.Pairwise (fun a b => a.1 ≠ b.1) := a3.imp fun h => by omega
      obtain ⟨c1, c2⟩ := fold_get (fun v : Vtx => v.1) (fun v => v.2) p.1 [] hne
      have hmem : ∀ id, (mget id at_).isSome = true → ∃ a ∈ p.1, a.1 = id ∧ pPt at_ id = a.2 := by
        intro id hs
        by_cases hx : ∃ a ∈ p.1, a.1 = id
        · obtain ⟨a, ha, rfl⟩ := hx
          refine ⟨a, ha, rfl, ?_⟩
          unfold pPt
          rw [a1]
          have := c1 a ha
          unfold pAt
          rw [this]
          rfl
        · have := c2 id fun x hx' e => hx ⟨x, hx', e⟩
          rw [a1] at hs
          unfold pAt at hs
          rw [this] at hs
          simp [mget] at hs
      refine ⟨a3, fun v hv => ⟨(a2 v hv).1, (a2 v hv).2.1⟩, b2, fun e he => ⟨(b1 e he).1, (b1 e he).2.2.2.1⟩, fun e he => ?_⟩
      obtain ⟨j1, j2, j3, j4, j5, j6⟩ := b1 e he
      obtain ⟨a, ha, ea, pa⟩ := hmem _ j2
      obtain ⟨b, hb, eb, pb⟩ := hmem _ j3
      refine ⟨a, ha, b, hb, ea, eb, fun v hv => ?_⟩
      rw [pa, pb] at j6
      unfold pOnWay at j6
      have := List.any_eq_false.1 j6 v hv
      simpa using this
end Go.Proofs.Ytcdakcemcehfiaa
