/- The plain law, part d: of a right plan, what leaves a vertex stands in an order. -/
import Derived.Test.YtcdakcemcehfiaaLwc
namespace Go.Proofs.Ytcdakcemcehfiaa
open Go

theorem pw_or {α : Type} {R : α → α → Prop} : ∀ {l : List α}, l.Pairwise R → ∀ {a b : α}, a ∈ l → b ∈ l → a = b ∨ R a b ∨ R b a
  | [], _, a, b, h, _ => by simp at h
  | x :: l, h, a, b, ha, hb => by
    obtain ⟨h1, h2⟩ := List.pairwise_cons.1 h
    rcases List.mem_cons.1 ha with ea | ha'
    · rcases List.mem_cons.1 hb with eb | hb'
      · exact .inl (ea.trans eb.symm)
      · rw [ea]; exact .inr (.inl (h1 b hb'))
    · rcases List.mem_cons.1 hb with eb | hb'
      · rw [eb]; exact .inr (.inr (h1 a ha'))
      · exact pw_or h2 ha' hb'
theorem POk.vid {p : Pln} (hp : POk p) {a b : Vtx} (ha : a ∈ p.1) (hb : b ∈ p.1) (e : a.1 = b.1) : a = b := by
  rcases pw_or hp.vlt ha hb with h | h | h
  · exact h
  · omega
  · omega
theorem POk.vpos {p : Pln} (hp : POk p) {a b : Vtx} (ha : a ∈ p.1) (hb : b ∈ p.1) (e : a.2 = b.2) : a = b := by
  rcases pw_or hp.vlt ha hb with h | h | h
  · exact h
  · exact absurd e h.2
  · exact absurd e.symm h.2
theorem POk.eid {p : Pln} (hp : POk p) {a b : Edg} (ha : a ∈ p.2) (hb : b ∈ p.2) (e : a.1 = b.1) : a = b := by
  rcases pw_or hp.elt ha hb with h | h | h
  · exact h
  · omega
  · omega
theorem POk.eends {p : Pln} (hp : POk p) {a b : Edg} (ha : a ∈ p.2) (hb : b ∈ p.2) (e : pEnds a = pEnds b) : a = b := by
  rcases pw_or hp.elt ha hb with h | h | h
  · exact h
  · exact absurd e h.2
  · exact absurd e.symm h.2
theorem POk.sAt_get {p : Pln} (hp : POk p) {v : Vtx} (hv : v ∈ p.1) : mget v.1 (sAt [] p.1) = some v :=
  (fold_get (fun v : Vtx => v.1) (fun v => v) p.1 [] (hp.vlt.imp fun h => by omega)).1 v hv

/-- Whence an edge's half goes. -/
def st (e : Edg) (b : Bool) : Int := if b then e.2.2 else e.2.1
theorem mget_sFr (fr : List (Hlf × Int)) (e : Edg) (b : Bool) (h : Hlf) : mget h (sFr fr e b) = if h = (e.1, b) then some (st e b) else mget h fr := by
  unfold sFr st
  cases b
  · simp only [Bool.false_eq_true, if_false]
    rw [mget_mset]
  · simp only [if_true]
    rw [mget_mset]
    split
    · rfl
    · rename_i hne
      rw [mget_mset, if_neg hne]
theorem sKey_st (fr : List (Hlf × Int)) (e : Edg) (b : Bool) : sKey fr e b = st e b := by
  unfold sKey
  rw [mget_sFr, if_pos rfl]
  rfl
theorem mset_flat (key : Int) (h : Hlf) : ∀ m : List (Int × List Hlf), ((mset key ((mget key m).getD [] ++ [h]) m).flatMap (·.2)).Perm (m.flatMap (·.2) ++ [h])
  | [] => by simp [mset, mget]
  | (k, l) :: m => by
    by_cases e : k = key
    · subst e
      simp only [mset, mget, if_true, List.flatMap_cons, Option.getD_some]
      rw [List.append_assoc, List.append_assoc]
      exact (List.perm_append_comm).append_left l
    · have ih := mset_flat key h m
      have e' : ¬ key = k := fun h => e h.symm
      have e1 : mget key ((k, l) :: m) = mget key m := by simp [mget, e']
      have e2 : ∀ v, mset key v ((k, l) :: m) = (k, l) :: mset key v m := fun v => by simp [mset, e']
      rw [e1, e2]
      simp only [List.flatMap_cons, List.append_assoc]
      exact ih.append_left l

/-- What turn has, after some edges. -/
structure FOk (es : List Edg) (s : FO) : Prop where
  fr : ∀ e ∈ es, ∀ b, mget (e.1, b) s.1 = some (st e b)
  out : ∀ x ∈ s.2, x.2 ≠ [] ∧ ∀ h ∈ x.2, ∃ e ∈ es, h.1 = e.1 ∧ st e h.2 = x.1
  all : (s.2.flatMap (·.2)).Perm (hvs es)
theorem sFO_ok : ∀ (es done : List Edg) (s : FO), (∀ e ∈ done, ∀ f ∈ es, e.1 < f.1) → es.Pairwise (fun a b => a.1 < b.1) → FOk done s → FOk (done ++ es) (sFO s es)
  | [], done, s, _, _, h => by simpa [sFO] using h
  | e :: es, done, s, h1, h2, h => by
    obtain ⟨h3, h4⟩ := List.pairwise_cons.1 h2
    have key : FOk (done ++ [e]) (sOne (sOne s e false) e true) := by
      have hlt : ∀ f ∈ done, f.1 ≠ e.1 := fun f hf => by have := h1 f hf e (by simp); omega
      have g : ∀ hh, mget hh (sOne (sOne s e false) e true).1 = if hh = (e.1, true) then some (st e true) else if hh = (e.1, false) then some (st e false) else mget hh s.1 := by
        intro hh
        show mget hh (sFr (sFr s.1 e false) e true) = _
        rw [mget_sFr, mget_sFr]
      have o1 : (sOne s e false).2 = mset (st e false) ((mget (st e false) s.2).getD [] ++ [(e.1, false)]) s.2 := by
        show mset (sKey s.1 e false) ((mget (sKey s.1 e false) s.2).getD [] ++ [(e.1, false)]) s.2 = _
        rw [sKey_st]
      have o2 : (sOne (sOne s e false) e true).2 = mset (st e true) ((mget (st e true) (sOne s e false).2).getD [] ++ [(e.1, true)]) (sOne s e false).2 := by
        show mset (sKey (sOne s e false).1 e true) ((mget (sKey (sOne s e false).1 e true) (sOne s e false).2).getD [] ++ [(e.1, true)]) (sOne s e false).2 = _
        rw [sKey_st]
      have step : ∀ (m : List (Int × List Hlf)) (b : Bool), (∀ x ∈ m, x.2 ≠ [] ∧ ∀ h ∈ x.2, ∃ f ∈ done ++ [e], h.1 = f.1 ∧ st f h.2 = x.1) →
          ∀ x ∈ mset (st e b) ((mget (st e b) m).getD [] ++ [(e.1, b)]) m, x.2 ≠ [] ∧ ∀ h ∈ x.2, ∃ f ∈ done ++ [e], h.1 = f.1 ∧ st f h.2 = x.1 := by
        intro m b hm x hx
        rcases mset_mem hx with rfl | hx
        · refine ⟨by simp, fun h hh => ?_⟩
          rcases List.mem_append.1 hh with hh | hh
          · cases hg : mget (st e b) m with
            | none => rw [hg] at hh; simp at hh
            | some l =>
              rw [hg] at hh
              exact (hm _ (mget_in hg)).2 h hh
          · rw [List.mem_singleton.1 hh]
            exact ⟨e, by simp, rfl, rfl⟩
        · exact hm x hx
      have b0 : ∀ x ∈ s.2, x.2 ≠ [] ∧ ∀ h ∈ x.2, ∃ f ∈ done ++ [e], h.1 = f.1 ∧ st f h.2 = x.1 := fun x hx => ⟨(h.out x hx).1, fun hh hhx => by
        obtain ⟨f, hf, e1, e2⟩ := (h.out x hx).2 hh hhx
        exact ⟨f, List.mem_append_left _ hf, e1, e2⟩⟩
      refine ⟨fun f hf b => ?_, ?_, ?_⟩
      · rw [g]
        rcases List.mem_append.1 hf with hf | hf
        · have := hlt f hf
          rw [if_neg (fun e1 : (f.1, b) = (e.1, true) => this (Prod.mk.inj e1).1), if_neg (fun e1 : (f.1, b) = (e.1, false) => this (Prod.mk.inj e1).1)]
          exact h.fr f hf b
        · rw [List.mem_singleton.1 hf]
          cases b <;> simp
      · rw [o2]
        refine step _ true ?_
        rw [o1]
        exact step _ false b0
      · rw [o2]
        refine (mset_flat _ _ _).trans ?_
        rw [o1]
        refine ((mset_flat _ _ _).append_right _).trans ?_
        refine ((h.all.append_right _).append_right _).trans ?_
        simp [hvs]
    have := sFO_ok es (done ++ [e]) _ (fun a ha f hf => by
      rcases List.mem_append.1 ha with ha | ha
      · exact h1 a ha f (List.mem_cons_of_mem _ hf)
      · rw [List.mem_singleton.1 ha]; exact h3 f hf) h4 key
    rw [List.append_assoc] at this
    exact this
theorem sFO_right {p : Pln} (hp : POk p) : FOk p.2 (sFO ([], []) p.2) :=
  sFO_ok p.2 [] _ (fun _ h => by simp at h) (hp.elt.imp fun h => h.1) ⟨fun _ h => by simp at h, fun _ h => by simp at h, by simp [hvs]⟩
theorem hvs_nodup : ∀ {es : List Edg}, es.Pairwise (fun a b => a.1 < b.1) → (hvs es).Nodup
  | [], _ => List.Pairwise.nil
  | e :: es, h => by
    obtain ⟨h1, h2⟩ := List.pairwise_cons.1 h
    have ih := hvs_nodup h2
    have hm : ∀ x ∈ hvs es, e.1 < x.1 := fun x hx => by
      obtain ⟨f, hf, hx⟩ := List.mem_flatMap.1 hx
      have := h1 f hf
      simp only [List.mem_cons, List.not_mem_nil, or_false] at hx
      rcases hx with rfl | rfl <;> exact this
    show ([(e.1, false), (e.1, true)] ++ hvs es).Nodup
    refine List.nodup_append.2 ⟨by simp, ih, fun a ha b hb e1 => ?_⟩
    subst e1
    have := hm a hb
    simp only [List.mem_cons, List.not_mem_nil, or_false] at ha
    rcases ha with rfl | rfl <;> simp at this

/-- A half that leaves: its edge, and the vertices. -/
theorem half_at {p : Pln} (hp : POk p) {x : Int × List Hlf} (hx : x ∈ (sFO ([], []) p.2).2) {h : Hlf} (hh : h ∈ x.2) :
    ∃ e ∈ p.2, ∃ c ∈ p.1, ∃ t ∈ p.1, h.1 = e.1 ∧ st e h.2 = x.1 ∧ c.1 = x.1 ∧ t.1 = st e (!h.2) ∧ sEnd (sAt [] p.1) (sFO ([], []) p.2).1 h = t.2 ∧ sCen (sAt [] p.1) x.1 = c.2 ∧ (∀ v ∈ p.1, gOn v.2 c.2 t.2 = false ∨ gOn v.2 t.2 c.2 = false) := by
  have hF := sFO_right hp
  obtain ⟨e, he, e1, e2⟩ := (hF.out x hx).2 h hh
  obtain ⟨a, ha, b, hb, ea, eb, hw⟩ := hp.een e he
  have hE : ∀ t ∈ p.1, t.1 = st e (!h.2) → sEnd (sAt [] p.1) (sFO ([], []) p.2).1 h = t.2 := by
    intro t ht e3
    unfold sEnd sTwin
    rw [e1, hF.fr e he, Option.getD_some, ← e3, hp.sAt_get ht]
    rfl
  have hC : ∀ c ∈ p.1, c.1 = x.1 → sCen (sAt [] p.1) x.1 = c.2 := by
    intro c hc e3
    unfold sCen
    rw [← e3, hp.sAt_get hc]
    rfl
  cases hb2 : h.2 with
  | false =>
    rw [hb2] at e2 hE
    have e3 : a.1 = x.1 := by rw [ea, ← e2]; rfl
    have e4 : b.1 = st e true := by rw [eb]; rfl
    exact ⟨e, he, a, ha, b, hb, e1, e2, e3, e4, hE b hb e4, hC a ha e3, fun v hv => .inl (hw v hv)⟩
  | true =>
    rw [hb2] at e2 hE
    have e3 : b.1 = x.1 := by rw [eb, ← e2]; rfl
    have e4 : a.1 = st e false := by rw [ea]; rfl
    exact ⟨e, he, b, hb, a, ha, e1, e2, e3, e4, hE a ha e4, hC b hb e3, fun v hv => .inr (hw v hv)⟩
theorem pEnds_swap {e f : Edg} (h : (e.2.1 = f.2.1 ∧ e.2.2 = f.2.2) ∨ (e.2.1 = f.2.2 ∧ e.2.2 = f.2.1)) : pEnds e = pEnds f := by
  unfold pEnds
  rcases h with ⟨h1, h2⟩ | ⟨h1, h2⟩
  · rw [h1, h2]
  · rw [h1, h2]
    refine Prod.ext ?_ ?_
    · show (if f.2.1 < f.2.2 then f.2.1 else f.2.2) = if f.2.2 < f.2.1 then f.2.2 else f.2.1
      split <;> split <;> omega
    · show (if f.2.2 < f.2.1 then f.2.1 else f.2.2) = if f.2.1 < f.2.2 then f.2.2 else f.2.1
      split <;> split <;> omega
theorem tok_right (p : Pln) (h : pRight p = true) : TOk p := by
  have hp := pRight_ok h
  have hF := sFO_right hp
  refine ⟨fun x hx => ?_, hF.all.nodup_iff.2 (hvs_nodup (hp.elt.imp fun h => h.1)), fun x hx => (hF.out x hx).1⟩
  have hcen : ∃ c ∈ p.1, c.1 = x.1 := by
    obtain ⟨h0, hh0⟩ := List.exists_mem_of_ne_nil _ (hF.out x hx).1
    obtain ⟨e, he, c, hc, t, ht, q⟩ := half_at hp hx hh0
    exact ⟨c, hc, q.2.2.1⟩
  obtain ⟨c, hc, hcx⟩ := hcen
  have hgc := (hp.vin c hc).2
  have at_ : ∀ h ∈ x.2, ∃ e ∈ p.2, ∃ t ∈ p.1, h.1 = e.1 ∧ st e h.2 = x.1 ∧ t.1 = st e (!h.2) ∧ sEnd (sAt [] p.1) (sFO ([], []) p.2).1 h = t.2 ∧ Rnd c.2 t.2 ∧ (∀ v ∈ p.1, gOn v.2 c.2 t.2 = false ∨ gOn v.2 t.2 c.2 = false) := by
    intro h hh
    obtain ⟨e, he, c', hc', t, ht, q1, q2, q3, q4, q5, q6, q7⟩ := half_at hp hx hh
    have : c' = c := hp.vid hc' hc (by rw [q3, hcx])
    subst this
    refine ⟨e, he, t, ht, q1, q2, q4, q5, ⟨(hp.vin t ht).2, fun e1 => ?_⟩, q7⟩
    have := hp.vpos ht hc e1
    have h1 := (hp.epo e he).2
    rw [this, q3, ← q2] at q4
    unfold st at q4
    cases hb : h.2 <;> rw [hb] at q4 <;> simp at q4 <;> omega
  have hCen : sCen (sAt [] p.1) x.1 = c.2 := by
    unfold sCen
    rw [← hcx, hp.sAt_get hc]
    rfl
  rw [hCen]
  refine ⟨fun a ha => ?_, fun a ha b hb d hd h1 h2 => ?_, fun a ha b hb d hd h1 h2 => ?_, fun a ha b hb h1 h2 => ?_⟩
  · obtain ⟨_, _, t, ht, _, _, _, q, hr, _⟩ := at_ a ha
    unfold sLt
    rw [q]
    simpa using around_irr hgc hr
  · obtain ⟨_, _, t, ht, _, _, _, q, hr, _⟩ := at_ a ha
    obtain ⟨_, _, t2, ht2, _, _, _, q2, hr2, _⟩ := at_ b hb
    obtain ⟨_, _, t3, ht3, _, _, _, q3, hr3, _⟩ := at_ d hd
    unfold sLt at h1 h2 ⊢
    rw [q, q2] at h1
    rw [q2, q3] at h2
    rw [q, q3]
    exact decide_eq_true (around_tra hgc hr hr2 hr3 (of_decide_eq_true h1) (of_decide_eq_true h2))
  · obtain ⟨_, _, t, ht, _, _, _, q, hr, _⟩ := at_ a ha
    obtain ⟨_, _, t2, ht2, _, _, _, q2, hr2, _⟩ := at_ b hb
    obtain ⟨_, _, t3, ht3, _, _, _, q3, hr3, _⟩ := at_ d hd
    unfold sLt at h1 h2 ⊢
    rw [q, q2] at h1
    rw [q2, q3] at h2
    rw [q, q3]
    exact decide_eq_false (around_ntr hgc hr hr2 hr3 (of_decide_eq_false h1) (of_decide_eq_false h2))
  · obtain ⟨e, he, t, ht, w1, w2, w3, q, hr, hw⟩ := at_ a ha
    obtain ⟨f, hf, t2, ht2, y1, y2, y3, q2, hr2, hw2⟩ := at_ b hb
    unfold sLt at h1 h2
    rw [q, q2] at h1
    rw [q2, q] at h2
    rcases around_tot hgc hr hr2 (of_decide_eq_false h1) (of_decide_eq_false h2) with h3 | h3 | h3
    · have h4 := hp.vpos ht ht2 h3
      subst h4
      have hne := (hp.epo e he).2
      have hef : e = f := by
        refine hp.eends he hf (pEnds_swap ?_)
        unfold st at w2 w3 y2 y3
        cases ha2 : a.2 <;> cases hb2 : b.2 <;> simp [ha2, hb2] at w2 w3 y2 y3 <;> omega
      subst hef
      refine Prod.ext (by rw [w1, y1]) ?_
      unfold st at w2 y2
      cases ha2 : a.2 <;> cases hb2 : b.2 <;> simp [ha2, hb2] at w2 y2 <;> first | rfl | omega
    · rcases hw2 t ht with h | h
      · rw [h3.1] at h; cases h
      · rw [h3.2] at h; cases h
    · rcases hw t2 ht2 with h | h
      · rw [h3.1] at h; cases h
      · rw [h3.2] at h; cases h
end Go.Proofs.Ytcdakcemcehfiaa
