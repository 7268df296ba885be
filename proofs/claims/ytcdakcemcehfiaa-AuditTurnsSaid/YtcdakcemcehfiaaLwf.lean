/- The plain law, part f: what follows what is a turn of all halves among each other. -/
import Derived.Test.YtcdakcemcehfiaaLwe
namespace Go.Proofs.Ytcdakcemcehfiaa
open Go

theorem sTwin_twin (h : Hlf) : sTwin (sTwin h) = h := by simp [sTwin]
theorem sNx_fst (l : List Hlf) : (sNx l).map (·.1) = l.map sTwin := by
  unfold sNx
  rw [List.map_map]
  apply List.ext_getElem
  · simp
  · intro i h1 h2
    have hi : i < l.length := by simpa using h2
    simp [sNxi, List.getD_eq_getElem?_getD, hi]
theorem sNx_snd (l : List Hlf) : ((sNx l).map (·.2)).Perm l := by
  cases hl : l with
  | nil => exact .refl _
  | cons a l' =>
    rw [← hl]
    have hne : l ≠ [] := by rw [hl]; simp
    have hn : 0 < l.length := List.length_pos_iff.2 hne
    have key : (sNx l).map (·.2) = l.getLast hne :: l.dropLast := by
      unfold sNx
      rw [List.map_map]
      apply List.ext_getElem
      · simp; omega
      · intro i h1 h2
        have hi : i < l.length := by simpa using h1
        cases i with
        | zero =>
          have e : (0 + l.length - 1) % l.length = l.length - 1 := by rw [Nat.mod_eq_of_lt (by omega)]; omega
          simp only [List.getElem_map, List.getElem_range, Function.comp_apply, sNxi, e, List.getElem_cons_zero, List.getD_eq_getElem?_getD]
          rw [List.getElem?_eq_getElem (by omega), Option.getD_some, List.getLast_eq_getElem]
        | succ i =>
          have e : (i + 1 + l.length - 1) % l.length = i := by rw [show i + 1 + l.length - 1 = i + l.length by omega, Nat.add_mod_right, Nat.mod_eq_of_lt (by omega)]
          simp only [List.getElem_map, List.getElem_range, Function.comp_apply, sNxi, e, List.getElem_cons_succ, List.getD_eq_getElem?_getD]
          rw [List.getElem?_eq_getElem (by omega), Option.getD_some, List.getElem_dropLast]
    rw [key]
    have := List.dropLast_concat_getLast hne
    refine List.Perm.trans ?_ (.of_eq this)
    exact (List.perm_append_comm (l₁ := [l.getLast hne]) (l₂ := l.dropLast))
theorem flat_perm {α β : Type} {f g : α → List β} : ∀ {l : List α}, (∀ a ∈ l, (f a).Perm (g a)) → (l.flatMap f).Perm (l.flatMap g)
  | [], _ => .refl _
  | a :: l, h => by
    simp only [List.flatMap_cons]
    exact (h a (by simp)).append (flat_perm fun x hx => h x (List.mem_cons_of_mem _ hx))
theorem sRow_perm (at_ : List (Int × Vtx)) (fr : List (Hlf × Int)) (x : Int × List Hlf) : (sRow at_ fr x).Perm x.2 := List.mergeSort_perm _ _
theorem sNext_snd (p : Pln) : ((sNext p).map (·.2)).Perm ((sFO ([], []) p.2).2.flatMap (·.2)) := by
  unfold sNext
  rw [List.map_flatMap]
  exact flat_perm fun x _ => (sNx_snd _).trans (sRow_perm _ _ x)
theorem sNext_fst (p : Pln) : ((sNext p).map (·.1)).Perm (((sFO ([], []) p.2).2.flatMap (·.2)).map sTwin) := by
  unfold sNext
  rw [List.map_flatMap, List.map_flatMap]
  refine flat_perm fun x _ => ?_
  rw [sNx_fst]
  exact (sRow_perm _ _ x).map _

/-- A turn of halves among each other. -/
structure NOk (U : List Hlf) (N : Hlf → Hlf) : Prop where
  mem : ∀ h ∈ U, N h ∈ U
  ne : ∀ h ∈ U, N h ≠ h
  inj : ∀ h ∈ U, ∀ g ∈ U, N h = N g → h = g
theorem nodup_snd {α β : Type} {l : List (α × β)} (h : (l.map (·.2)).Nodup) {a b : α} {v : β} (ha : (a, v) ∈ l) (hb : (b, v) ∈ l) : a = b := by
  induction l with
  | nil => simp at ha
  | cons x l ih =>
    rw [List.map_cons, List.nodup_cons] at h
    rcases List.mem_cons.1 ha with ea | ha'
    · rcases List.mem_cons.1 hb with eb | hb'
      · exact congrArg Prod.fst (ea.trans eb.symm)
      · exact absurd (List.mem_map.2 ⟨_, hb', by rw [← ea]⟩) h.1
    · rcases List.mem_cons.1 hb with eb | hb'
      · exact absurd (List.mem_map.2 ⟨_, ha', by rw [← eb]⟩) h.1
      · exact ih h.2 ha' hb'
theorem twin_inj : Function.Injective sTwin := fun a b h => by rw [← sTwin_twin a, h, sTwin_twin]
theorem nodup_map {α β : Type} {f : α → β} (hf : Function.Injective f) : ∀ {l : List α}, l.Nodup → (l.map f).Nodup
  | [], _ => List.Pairwise.nil
  | a :: l, h => by
    rw [List.nodup_cons] at h
    rw [List.map_cons, List.nodup_cons]
    refine ⟨fun hm => ?_, nodup_map hf h.2⟩
    obtain ⟨b, hb, e⟩ := List.mem_map.1 hm
    exact h.1 (hf e ▸ hb)
theorem twin_mem {es : List Edg} {h : Hlf} (hh : h ∈ hvs es) : sTwin h ∈ hvs es := by
  obtain ⟨e, he, hx⟩ := List.mem_flatMap.1 hh
  refine List.mem_flatMap.2 ⟨e, he, ?_⟩
  simp only [List.mem_cons, List.not_mem_nil, or_false] at hx
  rcases hx with rfl | rfl <;> simp [sTwin]
theorem next_ok {p : Pln} (hp : POk p) : NOk (hvs p.2) (sNxt (sNext p)) := by
  have hF := sFO_right hp
  have hnd : (hvs p.2).Nodup := hvs_nodup (hp.elt.imp fun h => h.1)
  have hk : ((sNext p).map (·.1)).Nodup := (sNext_fst p).nodup_iff.2 (nodup_map twin_inj (hF.all.nodup_iff.2 hnd))
  have hv : ((sNext p).map (·.2)).Nodup := (sNext_snd p).nodup_iff.2 (hF.all.nodup_iff.2 hnd)
  have get : ∀ h ∈ hvs p.2, (h, sNxt (sNext p) h) ∈ sNext p := by
    intro h hh
    have h1 : h ∈ (sNext p).map (·.1) := by
      refine (sNext_fst p).mem_iff.2 (List.mem_map.2 ⟨sTwin h, hF.all.mem_iff.2 (twin_mem hh), sTwin_twin h⟩)
    obtain ⟨x, hx, rfl⟩ := List.mem_map.1 h1
    have := (mget_mem hk).2 (show (x.1, x.2) ∈ sNext p from hx)
    unfold sNxt
    rw [this]
    exact hx
  refine ⟨fun h hh => ?_, fun h hh e => ?_, fun h hh g hg e => ?_⟩
  · exact hF.all.mem_iff.1 ((sNext_snd p).mem_iff.1 (List.mem_map.2 ⟨_, get h hh, rfl⟩))
  · have hx := get h hh
    rw [e] at hx
    unfold sNext at hx
    obtain ⟨x, hxo, hx⟩ := List.mem_flatMap.1 hx
    have hperm := sRow_perm (sAt [] p.1) (sFO ([], []) p.2).1 x
    have m1 : h ∈ x.2 := hperm.mem_iff.1 ((sNx_snd _).mem_iff.1 (List.mem_map.2 ⟨_, hx, rfl⟩))
    have m2 : h ∈ (sRow (sAt [] p.1) (sFO ([], []) p.2).1 x).map sTwin := by
      rw [← sNx_fst]
      exact List.mem_map.2 ⟨_, hx, rfl⟩
    obtain ⟨g, hg, eg⟩ := List.mem_map.1 m2
    have m3 : g ∈ x.2 := hperm.mem_iff.1 hg
    obtain ⟨a, ha, a1, a2⟩ := (hF.out x hxo).2 h m1
    obtain ⟨b, hb, b1, b2⟩ := (hF.out x hxo).2 g m3
    have e1 : h.1 = g.1 := by rw [← eg]; rfl
    have e2 : h.2 = !g.2 := by rw [← eg]; rfl
    have : a = b := hp.eid ha hb (by rw [← a1, e1, b1])
    subst this
    have hne := (hp.epo a ha).2
    rw [e2, ← b2] at a2
    unfold st at a2
    cases hb3 : g.2 <;> rw [hb3] at a2 <;> simp at a2 <;> omega
  · have h1 := get h hh
    rw [e] at h1
    exact nodup_snd hv h1 (get g hg)
end Go.Proofs.Ytcdakcemcehfiaa
