/- The plain law, part g: rings. -/
import Derived.Test.YtcdakcemcehfiaaLwf
namespace Go.Proofs.Ytcdakcemcehfiaa
open Go

theorem pigeon {α : Type} [DecidableEq α] : ∀ {l1 l2 : List α}, l1.Nodup → (∀ x ∈ l1, x ∈ l2) → l2.length ≤ l1.length → ∀ y ∈ l2, y ∈ l1
  | [], l2, _, _, h, y, hy => by
    have : l2 = [] := List.eq_nil_of_length_eq_zero (by simpa using h)
    rw [this] at hy; exact hy
  | a :: t, l2, hn, hs, h, y, hy => by
    rw [List.nodup_cons] at hn
    have ha : a ∈ l2 := hs a (by simp)
    by_cases e : y = a
    · rw [e]; simp
    · refine List.mem_cons_of_mem _ (pigeon (l2 := l2.erase a) hn.2 (fun x hx => ?_) ?_ y ?_)
      · exact (List.mem_erase_of_ne (fun e' : x = a => hn.1 (by rw [← e']; exact hx))).2 (hs x (List.mem_cons_of_mem _ hx))
      · rw [List.length_erase_of_mem ha]
        simp only [List.length_cons] at h
        omega
      · exact (List.mem_erase_of_ne e).2 hy

theorem sRing_met {U : List Hlf} {nx : List (Hlf × Hlf)} (hN : NOk U (sNxt nx)) : ∀ (n : Nat) (met : Met) (h : Hlf), h ∈ U → (∀ g, isMet (sRing nx n met h).2 g = true ↔ isMet met g = true ∨ g ∈ (sRing nx n met h).1) ∧ (∀ g ∈ (sRing nx n met h).1, isMet met g = false ∧ g ∈ U) ∧ (sRing nx n met h).1.Nodup
  | 0, met, h, _ => ⟨fun g => by simp [sRing], fun g hg => by simp [sRing] at hg, by simp [sRing]⟩
  | n + 1, met, h, hU => by
    rw [sRing]
    split
    · exact ⟨fun g => by simp, fun g hg => by simp at hg, by simp⟩
    · rename_i hm
      have hm : isMet met h = false := by simpa using hm
      obtain ⟨i1, i2, i3⟩ := sRing_met hN n (mset h true met) (sNxt nx h) (hN.mem h hU)
      refine ⟨fun g => ?_, fun g hg => ?_, ?_⟩
      · simp only
        rw [i1, isMet_set, List.mem_cons]
        simp only [Bool.or_eq_true, decide_eq_true_eq]
        constructor
        · rintro ((h | h) | h)
          · exact .inl h
          · exact .inr (.inl h)
          · exact .inr (.inr h)
        · rintro (h | h | h)
          · exact .inl (.inl h)
          · exact .inl (.inr h)
          · exact .inr h
      · rcases List.mem_cons.1 hg with e | hg'
        · rw [e]; exact ⟨hm, hU⟩
        · obtain ⟨j1, j2⟩ := i2 g hg'
          rw [isMet_set, Bool.or_eq_false_iff] at j1
          exact ⟨j1.1, j2⟩
      · rw [List.nodup_cons]
        refine ⟨fun hh => ?_, i3⟩
        have := (i2 h hh).1
        rw [isMet_set] at this
        simp at this
theorem sRing_shut {U : List Hlf} {nx : List (Hlf × Hlf)} (hN : NOk U (sNxt nx)) : ∀ (n : Nat) (met : Met) (h : Hlf), h ∈ U → cntU U met ≤ n → isMet (sRing nx n met h).2 h = true ∧ ∀ g ∈ (sRing nx n met h).1, isMet (sRing nx n met h).2 (sNxt nx g) = true
  | 0, met, h, hU, hc => by
    refine ⟨?_, fun g hg => by simp [sRing] at hg⟩
    cases hm : isMet met h with
    | true => exact hm
    | false => have := cntU_lt hU hm; omega
  | n + 1, met, h, hU, hc => by
    have hmet := sRing_met hN (n + 1) met h hU
    rw [sRing] at hmet ⊢
    split
    · rename_i hm
      exact ⟨hm, fun g hg => by simp at hg⟩
    · rename_i hm
      rw [if_neg hm] at hmet
      have hm : isMet met h = false := by simpa using hm
      have := cntU_lt hU hm
      obtain ⟨i1, i2⟩ := sRing_shut hN n (mset h true met) (sNxt nx h) (hN.mem h hU) (by omega)
      refine ⟨(hmet.1 h).2 (.inr (by simp)), fun g hg => ?_⟩
      rcases List.mem_cons.1 hg with e | hg'
      · rw [e]; exact i1
      · exact i2 g hg'

/-- Of rings found so far. -/
structure GOk (U : List Hlf) (N : Hlf → Hlf) (s : List (List Hlf) × Met) : Prop where
  met : ∀ g, isMet s.2 g = true ↔ g ∈ s.1.flatten
  nod : s.1.flatten.Nodup
  mem : ∀ g ∈ s.1.flatten, g ∈ U
  shut : ∀ g ∈ s.1.flatten, N g ∈ s.1.flatten
  two : ∀ r ∈ s.1, ∀ h ∈ r, ∃ g ∈ r, g ≠ h
theorem GOk.back {U : List Hlf} {N : Hlf → Hlf} (hN : NOk U N) {s : List (List Hlf) × Met} (h : GOk U N s) {g : Hlf} (hU : g ∈ U) (hg : N g ∈ s.1.flatten) : g ∈ s.1.flatten := by
  have hnd : (s.1.flatten.map N).Nodup := by
    have : ∀ (l : List Hlf), l.Nodup → (∀ x ∈ l, x ∈ U) → (l.map N).Nodup := by
      intro l
      induction l with
      | nil => intro _ _; exact List.Pairwise.nil
      | cons a l ih =>
        intro h1 h2
        rw [List.nodup_cons] at h1
        rw [List.map_cons, List.nodup_cons]
        refine ⟨fun hm => ?_, ih h1.2 fun x hx => h2 x (List.mem_cons_of_mem _ hx)⟩
        obtain ⟨b, hb, e⟩ := List.mem_map.1 hm
        have := hN.inj b (h2 b (List.mem_cons_of_mem _ hb)) a (h2 a (by simp)) e
        exact h1.1 (this ▸ hb)
    exact this _ h.nod h.mem
  have := pigeon hnd (fun x hx => by obtain ⟨y, hy, rfl⟩ := List.mem_map.1 hx; exact h.shut y hy) (Nat.le_of_eq (List.length_map _).symm) _ hg
  obtain ⟨y, hy, e⟩ := List.mem_map.1 this
  exact hN.inj y (h.mem y hy) g hU e ▸ hy
theorem sOneR_ok {U : List Hlf} {nx : List (Hlf × Hlf)} (hN : NOk U (sNxt nx)) {F : Nat} (hF : U.length ≤ F) {s : List (List Hlf) × Met} (hs : GOk U (sNxt nx) s) {h : Hlf} (hU : h ∈ U) : GOk U (sNxt nx) (sOneR nx F s h) ∧ isMet (sOneR nx F s h).2 h = true ∧ ∀ g, isMet s.2 g = true → isMet (sOneR nx F s h).2 g = true := by
  have hcn : cntU U s.2 ≤ F := Nat.le_trans (List.countP_le_length ..) hF
  obtain ⟨a1, a2, a3⟩ := sRing_met hN F s.2 h hU
  obtain ⟨b1, b2⟩ := sRing_shut hN F s.2 h hU hcn
  have hfl : (sOneR nx F s h).1.flatten = s.1.flatten ++ (sRing nx F s.2 h).1 := by
    unfold sOneR
    simp only
    split
    · rename_i e; rw [e, List.append_nil]
    · simp
  have hm2 : (sOneR nx F s h).2 = (sRing nx F s.2 h).2 := rfl
  refine ⟨⟨fun g => ?_, ?_, fun g hg => ?_, fun g hg => ?_, fun r hr x hx => ?_⟩, by rw [hm2]; exact b1, fun g hg => by rw [hm2]; exact (a1 g).2 (.inl hg)⟩
  · rw [hfl, hm2, a1, hs.met, List.mem_append]
  · rw [hfl]
    refine List.nodup_append.2 ⟨hs.nod, a3, fun x hx y hy e => ?_⟩
    subst e
    have := (a2 x hy).1
    rw [(hs.met x).2 hx] at this
    cases this
  · rw [hfl] at hg
    rcases List.mem_append.1 hg with hg | hg
    · exact hs.mem g hg
    · exact (a2 g hg).2
  · rw [hfl] at hg ⊢
    rcases List.mem_append.1 hg with hg | hg
    · exact List.mem_append_left _ (hs.shut g hg)
    · rcases (a1 _).1 (b2 g hg) with h' | h'
      · exact List.mem_append_left _ ((hs.met _).1 h')
      · exact List.mem_append_right _ h'
  · unfold sOneR at hr
    simp only at hr
    split at hr
    · exact hs.two r hr x hx
    · rename_i hne
      rcases List.mem_append.1 hr with hr | hr
      · exact hs.two r hr x hx
      · rw [List.mem_singleton.1 hr] at hx ⊢
        -- the ring begins with h, and goes on
        have hform : ∃ r', (sRing nx F s.2 h).1 = h :: r' ∧ r' ≠ [] := by
          cases F with
          | zero => simp [sRing] at hne
          | succ n =>
            rw [sRing] at hne ⊢
            split at hne
            · simp at hne
            · rename_i hm
              rw [if_neg hm]
              refine ⟨_, rfl, fun e => ?_⟩
              have hm' : isMet s.2 h = false := by simpa using hm
              have hr1 : (sRing nx (n + 1) s.2 h).1 = [h] := by rw [sRing, if_neg hm]; simp only [e]
              rw [hr1] at b2 a1
              rcases (a1 _).1 (b2 h (by simp)) with h' | h'
              · have := hs.back hN hU ((hs.met _).1 h')
                rw [(hs.met h).2 this] at hm'
                cases hm'
              · exact hN.ne h hU (List.mem_singleton.1 h')
        obtain ⟨r', e, hne'⟩ := hform
        rw [e] at hx a3 ⊢
        obtain ⟨y, hy⟩ := List.exists_mem_of_ne_nil _ hne'
        rw [List.nodup_cons] at a3
        by_cases ex : x = h
        · exact ⟨y, List.mem_cons_of_mem _ hy, fun e1 => a3.1 (by rw [← ex, ← e1]; exact hy)⟩
        · exact ⟨h, by simp, fun e1 => ex e1.symm⟩
theorem sRgs_ok {U : List Hlf} {nx : List (Hlf × Hlf)} (hN : NOk U (sNxt nx)) {F : Nat} (hF : U.length ≤ F) : ∀ (es : List Edg) (s : List (List Hlf) × Met), (∀ e ∈ es, ∀ b, (e.1, b) ∈ U) → GOk U (sNxt nx) s → GOk U (sNxt nx) (sRgs nx F s es) ∧ (∀ g, isMet s.2 g = true → isMet (sRgs nx F s es).2 g = true) ∧ ∀ e ∈ es, ∀ b, isMet (sRgs nx F s es).2 (e.1, b) = true
  | [], s, _, hs => ⟨hs, fun _ h => h, fun e he => by simp at he⟩
  | e :: es, s, hU, hs => by
    obtain ⟨c1, c2, c3⟩ := sOneR_ok hN hF hs (hU e (by simp) false)
    obtain ⟨d1, d2, d3⟩ := sOneR_ok hN hF c1 (hU e (by simp) true)
    obtain ⟨f1, f2, f3⟩ := sRgs_ok hN hF es _ (fun x hx => hU x (List.mem_cons_of_mem _ hx)) d1
    refine ⟨f1, fun g hg => f2 g (d3 g (c3 g hg)), fun x hx b => ?_⟩
    rcases List.mem_cons.1 hx with rfl | hx
    · cases b
      · exact f2 _ (d3 _ c2)
      · exact f2 _ d2
    · exact f3 x hx b
/-- All rings of a right plan. -/
theorem rings_ok {p : Pln} (h : pRight p = true) : (aRings p).flatten.Nodup ∧ (∀ g ∈ hvs p.2, g ∈ (aRings p).flatten) ∧ (∀ r ∈ aRings p, ∀ h ∈ r, ∃ g ∈ r, g ≠ h) ∧ ∀ g ∈ (aRings p).flatten, g ∈ hvs p.2 := by
  have hp := pRight_ok h
  have hN := next_ok hp
  obtain ⟨a, _, b⟩ := sRgs_ok hN (F := (hvU p.2).length) (by simp [hvU]) p.2 ([], []) (fun e he b => hvs_mem he b) ⟨fun g => by simp [isMet, mget], by simp, fun g hg => by simp at hg, fun g hg => by simp at hg, fun r hr => by simp at hr⟩
  unfold aRings
  rw [if_pos h]
  refine ⟨a.nod, fun g hg => ?_, a.two, a.mem⟩
  obtain ⟨e, he, hx⟩ := List.mem_flatMap.1 hg
  have hx : g = (e.1, false) ∨ g = (e.1, true) := by simpa using hx
  rcases hx with rfl | rfl
  · exact (a.met _).1 (b e he false)
  · exact (a.met _).1 (b e he true)
end Go.Proofs.Ytcdakcemcehfiaa
