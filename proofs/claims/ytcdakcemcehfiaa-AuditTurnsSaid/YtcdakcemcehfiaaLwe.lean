/- The plain law, part e: AuditTurns, without faces. -/
import Derived.Test.YtcdakcemcehfiaaLwd
namespace Go.Proofs.Ytcdakcemcehfiaa
open Go

theorem chk_bad {t : Tab} (h : pRight (tPlan t) = false ∨ aChk1 t = 19) : aCheck t = 19 := by
  unfold aCheck
  rcases h with h | h
  · rw [h]; rfl
  · split
    · rfl
    · exact h
theorem mod_map {α β : Type} {f : α → α} {g : α → β} (h : ∀ x, g (f x) = g x) (l : List α) (i : Nat) : (l.modify i f).map g = l.map g := by
  apply List.ext_getElem?
  intro n
  rw [List.getElem?_map, List.getElem?_map, List.getElem?_modify]
  cases l[n]? with
  | none => split <;> rfl
  | some x => split <;> simp [h]
theorem tPlan_turn {t : Tab} {m k i : Nat} {to : Int} (hm : m ≤ 4) : tPlan (tTurn t m k i to) = tPlan t := by
  unfold tPlan tTurn
  simp only
  rw [mod_map (g := fun e : ERow => (e.id, e.a, e.b))]
  intro x
  match m, hm with
  | 0, _ | 1, _ | 2, _ | 3, _ | 4, _ => rfl
theorem tPlan_draw (p : Pln) (attrs : List Int) : tPlan (dTb p attrs) = p := by
  unfold tPlan dTb
  simp only [List.map_map]
  refine Prod.ext ?_ ?_
  · exact (List.map_congr_left fun v _ => rfl).trans (List.map_id _)
  · exact (List.map_congr_left fun v _ => rfl).trans (List.map_id _)
theorem aE2_none {np : NP} {face : List (Hlf × Int)} {e : ERow} {b : Bool} (h : aEbad np e b = true) : aE2 np face e = none := by
  unfold aE2 aE1
  cases b
  · rw [if_pos h]; rfl
  · cases aEbad np e false
    · simp [h]
    · rfl
theorem aCkE_none {np : NP} : ∀ {es : List ERow} {face : List (Hlf × Int)} {e : ERow} {b : Bool}, e ∈ es → aEbad np e b = true → aCkE np face es = none
  | [], _, _, _, h, _ => by simp at h
  | x :: es, face, e, b, h, hb => by
    rw [aCkE]
    rcases List.mem_cons.1 h with rfl | h
    · rw [aE2_none hb]; rfl
    · cases aE2 np face x with
      | none => rfl
      | some f => exact aCkE_none h hb
theorem chk1_none {t : Tab} (h : aCkE (aLinks (tPlan t)) [] t.es = none) : aChk1 t = 19 := by
  unfold aChk1
  rw [h]
theorem dDraw_0 {p : Pln} (h : ((dDraw p []).2 != 0) = false) : pRight p = true ∧ (dDraw p []).1 = dTb p [] := by
  unfold dDraw at h ⊢
  split at h
  · simp at h
  · rename_i h1
    split at h
    · simp at h
    · rename_i h2
      rw [if_neg h1, if_neg h2]
      refine ⟨?_, rfl⟩
      cases hr : pRight p with
      | true => rfl
      | false => rw [hr] at h1; simp at h1
theorem eqER_ne {x y : ERow} (h : eqER x y = false) : x ≠ y := by
  rintro rfl
  have : eqER x x = true := by unfold eqER; simp [eqV]
  rw [this] at h
  cases h
theorem aCkR_len (face : List (Hlf × Int)) (alone : List (Int × Int)) : ∀ (rs : List Rm) (i : Nat) (met m' : List (Int × Bool)), aCkR face alone i met rs = some m' → m'.length ≤ met.length + rs.length
  | [], i, met, m', h => by simp only [aCkR, Option.some.injEq] at h; subst h; exact Nat.le_add_right _ _
  | r :: rs, i, met, m', h => by
    rw [aCkR] at h
    split at h
    · cases h
    · have := aCkR_len face alone rs _ _ _ h
      have h2 : (mset (aRid face i r) true met).length ≤ met.length + 1 := by
        have : ∀ (m : List (Int × Bool)) (a : Int), (mset a true m).length ≤ m.length + 1 := by
          intro m a
          induction m with
          | nil => exact Nat.le_refl _
          | cons x m ih => simp only [mset]; split <;> simp; omega
        exact this _ _
      simp only [List.length_cons]
      omega
/-- Face rows that are too many. -/
theorem chk_more {p : Pln} : aCheck (tMore (dTb p [])) = 19 := by
  refine chk_bad (.inr ?_)
  have hp : tPlan (tMore (dTb p [])) = p := tPlan_draw p []
  unfold aChk1
  split
  · rfl
  · unfold aChk2
    split
    · rfl
    · unfold aChk3
      split
      · rfl
      · rename_i met hm
        rw [hp] at hm
        have := aCkR_len _ _ _ _ _ _ hm
        unfold aEnd
        split
        · rw [if_pos]
          have hf : (tMore (dTb p [])).fs.length = (mRealms p).length + 1 := by simp [tMore, dTb, dFs]
          simp only [List.length_nil] at this
          simp only [hf, bne_iff_ne, ne_eq]
          omega
        · rfl
/-- Rows of which one is turned: it is there. -/
theorem turn_mem {t : Tab} {m k i : Nat} {to : Int} {e : ERow} (h : t.es[i]? = some e) : eTurn m k to e ∈ (tTurn t m k i to).es := by
  refine List.mem_of_getElem? (i := i) ?_
  show (t.es.modify i _)[i]? = _
  rw [List.getElem?_modify, h]
  simp
theorem side_cases {k : Nat} (h : k < 2) : k = 0 ∨ k = 1 := by omega
theorem turn_links {p : Pln} {m k i : Nat} {to : Int} {e : ERow} (h : (dTb p []).es[i]? = some e) (hm : m < 4) (hk : k < 2) (hne : eTurn m k to e ≠ e) : aCheck (tTurn (dTb p []) m k i to) = 19 := by
  refine chk_bad (.inr (chk1_none ?_))
  rw [tPlan_turn (by omega), tPlan_draw]
  obtain ⟨e0, _, rfl⟩ : ∃ e0 ∈ p.2, dEr (aLinks p) (dFA p).1 e0 = e := by
    have := List.mem_of_getElem? h
    simpa [dTb] using this
  generalize aLinks p = np at *
  generalize (dFA p).1 = face at *
  have key : aEbad np (eTurn m k to (dEr np face e0)) (decide (k = 1)) = true := by
    unfold aEbad
    rw [Bool.or_eq_true, bne_iff_ne, bne_iff_ne]
    refine Classical.byContradiction fun hc => hne ?_
    have hc1 : eNx (eTurn m k to (dEr np face e0)) (decide (k = 1)) = sNxt np.1 (e0.1, decide (k = 1)) := by
      refine Classical.byContradiction fun h => hc (.inl ?_)
      have : (eTurn m k to (dEr np face e0)).id = e0.1 := by
        match m, hm with
        | 0, _ | 1, _ | 2, _ | 3, _ => rfl
      rw [this]; exact h
    have hc2 : ePv (eTurn m k to (dEr np face e0)) (decide (k = 1)) = sNxt np.2 (e0.1, decide (k = 1)) := by
      refine Classical.byContradiction fun h => hc (.inr ?_)
      have : (eTurn m k to (dEr np face e0)).id = e0.1 := by
        match m, hm with
        | 0, _ | 1, _ | 2, _ | 3, _ => rfl
      rw [this]; exact h
    rcases side_cases hk with rfl | rfl
    · match m, hm with
      | 0, _ => simp [eTurn, eNx, put2, get2, dEr] at hc1 ⊢; rw [hc1]
      | 1, _ => simp [eTurn, ePv, put2, get2, dEr] at hc2 ⊢; rw [hc2]
      | 2, _ => simp [eTurn, eNx, put2, get2, dEr] at hc1 ⊢; rw [hc1]
      | 3, _ => simp [eTurn, ePv, put2, get2, dEr] at hc2 ⊢; rw [hc2]
    · match m, hm with
      | 0, _ => simp [eTurn, eNx, put2, get2, dEr] at hc1 ⊢; rw [hc1]
      | 1, _ => simp [eTurn, ePv, put2, get2, dEr] at hc2 ⊢; rw [hc2]
      | 2, _ => simp [eTurn, eNx, put2, get2, dEr] at hc1 ⊢; rw [hc1]
      | 3, _ => simp [eTurn, ePv, put2, get2, dEr] at hc2 ⊢; rw [hc2]
  exact aCkE_none (turn_mem h) key
theorem turn_ends {t : Tab} {m k i : Nat} {to : Int} {e : ERow} (h : t.es[i]? = some e) (hm : m = 5 ∨ m = 6) : aCheck (tTurn t m k i to) = 19 := by
  refine chk_bad (.inl ?_)
  cases hr : pRight (tPlan (tTurn t m k i to)) with
  | false => rfl
  | true =>
    have hp := pRight_ok hr
    have hmem : tE (eTurn m k to e) ∈ (tPlan (tTurn t m k i to)).2 := List.mem_map.2 ⟨_, turn_mem h, rfl⟩
    have := hp.epo _ hmem
    rcases hm with rfl | rfl
    · exact absurd rfl this.2
    · exact absurd this.1 (show ¬ (0 : Int) < 0 by decide)
/-- What is left: a face of a half. -/
def FaceLaw : Prop := ∀ (p : Pln) (k i : Nat) (to : Int) (e : ERow), pRight p = true → (dTb p []).es[i]? = some e → k < 2 → eTurn 4 k to e ≠ e → aCheck (tTurn (dTb p []) 4 k i to) = 19
theorem aTurns_true (hF : FaceLaw) (p : Pln) (wh at' to : Int) (hw : 0 ≤ wh ∧ wh < 256) : aTurns p wh at' to = true := by
  unfold aTurns
  split
  · rfl
  · split
    · rename_i h
      have : (dDraw p []).2 = 0 ∨ (dDraw p []).2 = 1 := by
        unfold dDraw
        split
        · exact .inr rfl
        · split
          · exact .inr rfl
          · exact .inl rfl
      rcases this with h | h <;> rw [h] <;> rfl
    · rename_i h
      have h : (((dDraw p []).2 != 0) || ((((dDraw p []).1.es.map rER).length : Int) == 0)) = false := by simpa using h
      rw [Bool.or_eq_false_iff] at h
      obtain ⟨hr, hd⟩ := dDraw_0 h.1
      rw [hd]
      obtain ⟨hk, _⟩ := tSide_ok wh hw
      generalize tSide wh = k at hk
      generalize tIx (dTb p []).es.length at' = i
      unfold tTold
      split
      · rfl
      · rename_i e he
        generalize hm : (wh.tmod 8).toNat = m
        have hm8 : m < 8 := by rw [← hm, Int.tmod_eq_emod_of_nonneg hw.1]; omega
        split
        · rw [chk_more]; rfl
        · cases hq : eqER (eTurn m k to e) e with
          | true => rfl
          | false =>
            have hne := eqER_ne hq
            have : aCheck (tTurn (dTb p []) m k i to) = 19 := by
              rcases Nat.lt_or_ge m 4 with h4 | h4
              · exact turn_links he h4 hk hne
              · by_cases h5 : m = 4
                · subst h5
                  exact hF p k i to e hr he hk hne
                · exact turn_ends he (by omega)
            rw [this]
            rfl
end Go.Proofs.Ytcdakcemcehfiaa
