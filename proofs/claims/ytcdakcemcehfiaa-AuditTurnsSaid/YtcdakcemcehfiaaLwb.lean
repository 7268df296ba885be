/- The plain law, part b: Around is an order of what leaves a vertex. -/
import Derived.Test.YtcdakcemcehfiaaLwa
namespace Go.Proofs.Ytcdakcemcehfiaa
open Go

theorem w64_id {n : Int} (h0 : -9223372036854775808 ≤ n) (h1 : n < 9223372036854775808) : w64 n = n := by
  unfold w64
  rw [IntKind.wrap_i64]
  omega
theorem mulB {x y : Int} (hx : -536870912 ≤ x ∧ x ≤ 536870912) (hy : -536870912 ≤ y ∧ y ≤ 536870912) : -288230376151711744 ≤ x * y ∧ x * y ≤ 288230376151711744 := by
  have h := Nat.mul_le_mul (show x.natAbs ≤ 536870912 by omega) (show y.natAbs ≤ 536870912 by omega)
  rw [← Int.natAbs_mul] at h
  omega
def sub2 (a c : Pt) : Pt := (a.1 - c.1, a.2 - c.2)
theorem gIn_iff (p : Pt) : gIn p = true ↔ -268435456 ≤ p.1 ∧ p.1 ≤ 268435456 ∧ -268435456 ≤ p.2 ∧ p.2 ≤ 268435456 := by simp [gIn, and_assoc]
theorem gDet_eq {c a b : Pt} (hc : gIn c = true) (ha : gIn a = true) (hb : gIn b = true) : gDet c a b = crs (sub2 a c) (sub2 b c) := by
  rw [gIn_iff] at hc ha hb
  unfold gDet
  rw [w64_id (n := a.1 - c.1) (by omega) (by omega), w64_id (n := b.2 - c.2) (by omega) (by omega), w64_id (n := a.2 - c.2) (by omega) (by omega), w64_id (n := b.1 - c.1) (by omega) (by omega)]
  have h1 := mulB (x := a.1 - c.1) (y := b.2 - c.2) (by omega) (by omega)
  have h2 := mulB (x := a.2 - c.2) (y := b.1 - c.1) (by omega) (by omega)
  rw [w64_id (n := (a.1 - c.1) * (b.2 - c.2)) (by omega) (by omega), w64_id (n := (a.2 - c.2) * (b.1 - c.1)) (by omega) (by omega), w64_id (by omega) (by omega)]
  rfl
theorem gHalf_up (c p : Pt) : gHalf c p = if (0 < (sub2 p c).2 ∨ (sub2 p c).2 = 0 ∧ 0 < (sub2 p c).1) then 0 else 1 := by
  unfold gHalf sub2
  by_cases h : 0 < p.2 - c.2 ∨ p.2 - c.2 = 0 ∧ 0 < p.1 - c.1
  · rw [if_pos h, if_pos]
    simp only [Bool.or_eq_true, decide_eq_true_eq, Bool.and_eq_true, beq_iff_eq]
    omega
  · rw [if_neg h, if_neg]
    simp only [Bool.or_eq_true, decide_eq_true_eq, Bool.and_eq_true, beq_iff_eq]
    omega
def neg2 (u : Pt) : Pt := (-u.1, -u.2)
theorem crs_neg (u v : Pt) : crs (neg2 u) (neg2 v) = crs u v := by unfold crs neg2; grind
theorem gHalf_0 {c p : Pt} (h : gHalf c p = 0) : Up (sub2 p c) := by
  rw [gHalf_up] at h
  split at h
  · assumption
  · cases h
theorem gHalf_1 {c p : Pt} (h : gHalf c p = 1) (hne : p ≠ c) : Up (neg2 (sub2 p c)) := by
  rw [gHalf_up] at h
  split at h
  · cases h
  · rename_i h'
    have : ¬ (p.1 = c.1 ∧ p.2 = c.2) := fun h => hne (Prod.ext h.1 h.2)
    unfold Up neg2 sub2
    unfold sub2 at h'
    simp only at h' ⊢
    omega
theorem gHalf_01 (c p : Pt) : gHalf c p = 0 ∨ gHalf c p = 1 := by unfold gHalf; split <;> simp

/-- Of points around c. -/
structure Rnd (c a : Pt) : Prop where
  inn : gIn a = true
  ne : a ≠ c
theorem gSign_pos {n : Int} : gSign n = 1 ↔ 0 < n := by unfold gSign; split <;> (try split) <;> omega
theorem gSign_zero {n : Int} : gSign n = 0 ↔ n = 0 := by unfold gSign; split <;> (try split) <;> omega
theorem gSign_3 (n : Int) : gSign n = 1 ∨ gSign n = 0 ∨ gSign n = -1 := by unfold gSign; split <;> (try split) <;> omega
theorem around_lt {c a b : Pt} (hc : gIn c = true) (ha : Rnd c a) (hb : Rnd c b) : gAround c a b < 0 ↔ gHalf c a < gHalf c b ∨ (gHalf c a = gHalf c b ∧ 0 < crs (sub2 a c) (sub2 b c)) := by
  have h0 : ((!(gAll3 c a b) || (a == c)) || (b == c)) = false := by simp [gAll3, hc, ha.inn, hb.inn, ha.ne, hb.ne]
  have h1 := gHalf_01 c a
  have h2 := gHalf_01 c b
  have h3 := gSign_3 (gDet c a b)
  have h4 := gSign_pos (n := gDet c a b)
  rw [← gDet_eq hc ha.inn hb.inn]
  unfold gAround
  rw [h0, if_neg (by simp), w64_id (by omega) (by omega)]
  by_cases e : gHalf c a - gHalf c b = 0
  · rw [e, if_neg (by simp)]
    unfold gTurn
    rw [w64_id (by omega) (by omega)]
    omega
  · rw [if_pos (by simpa using e)]
    omega
theorem around_irr {c a : Pt} (hc : gIn c = true) (ha : Rnd c a) : ¬ gAround c a a < 0 := by
  rw [around_lt hc ha ha]
  have : crs (sub2 a c) (sub2 a c) = 0 := by unfold crs; grind
  omega
theorem around_tra {c x y z : Pt} (hc : gIn c = true) (hx : Rnd c x) (hy : Rnd c y) (hz : Rnd c z) (h1 : gAround c x y < 0) (h2 : gAround c y z < 0) : gAround c x z < 0 := by
  rw [around_lt hc hx hy] at h1
  rw [around_lt hc hy hz] at h2
  rw [around_lt hc hx hz]
  by_cases e : gHalf c x = gHalf c y ∧ gHalf c y = gHalf c z
  · refine .inr ⟨e.1.trans e.2, ?_⟩
    have h1' : 0 < crs (sub2 x c) (sub2 y c) := by omega
    have h2' : 0 < crs (sub2 y c) (sub2 z c) := by omega
    rcases gHalf_01 c x with h | h
    · exact up_tra (gHalf_0 h) (gHalf_0 (by omega)) (gHalf_0 (by omega)) h1' h2'
    · rw [← crs_neg]
      rw [← crs_neg] at h1' h2'
      exact up_tra (gHalf_1 h hx.ne) (gHalf_1 (by omega) hy.ne) (gHalf_1 (by omega) hz.ne) h1' h2'
  · omega
theorem around_ntr {c x y z : Pt} (hc : gIn c = true) (hx : Rnd c x) (hy : Rnd c y) (hz : Rnd c z) (h1 : ¬ gAround c x y < 0) (h2 : ¬ gAround c y z < 0) : ¬ gAround c x z < 0 := by
  rw [around_lt hc hx hy] at h1
  rw [around_lt hc hy hz] at h2
  rw [around_lt hc hx hz]
  by_cases e : gHalf c x = gHalf c y ∧ gHalf c y = gHalf c z
  · have h1' : crs (sub2 x c) (sub2 y c) ≤ 0 := by omega
    have h2' : crs (sub2 y c) (sub2 z c) ≤ 0 := by omega
    have : crs (sub2 x c) (sub2 z c) ≤ 0 := by
      rcases gHalf_01 c x with h | h
      · exact up_ntr (gHalf_0 h) (gHalf_0 (by omega)) (gHalf_0 (by omega)) h1' h2'
      · rw [← crs_neg]
        rw [← crs_neg] at h1' h2'
        exact up_ntr (gHalf_1 h hx.ne) (gHalf_1 (by omega) hy.ne) (gHalf_1 (by omega) hz.ne) h1' h2'
    omega
  · omega
theorem crs_com (u v : Pt) : crs v u = - crs u v := by unfold crs; grind
/-- Directions that are alike: one of them stands in the other's way. -/
theorem around_tot {c a b : Pt} (hc : gIn c = true) (ha : Rnd c a) (hb : Rnd c b) (h1 : ¬ gAround c a b < 0) (h2 : ¬ gAround c b a < 0) : a = b ∨ (gOn a c b = true ∧ gOn a b c = true) ∨ (gOn b c a = true ∧ gOn b a c = true) := by
  rw [around_lt hc ha hb] at h1
  rw [around_lt hc hb ha, crs_com] at h2
  have he : gHalf c a = gHalf c b := by omega
  have hz : crs (sub2 a c) (sub2 b c) = 0 := by omega
  have key : sub2 a c = sub2 b c ∨ Btw (sub2 a c) (sub2 b c) ∨ Btw (sub2 b c) (sub2 a c) := by
    rcases gHalf_01 c a with h | h
    · exact up_tot (gHalf_0 h) (gHalf_0 (by omega)) hz
    · have := up_tot (gHalf_1 h ha.ne) (gHalf_1 (by omega) hb.ne) (by rw [crs_neg]; exact hz)
      rcases this with h | h | h
      · left
        have e1 := congrArg Prod.fst h
        have e2 := congrArg Prod.snd h
        simp only [neg2] at e1 e2
        exact Prod.ext (by omega) (by omega)
      · right; left
        unfold Btw neg2 at h
        unfold Btw
        simp only at h
        omega
      · right; right
        unfold Btw neg2 at h
        unfold Btw
        simp only at h
        omega
  have on : ∀ {p q : Pt}, Rnd c p → Rnd c q → crs (sub2 p c) (sub2 q c) = 0 → Btw (sub2 p c) (sub2 q c) → gOn p c q = true ∧ gOn p q c = true := by
    intro p q hp hq hz hb
    have d1 : gTurn c q p = 0 := by rw [gTurn, gSign_zero, gDet_eq hc hq.inn hp.inn, crs_com, hz]; rfl
    have d2 : gTurn q c p = 0 := by
      rw [gTurn, gSign_zero, gDet_eq hq.inn hc hp.inn]
      unfold crs sub2 at hz
      unfold crs sub2
      simp only at hz ⊢
      grind
    have hbt : gBetween p c q = true ∧ gBetween p q c = true := by
      unfold Btw sub2 at hb
      simp only at hb
      unfold gBetween gLess
      simp only [Bool.or_eq_true, Bool.and_eq_true, decide_eq_true_eq, beq_iff_eq]
      omega
    unfold gOn gAll3
    rw [d1, d2, hbt.1, hbt.2, hc, hp.inn, hq.inn]
    simp
  rcases key with h | h | h
  · left
    have e1 := congrArg Prod.fst h
    have e2 := congrArg Prod.snd h
    simp only [sub2] at e1 e2
    exact Prod.ext (by omega) (by omega)
  · exact .inr (.inl (on ha hb hz h))
  · exact .inr (.inr (on hb ha (by rw [crs_com, hz]; rfl) h))
end Go.Proofs.Ytcdakcemcehfiaa
