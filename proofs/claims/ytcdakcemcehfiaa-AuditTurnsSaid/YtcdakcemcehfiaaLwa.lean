/- The plain law, part a: how directions stand around a point. -/
import Derived.Test.YtcdakcemcehfiaaTur
namespace Go.Proofs.Ytcdakcemcehfiaa
open Go

theorem pp_ {x y : Int} (h : 0 < x) (h' : 0 < y) : 0 < x * y := Int.mul_pos h h'
theorem pn_ {x y : Int} (h : 0 < x) (h' : y < 0) : x * y < 0 := Int.mul_neg_of_pos_of_neg h h'
theorem np_ {x y : Int} (h : x < 0) (h' : 0 < y) : x * y < 0 := Int.mul_neg_of_neg_of_pos h h'
theorem nn_ {x y : Int} (h : x < 0) (h' : y < 0) : 0 < x * y := Int.mul_pos_of_neg_of_neg h h'
/-- The sign of a factor. -/
theorem pos_of {x y : Int} (h : 0 < x) (h' : 0 < x * y) : 0 < y := by
  rcases Int.lt_trichotomy y 0 with h2 | h2 | h2
  · have := pn_ h h2; omega
  · rw [h2, Int.mul_zero] at h'; omega
  · exact h2
theorem nonpos_of {x y : Int} (h : 0 < x) (h' : x * y ≤ 0) : y ≤ 0 := by
  rcases Int.lt_or_le 0 y with h2 | h2
  · have := pp_ h h2; omega
  · exact h2
theorem zero_of {x y : Int} (h : 0 < x) (h' : x * y = 0) : y = 0 := by
  rcases Int.mul_eq_zero.1 h' with h2 | h2 <;> omega
theorem nnp {x y : Int} (h : 0 ≤ x) (h' : y ≤ 0) : x * y ≤ 0 := Int.mul_nonpos_of_nonneg_of_nonpos h h'

def crs (u v : Pt) : Int := u.1 * v.2 - u.2 * v.1
/-- Upward, or to greater X. -/
def Up (u : Pt) : Prop := 0 < u.2 ∨ u.2 = 0 ∧ 0 < u.1
theorem crs_id (u v w : Pt) : v.2 * crs u w = u.2 * crs v w + w.2 * crs u v := by unfold crs; grind
theorem crs_def (u v : Pt) : crs u v = u.1 * v.2 - u.2 * v.1 := rfl
theorem up_tra {u v w : Pt} (hu : Up u) (hv : Up v) (hw : Up w) (h1 : 0 < crs u v) (h2 : 0 < crs v w) : 0 < crs u w := by
  have id := crs_id u v w
  rcases hv with hv | ⟨hv, hv'⟩
  · refine pos_of hv ?_
    rw [id]
    rcases hu with hu | ⟨hu, hu'⟩
    · have := pp_ hu h2
      rcases hw with hw | ⟨hw, hw'⟩
      · have := pp_ hw h1; omega
      · rw [hw, Int.zero_mul]; omega
    · rcases hw with hw | ⟨hw, hw'⟩
      · have := pp_ hw h1; rw [hu, Int.zero_mul]; omega
      · rw [crs_def, hw, Int.mul_zero] at h2
        have := pp_ hv hw'
        omega
  · rw [crs_def, hv, Int.mul_zero] at h1
    rcases hu with hu | ⟨hu, hu'⟩
    · have := pp_ hu hv'; omega
    · rw [hu, Int.zero_mul] at h1; omega
theorem up_ntr {u v w : Pt} (hu : Up u) (hv : Up v) (hw : Up w) (h1 : crs u v ≤ 0) (h2 : crs v w ≤ 0) : crs u w ≤ 0 := by
  have id := crs_id u v w
  have hu2 : 0 ≤ u.2 := by unfold Up at hu; omega
  have hw2 : 0 ≤ w.2 := by unfold Up at hw; omega
  rcases hv with hv | ⟨hv, hv'⟩
  · refine nonpos_of hv ?_
    rw [id]
    have := nnp hu2 h2
    have := nnp hw2 h1
    omega
  · rw [crs_def, hv, Int.zero_mul] at h2
    have hw3 : w.2 ≤ 0 := nonpos_of hv' (by omega)
    have hw4 : w.2 = 0 := by omega
    have hw1 : 0 < w.1 := by unfold Up at hw; omega
    rw [crs_def, hw4, Int.mul_zero]
    have : 0 ≤ u.2 * w.1 := Int.mul_nonneg hu2 (by omega)
    omega
/-- The one between the other and nothing, or both alike. -/
def Btw (u v : Pt) : Prop := ((0 < u.1 ∨ u.1 = 0 ∧ 0 < u.2) ∧ (u.1 < v.1 ∨ u.1 = v.1 ∧ u.2 < v.2)) ∨ ((v.1 < u.1 ∨ v.1 = u.1 ∧ v.2 < u.2) ∧ (u.1 < 0 ∨ u.1 = 0 ∧ u.2 < 0))
theorem up_tot {u v : Pt} (hu : Up u) (hv : Up v) (h : crs u v = 0) : u = v ∨ Btw u v ∨ Btw v u := by
  rw [crs_def] at h
  have key : (0 < u.1 ∧ 0 < v.1) ∨ (u.1 < 0 ∧ v.1 < 0 ∧ 0 < u.2 ∧ 0 < v.2) ∨ (u.1 = 0 ∧ v.1 = 0 ∧ 0 < u.2 ∧ 0 < v.2) := by
    rcases Int.lt_trichotomy u.1 0 with h1 | h1 | h1
    · have hu2 : 0 < u.2 := by unfold Up at hu; omega
      rcases hv with hv | ⟨hv, hv'⟩
      · have := np_ h1 hv
        have hv1 : v.1 < 0 := by
          rcases Int.lt_or_le v.1 0 with h2 | h2
          · exact h2
          · have := Int.mul_nonneg (Int.le_of_lt hu2) h2; omega
        exact .inr (.inl ⟨h1, hv1, hu2, hv⟩)
      · have := pp_ hu2 hv'
        rw [hv, Int.mul_zero] at h
        omega
    · have hu2 : 0 < u.2 := by unfold Up at hu; omega
      rw [h1, Int.zero_mul] at h
      have hv1 : v.1 = 0 := zero_of hu2 (by omega)
      exact .inr (.inr ⟨h1, hv1, hu2, by unfold Up at hv; omega⟩)
    · refine .inl ⟨h1, ?_⟩
      rcases hv with hv | ⟨hv, hv'⟩
      · have h2 := pp_ h1 hv
        rcases hu with hu | ⟨hu, hu'⟩
        · exact pos_of hu (by omega)
        · rw [hu, Int.zero_mul] at h; omega
      · exact hv'
  have e1 : u.1 = v.1 → u.1 ≠ 0 → u.2 = v.2 := fun e hne => by
    rw [← e] at h
    have : u.1 * (v.2 - u.2) = 0 := by rw [Int.mul_sub, Int.mul_comm u.1 u.2]; exact h
    rcases Int.mul_eq_zero.1 this with h' | h' <;> omega
  have hp : u.1 = v.1 → u.2 = v.2 → u = v := fun a b => Prod.ext a b
  unfold Btw
  rcases key with ⟨a, b⟩ | ⟨a, b, c, d⟩ | ⟨a, b, c, d⟩
  · rcases Int.lt_trichotomy u.1 v.1 with h1 | h1 | h1
    · omega
    · exact .inl (hp h1 (e1 h1 (by omega)))
    · omega
  · rcases Int.lt_trichotomy u.1 v.1 with h1 | h1 | h1
    · omega
    · exact .inl (hp h1 (e1 h1 (by omega)))
    · omega
  · rcases Int.lt_trichotomy u.2 v.2 with h1 | h1 | h1
    · omega
    · exact .inl (hp (by omega) h1)
    · omega
end Go.Proofs.Ytcdakcemcehfiaa
