/- lessR is an order. -/
import Derived.Test.YtpnmficlebnajaaN2
namespace Go.Proofs.Ytpnmficlebnajaa
theorem lessR_trans : ∀ (a b c : List UInt8), a.length = b.length → b.length = c.length → lessR a b = true → lessR b c = true → lessR a c = true
  | [], [], _, _, _, h, _ => by simp [lessR] at h
  | x :: a, y :: b, z :: c, h1, h2, h3, h4 => by
    have ih := lessR_trans a b c (by simpa using h1) (by simpa using h2)
    simp only [lessR] at *
    by_cases e1 : x = y
    · subst e1
      by_cases e2 : x = z
      · subst e2; simp_all
      · simp_all
    · by_cases e2 : y = z
      · subst e2; simp_all
      · rw [if_neg e1] at h3; rw [if_neg e2] at h4
        simp only [decide_eq_true_eq] at h3 h4
        rw [if_neg (fun e => by subst e; omega)]
        simp only [decide_eq_true_eq]; omega
theorem lessR_total : ∀ (a b : List UInt8), a.length = b.length → lessR a b = false → lessR b a = false → a = b
  | [], [], _, _, _ => rfl
  | x :: a, y :: b, h, h1, h2 => by
    have ih := lessR_total a b (by simpa using h)
    simp only [lessR] at *
    by_cases e1 : x = y
    · subst e1; simp_all
    · rw [if_neg e1] at h1; rw [if_neg (Ne.symm e1)] at h2
      simp only [decide_eq_false_iff_not] at h1 h2
      exact absurd (UInt8.toNat_inj.1 (by omega)) e1
theorem lessR_asym (a b : List UInt8) (h : a.length = b.length) (h1 : lessR a b = true) : lessR b a = false := by
  cases h2 : lessR b a
  · rfl
  · have := lessR_trans a b a h h.symm h1 h2
    rw [lessR_irrefl] at this; cases this
theorem lessR_ntrans (a b c : List UInt8) (h1 : a.length = b.length) (h2 : b.length = c.length) (h3 : lessR a b = false) (h4 : lessR b c = false) : lessR a c = false := by
  cases h5 : lessR a c
  · rfl
  · cases h6 : lessR b a
    · obtain rfl := lessR_total a b h1 h3 h6
      rw [h5] at h4; cases h4
    · have := lessR_trans b a c h1.symm (h1.trans h2) h6 h5
      rw [h4] at this; cases this

end Go.Proofs.Ytpnmficlebnajaa
