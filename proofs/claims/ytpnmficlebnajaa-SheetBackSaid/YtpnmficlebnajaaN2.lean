/- The law NameOrder, walked. -/
import Derived.Test.YtpnmficlebnajaaN1
namespace Go.Proofs.Ytpnmficlebnajaa
open Go.RowKit

theorem less_iff : ∀ (a b : List UInt8), a.length = b.length → (Lib.compareBytes a b < 0 ↔ lessR a b = true)
  | [], [], _ => by simp [Lib.compareBytes, lessR]
  | [], _ :: _, h => by simp at h
  | _ :: _, [], h => by simp at h
  | x :: a, y :: b, h => by
    have ih := less_iff a b (by simpa using h)
    show (if x < y then (-1 : Int) else if y < x then 1 else Lib.compareBytes a b) < 0 ↔ (if x = y then lessR a b else decide (x.toNat < y.toNat)) = true
    by_cases h1 : x < y
    · have : x ≠ y := fun e => by subst e; exact absurd h1 (UInt8.lt_irrefl x)
      rw [if_pos h1, if_neg this]
      simpa [UInt8.lt_iff_toNat_lt] using h1
    · rw [if_neg h1]
      by_cases h2 : y < x
      · have : x ≠ y := fun e => by subst e; exact absurd h2 (UInt8.lt_irrefl x)
        rw [if_pos h2, if_neg this]
        rw [UInt8.lt_iff_toNat_lt] at h1
        simpa using h1
      · have : x = y := by
          apply UInt8.toNat_inj.1
          rw [UInt8.lt_iff_toNat_lt] at h1 h2
          omega
        rw [if_neg h2, if_pos this, ih]
theorem lessL_lessR (a b : List UInt8) (h : a.length = b.length) : lessL a b = lessR a b := by
  rw [Bool.eq_iff_iff, lessL, decide_eq_true_eq]
  exact less_iff a b h
theorem lessR_irrefl : ∀ (a : List UInt8), lessR a a = false
  | [] => rfl
  | x :: a => by simp [lessR, lessR_irrefl a]
theorem lessL_irrefl (a : List UInt8) : lessL a a = false := by rw [lessL_lessR a a rfl, lessR_irrefl]

theorem lessR_zeros : ∀ n, lessR (List.replicate n 0) (List.replicate n 0) = false := fun _ => lessR_irrefl _
theorem lessR_bytes : ∀ (s t : List UInt8) (m n : Nat), s.length + m = t.length + n → (∀ b ∈ s, b ≠ 0) → (∀ b ∈ t, b ≠ 0) → lessR (s ++ List.replicate m 0) (t ++ List.replicate n 0) = Op.bytesLess s t
  | [], [], m, n, h, _, _ => by
    obtain rfl : m = n := by simpa using h
    simp [lessR_irrefl, Op.bytesLess]
  | [], y :: t, m, n, h, _, ht => by
    obtain ⟨m', rfl⟩ : ∃ m', m = m' + 1 := ⟨m - 1, by simp at h; omega⟩
    have hy : y ≠ 0 := ht y (by simp)
    have hp : 0 < y.toNat := by
      rcases Nat.eq_zero_or_pos y.toNat with h0 | h0
      · exact absurd (UInt8.toNat_inj.1 (by simpa using h0)) hy
      · exact h0
    simp [List.replicate_succ, lessR, Op.bytesLess, Ne.symm hy, hp]
  | x :: s, [], m, n, h, hs, _ => by
    obtain ⟨n', rfl⟩ : ∃ n', n = n' + 1 := ⟨n - 1, by simp at h; omega⟩
    have hx : x ≠ 0 := hs x (by simp)
    simp [List.replicate_succ, lessR, Op.bytesLess, hx]
  | x :: s, y :: t, m, n, h, hs, ht => by
    have ih := lessR_bytes s t m n (by simp at h; omega) (fun b hb => hs b (by simp [hb])) (fun b hb => ht b (by simp [hb]))
    simp only [List.cons_append, lessR, Op.bytesLess, ih]
    by_cases e : x = y
    · subst e; simp [UInt8.lt_irrefl]
    · have : (x == y) = false := by simpa using e
      simp [e, UInt8.lt_iff_toNat_lt]
end Go.Proofs.Ytpnmficlebnajaa
