/- The plain law of NameSets. -/
import Derived.Test.YtbflliiaigkmgaaN7
namespace Go.Proofs.Ytbflliiaigkmgaa
open Go.RowKit

/-- What a set may hold. -/
structure KsOk (ks : List (List UInt8)) : Prop where
  nd : ks.Nodup
  l12 : All12 ks
  l64 : ks.length ≤ 64

theorem insAll_len (ks : List (List UInt8)) : (insAll ks).length = ks.length := (insAll_perm ks).length_eq
theorem insAll_count (ks : List (List UInt8)) (n : List UInt8) : (insAll ks).count n = ks.count n := (insAll_perm ks).count_eq n
theorem inL_mem (ks : List (List UInt8)) (n : List UInt8) : inL ks n = true ↔ n ∈ ks := by unfold inL; exact List.contains_iff_mem
theorem inL_count (ks : List (List UInt8)) (n : List UInt8) : ks.count n = 0 ↔ inL ks n = false := by
  rw [List.count_eq_zero, ← inL_mem]; simp
theorem wout_insAll {ks : List (List UInt8)} (h : KsOk ks) (n : List UInt8) : wout (insAll ks) n = insAll (ks.erase n) := by
  have hp : (wout (insAll ks) n).Perm (ks.erase n) := by
    rw [h.nd.erase_eq_filter]
    unfold wout
    exact (insAll_perm ks).filter _
  have h12 : All12 (ks.erase n) := fun x hx => h.l12 x (List.mem_of_mem_erase hx)
  refine sorted_unique (all12_perm hp h12) (hp.trans (insAll_perm _).symm) ?_ (insAll_sorted _ h12)
  exact (insAll_sorted ks h.l12).filter _
def stp (out : Bool) (ks : List (List UInt8)) (n : List UInt8) : List (List UInt8) := if out then ks.erase n else add1 ks n
theorem KsOk.stp {ks : List (List UInt8)} (h : KsOk ks) (out : Bool) (n : List UInt8) (hn : n.length = 12) : KsOk (stp out ks n) := by
  cases out
  · show KsOk (add1 ks n)
    unfold add1
    by_cases hc : (rightB n && !inL ks n && decide (ks.length < 64)) = true
    · rw [if_pos hc]
      simp only [Bool.and_eq_true, Bool.not_eq_true', decide_eq_true_eq] at hc
      have hnm : n ∉ ks := fun hm => by have := (inL_mem ks n).2 hm; rw [hc.1.2] at this; cases this
      refine ⟨List.nodup_append.2 ⟨h.nd, by simp, fun a ha b hb e => ?_⟩, fun x hx => ?_, by simp; omega⟩
      · simp at hb; subst hb; subst e; exact hnm ha
      · rcases List.mem_append.1 hx with hx | hx
        · exact h.l12 x hx
        · simp at hx; subst hx; exact hn
    · rw [if_neg hc]; exact h
  · show KsOk (ks.erase n)
    exact ⟨h.nd.erase n, fun x hx => h.l12 x (List.mem_of_mem_erase hx), Nat.le_trans List.length_erase_le h.l64⟩
theorem add1_no {ks : List (List UInt8)} {n : List UInt8} (h : rightB n = false ∨ inL ks n = true ∨ ¬ ks.length < 64) : stp false ks n = ks := by
  show add1 ks n = ks
  unfold add1
  rw [if_neg]
  rcases h with h | h | h <;> simp [h]
theorem add1_ok {ks : List (List UInt8)} {n : List UInt8} (h1 : rightB n = true) (h2 : inL ks n = false) (h3 : ks.length < 64) : stp false ks n = ks ++ [n] := by
  show add1 ks n = ks ++ [n]
  unfold add1
  rw [if_pos]; simp [h1, h2, h3]
theorem two_del (ks : List (List UInt8)) (A B : List UInt8) : stp true (stp true ks A) B = delL ks [A, B] := rfl
theorem two_add (ks : List (List UInt8)) (A B : List UInt8) : stp false (stp false ks A) B = addL ks [A, B] := rfl
end Go.Proofs.Ytbflliiaigkmgaa
