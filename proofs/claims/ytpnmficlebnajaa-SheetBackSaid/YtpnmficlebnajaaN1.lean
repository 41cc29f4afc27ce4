/- The law NameTexts, walked. -/
import Derived.Test.YtpnmficlebnajaaO
namespace Go.Proofs.Ytpnmficlebnajaa
open Go.RowKit

theorem sign_ne (b : UInt8) (h : signB b.toNat = true) : b ≠ 0 := by
  rintro rfl
  revert h
  decide +kernel
theorem isName_spec {l : List UInt8} (h : isName l = true) : 1 ≤ l.length ∧ l.length ≤ 12 ∧ ∀ b ∈ l, b ≠ 0 := by
  simp only [isName, Bool.and_eq_true, decide_eq_true_eq, List.all_eq_true] at h
  exact ⟨h.1.1.1, h.1.1.2, fun b hb => sign_ne b (h.2 b hb)⟩
theorem front_pad {l : List UInt8} (h : isName l = true) : front (pad l) = l := by
  obtain ⟨_, h2, h3⟩ := isName_spec h
  unfold front pad
  rw [List.take_of_length_le h2, List.takeWhile_append_of_pos (fun b hb => by simpa using h3 b hb)]
  have : (List.replicate (12 - l.length) (0 : UInt8)).takeWhile (· != 0) = [] := by
    cases 12 - l.length <;> simp [List.replicate_succ]
  rw [this, List.append_nil]
theorem right_pad {l : List UInt8} (h : isName l = true) : rightB (pad l) = true := by
  simp [rightB, front_pad h, h]
theorem text_pad {l : List UInt8} (h : isName l = true) : textL (pad l) = l := by
  rw [textL, right_pad h, if_pos rfl, front_pad h]
theorem back (s : ByteArray) : (⟨s.data.toList.toArray⟩ : ByteArray) = s := by simp

theorem eql9 (x : ByteArray) (W : World) : (binOp .eql 9 (.string x) (.string x)).run Try.prog W = .ok (.bool true) W := by
  go_simp
theorem textL_yes {l : List UInt8} (h : rightB l = true) : 1 ≤ (textL l).length := by
  rw [textL, if_pos h]
  simp only [rightB, Bool.and_eq_true] at h
  exact (isName_spec h.1).1
theorem textL_no {l : List UInt8} (h : rightB l = false) : textL l = [] := by
  rw [textL, h]; rfl
end Go.Proofs.Ytpnmficlebnajaa
