/- The reference's Is and Pad. -/
import Derived.Test.YtpnmficlebnajaaP
namespace Go.Proofs.Ytpnmficlebnajaa
open Go.RowKit

theorem head_at (s : ByteArray) (h : 0 < s.size) : s.data.toList.headD 0 = s[0] := by
  rw [← at_list s 0 h, List.headD_eq_head?_getD, List.head?_eq_getElem?, List.getElem?_eq_getElem (by simpa using h)]; rfl

theorem isName_no0 {l : List UInt8} (h : letterB (l.headD 0).toNat = false) : isName l = false := by
  unfold isName; rw [h]; simp
theorem isName_short {l : List UInt8} (h : l.length < 1) : isName l = false := by
  have : decide (1 ≤ l.length) = false := decide_eq_false (by omega)
  simp [isName, this]
theorem isName_long {l : List UInt8} (h : 12 < l.length) : isName l = false := by
  have : decide (l.length ≤ 12) = false := decide_eq_false (by omega)
  simp [isName, this]

set_option maxRecDepth 100000 in
set_option maxHeartbeats 800000 in
theorem is_any (s : ByteArray) (w : World) (hs : s.size ≤ maxLen) :
    Calls Try.prog 32 #[.string s] w fun e w' => e = .returned (.bool (isName s.data.toList)) ∧ w = w' := by
  unfold maxLen at hs
  by_cases h0 : s.size < 1
  · have H := Lib.hid (isName_short (l := s.data.toList) (by simpa using h0))
    go_enter Try.func32, Try.ntmps32
    go_wp2_with fail
    go_ret
    exact ⟨ret_bool (by rw [H.out]), rfl⟩
  by_cases h1 : 12 < s.size
  · have H := Lib.hid (isName_long (l := s.data.toList) (by simpa using h1))
    go_enter Try.func32, Try.ntmps32
    go_wp2_with fail
    go_ret
    exact ⟨ret_bool (by rw [H.out]), rfl⟩
  have h0' : ((s.size : Int) < 1) = False := by simp; omega
  clear h0'
  go_enter Try.func32, Try.ntmps32
  go_wp2_with fail
  go_loop [3] (fun i => ∃ k : Nat, k ≤ s.size ∧ i = .int .i64 k ∧ Hid (∀ i (h : i < k) (h2 : i < s.size), signB s[i].toNat = true ∧ (i = 0 → letterB s[i].toNat = true))) (fun i => s.size - (intOf i).toNat)
  case atStart => exact ⟨0, Nat.zero_le _, rfl, fun i h => by omega⟩
  case round =>
    obtain ⟨k, hk, rfl, HA⟩ := hrel
    by_cases hlt : k < s.size
    · go_wp2_with fail
      all_goals
        try simp only [Bool.not_eq_true', Bool.not_eq_false', decide_eq_true_eq, decide_eq_false_iff_not, beq_iff_eq, beq_eq_false_iff_ne] at *
        first
          | (go_ret
             have hno : signB s[k].toNat = false ∨ (k = 0 ∧ letterB s[k].toNat = false) := by simp [signB, letterB]; omega
             refine ⟨ret_bool ?_, rfl⟩
             rcases hno with hno | ⟨rfl, hno⟩
             · exact (isName_no k (by simpa using hlt) (by rw [at_list s k hlt]; exact hno)).symm
             · exact (isName_no0 (by rw [head_at s hlt]; exact hno)).symm)
          | (go_round
             case rel =>
               have hyes : signB s[k].toNat = true ∧ (k = 0 → letterB s[k].toNat = true) := by simp [signB, letterB]; omega
               refine ⟨k + 1, by omega, by go_num, fun i h h2 => ?_⟩
               by_cases e : i = k
               · subst e; exact hyes
               · exact HA.out i (by omega) h2
             case measure => simp [intOf]; omega)
    · obtain rfl : k = s.size := by omega
      have H : Hid (isName s.data.toList = true) := isName_yes (by rw [Array.length_toList]; show 1 ≤ s.size; omega) (by rw [Array.length_toList]; show s.size ≤ 12; omega)
        (by rw [head_at s (by omega)]; exact (HA.out 0 (by omega) (by omega)).2 rfl) (fun i hi => by rw [at_list s i (by simpa using hi)]; exact (HA.out i (by simpa using hi) (by simpa using hi)).1)
      go_wp2_with fail
      go_ret
      exact ⟨ret_bool (by rw [H.out]), rfl⟩

end Go.Proofs.Ytpnmficlebnajaa
