/- The document's told. -/
import Derived.Test.YtpnmficlebnajaaE3
namespace Go.Proofs.Ytpnmficlebnajaa
open Go.RowKit

theorem str_app (a b : List UInt8) : (⟨a.toArray⟩ : ByteArray) ++ ⟨b.toArray⟩ = ⟨(a ++ b).toArray⟩ := by
  apply ByteArray.ext
  simp
theorem str_app2 (a b : ByteArray) : (a ++ b : ByteArray) = ⟨(a.data.toList ++ b.data.toList).toArray⟩ := by
  apply ByteArray.ext
  simp
theorem conv2 (c : UInt8) (w : World) (X : Obj) : (convert 65 9 (.slice (some ⟨w.heap.size + 1, 0, none⟩) 1 1)).run Try.prog ((w.alloc X).alloc (.cells #[.int .u8 (c.toNat : Int)] 5)) = .ok (.string ⟨#[c]⟩) ((w.alloc X).alloc (.cells #[.int .u8 (c.toNat : Int)] 5)) := by
  have h := run_bytes_string ((w.alloc X).alloc (.cells (bC [c]) 5)) (w.heap.size + 1) 0 1 1 [c] (row_of_block (heap_alloc2_new _ _ _)) (by simp)
  exact h
/-- string([]byte{c}). -/
theorem conv1 (c : UInt8) (w : World) : (convert 65 9 (.slice (some ⟨w.heap.size, 0, none⟩) 1 1)).run Try.prog (w.alloc (.cells #[.int .u8 (c.toNat : Int)] 5)) = .ok (.string ⟨#[c]⟩) (w.alloc (.cells #[.int .u8 (c.toNat : Int)] 5)) := by
  have h := run_bytes_string (w.alloc (.cells (bC [c]) 5)) w.heap.size 0 1 1 [c] (row_of_block (heap_alloc_new _ _)) (by simp)
  exact h

set_option maxRecDepth 100000 in
set_option maxHeartbeats 1000000 in
theorem told_any (s : ByteArray) (w : World) (hs : s.size ≤ 1000000) :
    Calls Try.prog 35 #[.string s] w fun e w' => e = .returned (.string ⟨(escL s.data.toList).toArray⟩) ∧ Below w.heap.size w w' := by
  have hcv : ∀ w : World, (convert 65 9 (.slice (some ⟨w.heap.size, 0, none⟩) 1 1)).run Try.prog (w.alloc (.cells #[.int .u8 92] 5)) = .ok (.string ⟨#[92]⟩) (w.alloc (.cells #[.int .u8 92] 5)) := fun w => conv1 92 w
  have hcv10 : ∀ (w : World) (X : Obj), (convert 65 9 (.slice (some ⟨w.heap.size + 1, 0, none⟩) 1 1)).run Try.prog ((w.alloc X).alloc (.cells #[.int .u8 110] 5)) = .ok (.string ⟨#[110]⟩) ((w.alloc X).alloc (.cells #[.int .u8 110] 5)) := fun w X => conv2 110 w X
  have hcv13 : ∀ (w : World) (X : Obj), (convert 65 9 (.slice (some ⟨w.heap.size + 1, 0, none⟩) 1 1)).run Try.prog ((w.alloc X).alloc (.cells #[.int .u8 114] 5)) = .ok (.string ⟨#[114]⟩) ((w.alloc X).alloc (.cells #[.int .u8 114] 5)) := fun w X => conv2 114 w X
  go_enter Try.func35, Try.ntmps35
  go_wp2_with fail
  go_loopw [3, 4] (fun o i wr => ∃ k : Nat, k ≤ s.size ∧ i = .int .i64 k ∧ o = .string ⟨(escL (s.data.toList.take k)).toArray⟩ ∧ Hid (Below w.heap.size w wr)) (fun _ i _ => s.size - (intOf i).toNat)
  case atStart => exact ⟨0, Nat.zero_le _, rfl, rfl, Below.refl _ _⟩
  case round =>
    obtain ⟨k, hk, rfl, rfl, HW⟩ := hrel
    by_cases hlt : k < s.size
    · have hk2 : k < s.data.toList.length := by simpa using hlt
      have hlt' : (k : Int) < s.size := by omega
      have HS := Lib.hid (escL_snoc s.data.toList k hk2)
      rw [at_list s k hlt] at HS
      have hcvk := fun w => conv1 s[k] w
      have hcvk2 := fun w X => conv2 s[k] w X
      have hcv92 : ∀ (w : World) (X : Obj), (convert 65 9 (.slice (some ⟨w.heap.size + 1, 0, none⟩) 1 1)).run Try.prog ((w.alloc X).alloc (.cells #[.int .u8 92] 5)) = .ok (.string ⟨#[92]⟩) ((w.alloc X).alloc (.cells #[.int .u8 92] 5)) := fun w X => conv2 92 w X
      have h10 : s[k] = 10 → ((s[k].toNat : Int) == 10) = true := u8_eq (n := 10) (by omega)
      have n10 : s[k] ≠ 10 → ((s[k].toNat : Int) == 10) = false := u8_ne (n := 10) (by omega)
      have h13 : s[k] = 13 → ((s[k].toNat : Int) == 13) = true := u8_eq (n := 13) (by omega)
      have n13 : s[k] ≠ 13 → ((s[k].toNat : Int) == 13) = false := u8_ne (n := 13) (by omega)
      have h92 : s[k] = 92 → ((s[k].toNat : Int) == 92) = true := u8_eq (n := 92) (by omega)
      have n92 : s[k] ≠ 92 → ((s[k].toNat : Int) == 92) = false := u8_ne (n := 92) (by omega)
      have hAl : (escL (s.data.toList.take k)).length ≤ 2000000 := by
        have := escL_le (s.data.toList.take k)
        have := List.length_take_le k s.data.toList
        omega
      generalize escL (s.data.toList.take k) = A at *
      have hAl2 : (A.length : Int) ≤ 2000000 := by omega
      by_cases e10 : s[k] = 10
      · replace h10 := h10 e10
        clear n10 h13 n13 h92 n92
        have n92 : ((s[k].toNat : Int) == 92) = false := u8_ne (n := 92) (by omega) (by rw [e10]; decide)
        have HL : Hid (A ++ [92, 110] = escL (s.data.toList.take (k + 1))) := by
          show _ = escL (s.data.toList.take (k + 1))
          rw [HS.out]; simp [escB, *]
        clear HS
        clear e10
        go_wp2_with fail
        go_roundw
        case rel => exact ⟨k + 1, by omega, by go_num, by rw [← HL.out]; simp [str_app2], (HW.out.alloc HW.out.size _).alloc (by simp; exact Nat.le_succ_of_le HW.out.size) _⟩
        case measure => simp [intOf]; omega
      replace n10 := n10 e10
      by_cases e13 : s[k] = 13
      · replace h13 := h13 e13
        clear h10 n13 h92 n92
        have n92 : ((s[k].toNat : Int) == 92) = false := u8_ne (n := 92) (by omega) (by rw [e13]; decide)
        have HL : Hid (A ++ [92, 114] = escL (s.data.toList.take (k + 1))) := by
          show _ = escL (s.data.toList.take (k + 1))
          rw [HS.out]; simp [escB, *]
        clear HS
        clear e10 e13
        go_wp2_with fail
        go_roundw
        case rel => exact ⟨k + 1, by omega, by go_num, by rw [← HL.out]; simp [str_app2], (HW.out.alloc HW.out.size _).alloc (by simp; exact Nat.le_succ_of_le HW.out.size) _⟩
        case measure => simp [intOf]; omega
      replace n13 := n13 e13
      by_cases e92 : s[k] = 92
      · replace h92 := h92 e92
        clear h10 h13 n92
        have HL : Hid (A ++ [92, 92] = escL (s.data.toList.take (k + 1))) := by
          show _ = escL (s.data.toList.take (k + 1))
          rw [HS.out]; simp [escB, *]
        clear HS
        clear e10 e13
        go_wp2_with fail
        go_roundw
        case rel => exact ⟨k + 1, by omega, by go_num, by rw [← HL.out]; simp [str_app2], (HW.out.alloc HW.out.size _).alloc (by simp; exact Nat.le_succ_of_le HW.out.size) _⟩
        case measure => simp [intOf]; omega
      · replace n92 := n92 e92
        clear h10 h13 h92
        have HL : Hid (A ++ [s[k]] = escL (s.data.toList.take (k + 1))) := by
          show _ = escL (s.data.toList.take (k + 1))
          rw [HS.out]; simp [escB, *]
        clear HS
        clear e10 e13 e92
        go_wp2_with fail
        go_roundw
        case rel => exact ⟨k + 1, by omega, by go_num, by rw [← HL.out]; simp [str_app2], HW.out.alloc HW.out.size _⟩
        case measure => simp [intOf]; omega
    · obtain rfl : k = s.size := by omega
      have HE : Hid (escL (s.data.toList.take s.size) = escL s.data.toList) := by
        show escL (s.data.toList.take s.size) = _
        rw [List.take_of_length_le (by simp)]
      rw [HE.out]
      go_wp2_with fail
      go_ret
      exact ⟨rfl, HW.out⟩
end Go.Proofs.Ytpnmficlebnajaa
