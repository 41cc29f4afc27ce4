/- escape, and the document's told. -/
import Derived.Test.YtpnmficlebnajaaE2
namespace Go.Proofs.Ytpnmficlebnajaa
open Go.RowKit

theorem escB_other {c : UInt8} (h1 : c ≠ 10) (h2 : c ≠ 13) (h3 : c ≠ 92) : escB c = [c] := by
  rw [escB, if_neg h1, if_neg h2, if_neg h3]
theorem u8_ne {c : UInt8} {n : Nat} (hn : n < 256) (h : c ≠ UInt8.ofNat n) : ((c.toNat : Int) == (n : Int)) = false := by
  rw [beq_eq_false_iff_ne]
  intro e
  exact h (by rw [← UInt8.toNat_inj, UInt8.toNat_ofNat']; omega)
theorem u8_eq {c : UInt8} {n : Nat} (hn : n < 256) (h : c = UInt8.ofNat n) : ((c.toNat : Int) == (n : Int)) = true := by
  rw [h, UInt8.toNat_ofNat', beq_iff_eq]; omega

set_option maxRecDepth 100000 in
set_option maxHeartbeats 1000000 in
theorem escape_any (s : ByteArray) (w : World) (hs : s.size ≤ 1000000) :
    Calls Try.prog 29 #[.string s] w fun e w' => e = .returned (.string ⟨(escL s.data.toList).toArray⟩) ∧ Below w.heap.size w w' := by
  have HB0 := Lib.hid (IsB.fresh w)
  have HW0 : Hid (Below w.heap.size w (w.alloc (.cells #[.pointer none, .slice none 0 0] 67))) := below_alloc1 _ _
  go_enter Try.func29, Try.ntmps29
  go_wp2_with fail
  generalize w.alloc (.cells #[.pointer none, .slice none 0 0] 67) = W0 at *
  go_loopw [7] (fun i wr => ∃ k : Nat, k ≤ s.size ∧ i = .int .i64 k ∧ Hid (IsB w.heap.size w.heap.size (Lib.byteCells (escL (s.data.toList.take k))) wr) ∧ Hid (Below w.heap.size w wr)) (fun i _ => s.size - (intOf i).toNat)
  case atStart => exact ⟨0, Nat.zero_le _, rfl, HB0.out, HW0.out⟩
  case round =>
    obtain ⟨k, hk, rfl, HB, HW⟩ := hrel
    by_cases hlt : k < s.size
    · have hk2 : k < s.data.toList.length := by simpa using hlt
      have hlt' : (k : Int) < s.size := by omega
      have HS := Lib.hid (escL_snoc s.data.toList k hk2)
      rw [at_list s k hlt] at HS
      have hl1 : (Lib.byteCells (escL (s.data.toList.take k))).length ≤ 2 * k := by
        rw [Lib.byteCells_length]
        have := escL_le (s.data.toList.take k)
        have := List.length_take_le k s.data.toList
        omega
      have HA : Hid (∀ l : List UInt8, Lib.byteCells (escL (s.data.toList.take k)) ++ Lib.byteCells l = Lib.byteCells (escL (s.data.toList.take k) ++ l)) := fun l => by simp [Lib.byteCells]
      have h10 := u8_eq (c := s[k]) (n := 10) (by omega)
      have n10 := u8_ne (c := s[k]) (n := 10) (by omega)
      have h13 := u8_eq (c := s[k]) (n := 13) (by omega)
      have n13 := u8_ne (c := s[k]) (n := 13) (by omega)
      have h92 := u8_eq (c := s[k]) (n := 92) (by omega)
      have n92 := u8_ne (c := s[k]) (n := 92) (by omega)
      by_cases e10 : s[k] = 10
      · replace h10 := h10 e10
        clear n10 h13 n13 h92 n92
        have HL : Hid (escL (s.data.toList.take k) ++ [92, 110] = escL (s.data.toList.take (k + 1))) := by
          show _ = escL (s.data.toList.take (k + 1))
          rw [HS.out]; simp [escB, *]
        clear HS
        clear e10
        go_wp2_with (go_at_call 27; (refine (writeStr_any _ _ _ ⟨#[92, 110]⟩ _ HB.out (by show _ + 2 ≤ _; omega)).mono ?_); rintro e w2 ⟨rfl, hu2, hb2⟩)
        go_roundw
        case rel => exact ⟨k + 1, by omega, by go_num, .inr (HL.out ▸ HA.out [92, 110] ▸ hu2), HW.out.trans hb2⟩
        case measure => simp [intOf]; omega
      replace n10 := n10 e10
      by_cases e13 : s[k] = 13
      · replace h13 := h13 e13
        clear h10 n13 h92 n92
        have HL : Hid (escL (s.data.toList.take k) ++ [92, 114] = escL (s.data.toList.take (k + 1))) := by
          show _ = escL (s.data.toList.take (k + 1))
          rw [HS.out]; simp [escB, *]
        clear HS
        clear e10 e13
        go_wp2_with (go_at_call 27; (refine (writeStr_any _ _ _ ⟨#[92, 114]⟩ _ HB.out (by show _ + 2 ≤ _; omega)).mono ?_); rintro e w2 ⟨rfl, hu2, hb2⟩)
        go_roundw
        case rel => exact ⟨k + 1, by omega, by go_num, .inr (HL.out ▸ HA.out [92, 114] ▸ hu2), HW.out.trans hb2⟩
        case measure => simp [intOf]; omega
      replace n13 := n13 e13
      by_cases e92 : s[k] = 92
      · replace h92 := h92 e92
        clear h10 h13 n92
        have HL : Hid (escL (s.data.toList.take k) ++ [92, 92] = escL (s.data.toList.take (k + 1))) := by
          show _ = escL (s.data.toList.take (k + 1))
          rw [HS.out]; simp [escB, *]
        clear HS
        clear e10 e13 e92
        go_wp2_with (go_at_call 27; (refine (writeStr_any _ _ _ ⟨#[92, 92]⟩ _ HB.out (by show _ + 2 ≤ _; omega)).mono ?_); rintro e w2 ⟨rfl, hu2, hb2⟩)
        go_roundw
        case rel => exact ⟨k + 1, by omega, by go_num, .inr (HL.out ▸ HA.out [92, 92] ▸ hu2), HW.out.trans hb2⟩
        case measure => simp [intOf]; omega
      · replace n92 := n92 e92
        clear h10 h13 h92
        have HL : Hid (escL (s.data.toList.take k) ++ [s[k]] = escL (s.data.toList.take (k + 1))) := by
          show _ = escL (s.data.toList.take (k + 1))
          rw [HS.out]; simp [escB, *]
        clear HS
        clear e10 e13 e92
        go_wp2_with (go_at_call 48; (refine (writeByte_any _ _ _ (s[k].toNat : Int) _ HB.out (by omega)).mono ?_); rintro e w2 ⟨rfl, hu2, hb2⟩)
        go_roundw
        case rel => exact ⟨k + 1, by omega, by go_num, .inr (HL.out ▸ HA.out [s[k]] ▸ hu2), HW.out.trans hb2⟩
        case measure => simp [intOf]; omega
    · obtain rfl : k = s.size := by omega
      have HE : Hid (escL (s.data.toList.take s.size) = escL s.data.toList) := by
        show escL (s.data.toList.take s.size) = _
        rw [List.take_of_length_le (by simp)]
      rw [HE.out] at HB
      go_wp2_with (go_at_call 31; (refine (Try.Builder_String_any _ _ _ _ HB.out HW.out.size).mono ?_); rintro e w2 ⟨rfl, hb2⟩)
      go_ret
      exact ⟨rfl, HW.out.trans hb2⟩
end Go.Proofs.Ytpnmficlebnajaa
