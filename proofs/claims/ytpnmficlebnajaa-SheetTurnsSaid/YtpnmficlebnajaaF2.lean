/- unescape, and the document's read. -/
import Derived.Test.YtpnmficlebnajaaF1
import Derived.Test.YtpnmficlebnajaaE4
namespace Go.Proofs.Ytpnmficlebnajaa
open Go.RowKit

/-- What unescape answers. -/
def unT (l : List UInt8) : ByteArray := ⟨((unesc l).getD []).toArray⟩
def unOk (l : List UInt8) : Bool := (unesc l).isSome
theorem un_none {l : List UInt8} (h : unesc l = none) : unT l = ⟨#[]⟩ ∧ unOk l = false := by simp [unT, unOk, h]
theorem un_some {l A : List UInt8} (h : unesc l = some A) : unT l = ⟨A.toArray⟩ ∧ unOk l = true := by simp [unT, unOk, h]
theorem un_ret_none {l : List UInt8} (h : unesc l = none) : Ending.returned (.tuple #[.string ⟨#[]⟩, .bool false]) = Ending.returned (.tuple #[.string (unT l), .bool (unOk l)]) := by rw [(un_none h).1, (un_none h).2]
theorem un_ret_some {l A : List UInt8} (h : unesc l = some A) : Ending.returned (.tuple #[.string ⟨A.toArray⟩, .bool true]) = Ending.returned (.tuple #[.string (unT l), .bool (unOk l)]) := by rw [(un_some h).1, (un_some h).2]

set_option maxRecDepth 100000 in
set_option maxHeartbeats 2000000 in
theorem unescape_any (s : ByteArray) (w : World) (hs : s.size ≤ 1000000) :
    Calls Try.prog 51 #[.string s] w fun e w' => e = .returned (.tuple #[.string (unT s.data.toList), .bool (unOk s.data.toList)]) ∧ Below w.heap.size w w' := by
  have HB0 := Lib.hid (IsB.fresh w)
  have HW0 : Hid (Below w.heap.size w (w.alloc (.cells #[.pointer none, .slice none 0 0] 67))) := below_alloc1 _ _
  go_enter Try.func51, Try.ntmps51
  go_wp2_with fail
  generalize w.alloc (.cells #[.pointer none, .slice none 0 0] 67) = W0 at *
  go_loopw [5] (fun i wr => ∃ (k : Nat) (A : List UInt8), k ≤ s.size ∧ i = .int .i64 k ∧ A.length ≤ k ∧ Hid (unA s.data.toList k A) ∧ Hid (IsB w.heap.size w.heap.size (Lib.byteCells A) wr) ∧ Hid (Below w.heap.size w wr)) (fun i _ => s.size - (intOf i).toNat)
  case atStart => exact ⟨0, [], Nat.zero_le _, rfl, Nat.le_refl _, unA_zero _, HB0.out, HW0.out⟩
  case round =>
    obtain ⟨k, A, hk, rfl, hA, HU, HB, HW⟩ := hrel
    by_cases hlt : k < s.size
    · have hk2 : k < s.data.toList.length := by simpa using hlt
      have hlt' : (k : Int) < s.size := by omega
      have HS := Lib.hid (List.drop_eq_getElem_cons hk2)
      rw [at_list s k hlt] at HS
      have hl1 : (Lib.byteCells A).length ≤ k := by rw [Lib.byteCells_length]; exact hA
      have HA : Hid (∀ l : List UInt8, Lib.byteCells A ++ Lib.byteCells l = Lib.byteCells (A ++ l)) := fun l => by simp [Lib.byteCells]
      have h13 := u8_eq (c := s[k]) (n := 13) (by omega)
      have n13 := u8_ne (c := s[k]) (n := 13) (by omega)
      have h92 := u8_eq (c := s[k]) (n := 92) (by omega)
      have n92 := u8_ne (c := s[k]) (n := 92) (by omega)
      have hA' : ∀ x : UInt8, (A ++ [x]).length ≤ k + 1 := fun x => by simp; omega
      by_cases e13 : s[k] = 13
      · replace h13 := h13 e13
        have HN : Hid (unesc s.data.toList = none) := unA_none HU.out (by rw [HS.out, e13, unesc_cr])
        clear n13 h92 n92 e13
        go_wp2_with fail
        refine bodyPost_ret (results_tmp2 rfl _ _ _) rfl ?_
        exact ⟨un_ret_none HN.out, HW.out⟩
      replace n13 := n13 e13
      by_cases e92 : s[k] = 92
      case neg =>
        replace n92 := n92 e92
        have n92' : ((s[k].toNat : Int) != 92) = true := by show (!((s[k].toNat : Int) == 92)) = true; rw [show ((s[k].toNat : Int) == 92) = false from n92]; rfl
        have HN : Hid (unA s.data.toList (k + 1) (A ++ [s[k]])) := unA_step HU.out (by rw [HS.out, unesc_raw _ e13 e92])
        clear h13 h92 e13 e92
        go_wp2_with (go_at_call 48; (refine (writeByte_any _ _ _ (s[k].toNat : Int) _ HB.out (by omega)).mono ?_); rintro e w2 ⟨rfl, hu2, hb2⟩)
        go_roundw
        case rel => exact ⟨k + 1, _, by omega, by go_num, hA' s[k], HN.out, .inr (HA.out [s[k]] ▸ hu2), HW.out.trans hb2⟩
        case measure => simp [intOf]; omega
      case pos =>
      replace h92 := h92 e92
      have n92' : ((s[k].toNat : Int) != 92) = false := by show (!((s[k].toNat : Int) == 92)) = false; rw [show ((s[k].toNat : Int) == 92) = true from h92]; rfl
      rw [e92] at HS
      clear h13 n92 e13 e92
      by_cases hl2 : k + 1 < s.size
      case neg =>
        have HN : Hid (unesc s.data.toList = none) := unA_none HU.out (by rw [HS.out, List.drop_eq_nil_of_le (by simp; omega), unesc_end])
        have heq : ((k : Int) + 1 == s.size) = true := by simp; omega
        clear hA'
        go_wp2_with fail
        refine bodyPost_ret (results_tmp2 rfl _ _ _) rfl ?_
        exact ⟨un_ret_none HN.out, HW.out⟩
      have hk3 : k + 1 < s.data.toList.length := by simpa using hl2
      have hl2' : (k : Int) + 1 < s.size := by omega
      have heq : ((k : Int) + 1 == s.size) = false := by simp; omega
      have HS2 := Lib.hid (List.drop_eq_getElem_cons hk3)
      rw [at_list s (k + 1) hl2] at HS2
      have m110 := u8_eq (c := s[k + 1]) (n := 110) (by omega)
      have o110 := u8_ne (c := s[k + 1]) (n := 110) (by omega)
      have m114 := u8_eq (c := s[k + 1]) (n := 114) (by omega)
      have o114 := u8_ne (c := s[k + 1]) (n := 114) (by omega)
      have m92 := u8_eq (c := s[k + 1]) (n := 92) (by omega)
      have o92 := u8_ne (c := s[k + 1]) (n := 92) (by omega)
      have hA2 : ∀ x : UInt8, (A ++ [x]).length ≤ k + 1 + 1 := fun x => by simp; omega
      clear hA'
      by_cases e1 : s[k + 1] = 110
      · replace m110 := m110 e1
        have HN : Hid (unA s.data.toList (k + 1 + 1) (A ++ [10])) := unA_step HU.out (by rw [HS.out, HS2.out, e1, unesc_n])
        clear o110 m114 o114 m92 o92 e1
        go_wp2_with (go_at_call 48; (refine (writeByte_any _ _ _ 10 _ HB.out (by omega)).mono ?_); rintro e w2 ⟨rfl, hu2, hb2⟩)
        go_roundw
        case rel => exact ⟨k + 1 + 1, _, by omega, by go_num, hA2 10, HN.out, .inr (HA.out [10] ▸ hu2), HW.out.trans hb2⟩
        case measure => simp [intOf]; omega
      replace o110 := o110 e1
      by_cases e2 : s[k + 1] = 114
      · replace m114 := m114 e2
        have HN : Hid (unA s.data.toList (k + 1 + 1) (A ++ [13])) := unA_step HU.out (by rw [HS.out, HS2.out, e2, unesc_r])
        clear m110 o114 m92 o92 e1 e2
        go_wp2_with (go_at_call 48; (refine (writeByte_any _ _ _ 13 _ HB.out (by omega)).mono ?_); rintro e w2 ⟨rfl, hu2, hb2⟩)
        go_roundw
        case rel => exact ⟨k + 1 + 1, _, by omega, by go_num, hA2 13, HN.out, .inr (HA.out [13] ▸ hu2), HW.out.trans hb2⟩
        case measure => simp [intOf]; omega
      replace o114 := o114 e2
      by_cases e3 : s[k + 1] = 92
      · replace m92 := m92 e3
        have HN : Hid (unA s.data.toList (k + 1 + 1) (A ++ [92])) := unA_step HU.out (by rw [HS.out, HS2.out, e3, unesc_b])
        clear m110 m114 o92 e1 e2 e3
        go_wp2_with (go_at_call 48; (refine (writeByte_any _ _ _ 92 _ HB.out (by omega)).mono ?_); rintro e w2 ⟨rfl, hu2, hb2⟩)
        go_roundw
        case rel => exact ⟨k + 1 + 1, _, by omega, by go_num, hA2 92, HN.out, .inr (HA.out [92] ▸ hu2), HW.out.trans hb2⟩
        case measure => simp [intOf]; omega
      · replace o92 := o92 e3
        have HN : Hid (unesc s.data.toList = none) := unA_none HU.out (by rw [HS.out, HS2.out, unesc_bad _ e1 e2 e3])
        clear m110 m114 m92 e1 e2 e3
        go_wp2_with fail
        refine bodyPost_ret (results_tmp2 rfl _ _ _) rfl ?_
        exact ⟨un_ret_none HN.out, HW.out⟩
    · obtain rfl : k = s.size := by omega
      have HE : Hid (unesc s.data.toList = some A) := unA_end HU.out (by simp)
      go_wp2_with (go_at_call 31; (refine (Try.Builder_String_any _ _ _ _ HB.out HW.out.size).mono ?_); rintro e w2 ⟨rfl, hb2⟩)
      refine bodyPost_ret (results_tmp2 rfl _ _ _) rfl ?_
      exact ⟨un_ret_some HE.out, HW.out.trans hb2⟩
end Go.Proofs.Ytpnmficlebnajaa
