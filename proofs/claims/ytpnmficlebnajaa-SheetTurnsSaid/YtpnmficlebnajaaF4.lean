/- The document's find and read. -/
import Derived.Test.YtpnmficlebnajaaF3
namespace Go.Proofs.Ytpnmficlebnajaa
open Go.RowKit

theorem indexByte_step (l : List UInt8) (k : Nat) (c : UInt8) (h : k < l.length) (hn : Lib.indexByte (l.take k) c = -1) (hc : l[k] = c) : Lib.indexByte l c = k := by
  have h1 := (idx_none (l := l.take k) (c := c) (by omega)).2
  have e : l = l.take k ++ [c] ++ l.drop (k + 1) := by
    rw [List.append_assoc, List.singleton_append, ← hc, ← List.drop_eq_getElem_cons h, List.take_append_drop]
  rw [e, idx_of h1, List.length_take]; omega
theorem indexByte_not (l : List UInt8) (c : UInt8) (h : ∀ x ∈ l, x ≠ c) : Lib.indexByte l c = -1 := by
  induction l with
  | nil => rfl
  | cons b l ih =>
    have h1 : (b == c) = false := by simpa using h b (by simp)
    have h2 := ih fun x hx => h x (by simp [hx])
    simp [Lib.indexByte, h1, h2]

set_option maxRecDepth 100000 in
set_option maxHeartbeats 1000000 in
theorem find_any (s : ByteArray) (c : UInt8) (w : World) (hs : s.size ≤ 1000000) :
    Calls Try.prog 38 #[.string s, .int .u8 (c.toNat : Int)] w fun e w' => e = .returned (.int .i64 (Lib.indexByte s.data.toList c)) ∧ w = w' := by
  go_enter Try.func38, Try.ntmps38
  go_wp2_with fail
  go_loop [5] (fun i => ∃ k : Nat, k ≤ s.size ∧ i = .int .i64 k ∧ Hid (∀ x ∈ s.data.toList.take k, x ≠ c)) (fun i => s.size - (intOf i).toNat)
  case atStart => exact ⟨0, Nat.zero_le _, rfl, by intro x hx; simp at hx⟩
  case round =>
    obtain ⟨k, hk, rfl, HN⟩ := hrel
    by_cases hlt : k < s.size
    · have hk2 : k < s.data.toList.length := by simpa using hlt
      have hlt' : (k : Int) < s.size := by omega
      have hat := at_list s k hlt
      by_cases e : s[k] = c
      · have HR : Hid (Lib.indexByte s.data.toList c = k) := indexByte_step _ _ _ hk2 (indexByte_not _ _ HN.out) (hat.trans e)
        have he : ((s[k].toNat : Int) == (c.toNat : Int)) = true := by rw [e]; simp
        clear hat e
        go_wp2_with fail
        go_ret
        exact ⟨by rw [HR.out]; rfl, rfl⟩
      · have HR : Hid (∀ x ∈ s.data.toList.take (k + 1), x ≠ c) := by
          intro x hx
          rw [List.take_succ_eq_append_getElem hk2, hat] at hx
          rcases List.mem_append.1 hx with h | h
          · exact HN.out x h
          · rw [List.mem_singleton] at h; rw [h]; exact e
        have he : ((s[k].toNat : Int) == (c.toNat : Int)) = false := by
          rw [beq_eq_false_iff_ne]; intro h; exact e (UInt8.toNat_inj.1 (by omega))
        clear hat e
        go_wp2_with fail
        go_round
        case rel => exact ⟨k + 1, by omega, by go_num, HR.out⟩
        case measure => simp [intOf]; omega
    · obtain rfl : k = s.size := by omega
      have HR : Hid (Lib.indexByte s.data.toList c = -1) := indexByte_not _ _ (by have := HN.out; rwa [List.take_of_length_le (by simp)] at this)
      go_wp2_with fail
      go_ret
      exact ⟨by rw [HR.out]; rfl, rfl⟩

set_option maxRecDepth 100000 in
set_option maxHeartbeats 2000000 in
theorem read_any (s : ByteArray) (w : World) (hs : s.size ≤ 1000000) :
    Calls Try.prog 39 #[.string s] w fun e w' => e = .returned (.tuple #[.string (unT s.data.toList), .bool (unOk s.data.toList)]) ∧ Below w.heap.size w w' := by
  go_enter Try.func39, Try.ntmps39
  go_wp2_with fail
  go_loopw [4, 5] (fun o i wr => ∃ (k : Nat) (A : List UInt8), k ≤ s.size ∧ i = .int .i64 k ∧ o = .string ⟨A.toArray⟩ ∧ A.length ≤ k ∧ Hid (unA s.data.toList k A) ∧ Hid (Below w.heap.size w wr)) (fun _ i _ => s.size - (intOf i).toNat)
  case atStart => exact ⟨0, [], Nat.zero_le _, rfl, rfl, Nat.le_refl _, unA_zero _, Below.refl _ _⟩
  case round =>
    obtain ⟨k, A, hk, rfl, rfl, hA, HU, HW⟩ := hrel
    by_cases hlt : k < s.size
    · have hk2 : k < s.data.toList.length := by simpa using hlt
      have hlt' : (k : Int) < s.size := by omega
      have HS := Lib.hid (List.drop_eq_getElem_cons hk2)
      rw [at_list s k hlt] at HS
      have hcvk := fun w => conv1 s[k] w
      have hAs : (A.length : Int) ≤ 1000000 := by omega
      have hA' : ∀ x : UInt8, (A ++ [x]).length ≤ k + 1 := fun x => by simp; omega
      have hA2 : ∀ x : UInt8, (A ++ [x]).length ≤ k + 1 + 1 := fun x => by simp; omega
      have h13 := u8_eq (c := s[k]) (n := 13) (by omega)
      have n13 := u8_ne (c := s[k]) (n := 13) (by omega)
      have h92 := u8_eq (c := s[k]) (n := 92) (by omega)
      have n92 := u8_ne (c := s[k]) (n := 92) (by omega)
      by_cases e13 : s[k] = 13
      · replace h13 := h13 e13
        have HN : Hid (unesc s.data.toList = none) := unA_none HU.out (by rw [HS.out, e13, unesc_cr])
        clear n13 h92 n92 e13 hA' hA2
        go_wp2_with fail
        refine bodyPost_ret (results_tmp2 rfl _ _ _) rfl ?_
        exact ⟨un_ret_none HN.out, HW.out⟩
      replace n13 := n13 e13
      by_cases e92 : s[k] = 92
      case neg =>
        replace n92 := n92 e92
        have HN : Hid (unA s.data.toList (k + 1) (A ++ [s[k]])) := unA_step HU.out (by rw [HS.out, unesc_raw _ e13 e92])
        clear h13 h92 e13 e92 hA2
        go_wp2_with fail
        go_roundw
        case rel => exact ⟨k + 1, _, by omega, by go_num, by simp [str_app2], hA' s[k], HN.out, HW.out.alloc HW.out.size _⟩
        case measure => simp [intOf]; omega
      case pos =>
      replace h92 := h92 e92
      have HC := Lib.hid e92
      rw [e92] at HS
      clear h13 n92 e13 e92 hA' hcvk
      by_cases hl2 : k + 1 < s.size
      case neg =>
        have HN : Hid (unesc s.data.toList = none) := unA_none HU.out (by rw [HS.out, List.drop_eq_nil_of_le (by simp; omega), unesc_end])
        have heq : ((k : Int) + 1 == s.size) = true := by simp; omega
        clear hA2
        go_wp2_with fail
        refine bodyPost_ret (results_tmp2 rfl _ _ _) rfl ?_
        exact ⟨un_ret_none HN.out, HW.out⟩
      have hk3 : k + 1 < s.data.toList.length := by simpa using hl2
      have hl2' : (k : Int) + 1 < s.size := by omega
      have heq : ((k : Int) + 1 == s.size) = false := by simp; omega
      have HS2 := Lib.hid (List.drop_eq_getElem_cons hk3)
      rw [at_list s (k + 1) hl2] at HS2
      have m110 := u8_eq (c := s[k + 1]) (n := 110) (by omega)
      have o110 := u8_ne (c := s[k + 1]) (n := 110) (by omega)
      have m114 := u8_eq (c := s[k + 1]) (n := 114) (by omega)
      have o114 := u8_ne (c := s[k + 1]) (n := 114) (by omega)
      have m92 := u8_eq (c := s[k + 1]) (n := 92) (by omega)
      have o92 := u8_ne (c := s[k + 1]) (n := 92) (by omega)
      by_cases e1 : s[k + 1] = 110
      · replace m110 := m110 e1
        have HN : Hid (unA s.data.toList (k + 1 + 1) (A ++ [10])) := unA_step HU.out (by rw [HS.out, HS2.out, e1, unesc_n])
        have hcvk : ∀ w : World, (convert 65 9 (.slice (some ⟨w.heap.size, 0, none⟩) 1 1)).run Try.prog (w.alloc (.cells #[.int .u8 10] 5)) = .ok (.string ⟨#[10]⟩) (w.alloc (.cells #[.int .u8 10] 5)) := fun w => conv1 10 w
        clear o110 m114 o114 m92 o92 e1
        go_wp2_with fail
        go_roundw
        case rel => exact ⟨k + 1 + 1, _, by omega, by go_num, by simp [str_app2], hA2 10, HN.out, HW.out.alloc HW.out.size _⟩
        case measure => simp [intOf]; omega
      replace o110 := o110 e1
      by_cases e2 : s[k + 1] = 114
      · replace m114 := m114 e2
        have HN : Hid (unA s.data.toList (k + 1 + 1) (A ++ [13])) := unA_step HU.out (by rw [HS.out, HS2.out, e2, unesc_r])
        have hcvk : ∀ w : World, (convert 65 9 (.slice (some ⟨w.heap.size, 0, none⟩) 1 1)).run Try.prog (w.alloc (.cells #[.int .u8 13] 5)) = .ok (.string ⟨#[13]⟩) (w.alloc (.cells #[.int .u8 13] 5)) := fun w => conv1 13 w
        clear m110 o114 m92 o92 e1 e2
        go_wp2_with fail
        go_roundw
        case rel => exact ⟨k + 1 + 1, _, by omega, by go_num, by simp [str_app2], hA2 13, HN.out, HW.out.alloc HW.out.size _⟩
        case measure => simp [intOf]; omega
      replace o114 := o114 e2
      by_cases e3 : s[k + 1] = 92
      · replace m92 := m92 e3
        have HN : Hid (unA s.data.toList (k + 1 + 1) (A ++ [92])) := unA_step HU.out (by rw [HS.out, HS2.out, e3, unesc_b])
        have hcvk : ∀ w : World, (convert 65 9 (.slice (some ⟨w.heap.size, 0, none⟩) 1 1)).run Try.prog (w.alloc (.cells #[.int .u8 92] 5)) = .ok (.string ⟨#[92]⟩) (w.alloc (.cells #[.int .u8 92] 5)) := fun w => conv1 92 w
        have hcvs : ∀ w : World, (convert 65 9 (.slice (some ⟨w.heap.size, 0, none⟩) 1 1)).run Try.prog (w.alloc (.cells #[.int .u8 (s[k].toNat : Int)] 5)) = .ok (.string ⟨#[s[k]]⟩) (w.alloc (.cells #[.int .u8 (s[k].toNat : Int)] 5)) := fun w => conv1 s[k] w
        clear m110 m114 o92 e1 e2 e3
        go_wp2_with fail
        go_roundw
        case rel => exact ⟨k + 1 + 1, _, by omega, by go_num, by simp [str_app2, HC.out], hA2 92, HN.out, HW.out.alloc HW.out.size _⟩
        case measure => simp [intOf]; omega
      · replace o92 := o92 e3
        have HN : Hid (unesc s.data.toList = none) := unA_none HU.out (by rw [HS.out, HS2.out, unesc_bad _ e1 e2 e3])
        clear m110 m114 m92 e1 e2 e3
        go_wp2_with fail
        refine bodyPost_ret (results_tmp2 rfl _ _ _) rfl ?_
        exact ⟨un_ret_none HN.out, HW.out⟩
    · obtain rfl : k = s.size := by omega
      have HE : Hid (unesc s.data.toList = some A) := unA_end HU.out (by simp)
      go_wp2_with fail
      refine bodyPost_ret (results_tmp2 rfl _ _ _) rfl ?_
      exact ⟨un_ret_some HE.out, HW.out⟩
end Go.Proofs.Ytpnmficlebnajaa
