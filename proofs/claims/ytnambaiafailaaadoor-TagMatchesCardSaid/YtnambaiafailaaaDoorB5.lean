/- tag's letters and digits. -/
import Derived.Test.YtnambaiafailaaaDoorB
import Derived.Test.YtnambaiafailaaaDoorA2
namespace Go.Proofs.YtnambaiafailaaaDoor
open Go.RowKit

theorem ltB_int (c : UInt8) : ltB c = ((decide (97 ≤ (c.toNat : Int)) && decide ((c.toNat : Int) ≤ 122)) || (decide (65 ≤ (c.toNat : Int)) && decide ((c.toNat : Int) ≤ 90))) := by
  exact u8_all (p := fun c => ltB c = ((decide (97 ≤ (c.toNat : Int)) && decide ((c.toNat : Int) ≤ 122)) || (decide (65 ≤ (c.toNat : Int)) && decide ((c.toNat : Int) ≤ 90)))) (by decide +kernel) c
theorem dgB_int (c : UInt8) : dgB c = (decide (48 ≤ (c.toNat : Int)) && decide ((c.toNat : Int) ≤ 57)) := by
  exact u8_all (p := fun c => dgB c = (decide (48 ≤ (c.toNat : Int)) && decide ((c.toNat : Int) ≤ 57))) (by decide +kernel) c
theorem loB_int (c : UInt8) : ((loB c).toNat : Int) = if 65 ≤ (c.toNat : Int) ∧ (c.toNat : Int) ≤ 90 then (c.toNat : Int) + 32 else c.toNat := by
  exact u8_all (p := fun c => ((loB c).toNat : Int) = if 65 ≤ (c.toNat : Int) ∧ (c.toNat : Int) ≤ 90 then (c.toNat : Int) + 32 else c.toNat) (by decide +kernel) c
theorem upB_int (c : UInt8) : ((upB c).toNat : Int) = if 97 ≤ (c.toNat : Int) ∧ (c.toNat : Int) ≤ 122 then (c.toNat : Int) - 32 else c.toNat := by
  exact u8_all (p := fun c => ((upB c).toNat : Int) = if 97 ≤ (c.toNat : Int) ∧ (c.toNat : Int) ≤ 122 then (c.toNat : Int) - 32 else c.toNat) (by decide +kernel) c
theorem ret_u8 {a b : Int} (h : a = b) : Ending.returned (.int .u8 a) = .returned (.int .u8 b) := by rw [h]

set_option maxRecDepth 100000 in
set_option maxHeartbeats 1000000 in
theorem letter_any5 (x : UInt8) (w : World) : Calls Tryd.prog 47 #[.int .u8 (x.toNat : Int)] w fun e w' => e = .returned (.bool (ltB x)) ∧ w = w' := by
  rw [ltB_int]
  have h0 : (0 : Int) ≤ (x.toNat : Int) := by omega
  have h5 := byte_lt x
  generalize (x.toNat : Int) = c at *
  by_cases h1 : 97 ≤ c <;> by_cases h2 : c ≤ 122 <;> by_cases h3 : 65 ≤ c <;> by_cases h4 : c ≤ 90
  all_goals
    first
      | (exfalso; omega)
      | (go_enter Tryd.func47, Tryd.ntmps47
         go_wp2
         go_ret
         exact ⟨by simp [*], rfl⟩)
set_option maxRecDepth 100000 in
theorem digit_any5 (x : UInt8) (w : World) : Calls Tryd.prog 50 #[.int .u8 (x.toNat : Int)] w fun e w' => e = .returned (.bool (dgB x)) ∧ w = w' := by
  rw [dgB_int]
  have h0 : (0 : Int) ≤ (x.toNat : Int) := by omega
  have h5 := byte_lt x
  generalize (x.toNat : Int) = c at *
  by_cases h1 : 48 ≤ c <;> by_cases h2 : c ≤ 57
  all_goals
    first
      | (exfalso; omega)
      | (go_enter Tryd.func50, Tryd.ntmps50
         go_wp2
         go_ret
         exact ⟨by simp [*], rfl⟩)
set_option maxRecDepth 100000 in
theorem lower_any5 (x : UInt8) (w : World) : Calls Tryd.prog 48 #[.int .u8 (x.toNat : Int)] w fun e w' => e = .returned (.int .u8 ((loB x).toNat : Int)) ∧ w = w' := by
  rw [loB_int]
  have h0 : (0 : Int) ≤ (x.toNat : Int) := by omega
  have h5 := byte_lt x
  generalize (x.toNat : Int) = c at *
  by_cases h1 : 65 ≤ c <;> by_cases h2 : c ≤ 90
  all_goals
    first
      | (exfalso; omega)
      | (go_enter Tryd.func48, Tryd.ntmps48
         go_wp2
         go_ret
         exact ⟨by simp [*], rfl⟩)
set_option maxRecDepth 100000 in
theorem upper_any5 (x : UInt8) (w : World) : Calls Tryd.prog 49 #[.int .u8 (x.toNat : Int)] w fun e w' => e = .returned (.int .u8 ((upB x).toNat : Int)) ∧ w = w' := by
  rw [upB_int]
  have h0 : (0 : Int) ≤ (x.toNat : Int) := by omega
  have h5 := byte_lt x
  generalize (x.toNat : Int) = c at *
  by_cases h1 : 97 ≤ c <;> by_cases h2 : c ≤ 122
  all_goals
    first
      | (exfalso; omega)
      | (go_enter Tryd.func49, Tryd.ntmps49
         go_wp2
         go_ret
         exact ⟨by simp [*], rfl⟩)
/-- What a predicate of bytes pays. -/
def BytePred (f : Nat) (p : UInt8 → Bool) : Prop := ∀ (x : UInt8) (w : World), Calls Tryd.prog f #[.int .u8 (x.toNat : Int)] w fun e w' => e = .returned (.bool (p x)) ∧ w = w'
theorem all_yes {p : UInt8 → Bool} {s : ByteArray} (h : ∀ i (h : i < s.size), p s[i] = true) : s.data.toList.all p = true := by
  rw [List.all_eq_true]
  intro x hx
  obtain ⟨i, hi, rfl⟩ := List.mem_iff_getElem.1 hx
  have hi' : i < s.size := by simpa using hi
  rw [at_list s i hi']
  exact h i hi'
theorem all_no {p : UInt8 → Bool} {s : ByteArray} {i : Nat} (h : i < s.size) (hp : p s[i] = false) : s.data.toList.all p = false := by
  rw [List.all_eq_false]
  exact ⟨s.data.toList[i]'(by simpa using h), List.getElem_mem _, by rw [at_list s i h, hp]; simp⟩
set_option maxRecDepth 100000 in
set_option maxHeartbeats 1000000 in
theorem all_any5 (fv : Value) (p : UInt8 → Bool) (s : ByteArray) (w : World) (hs : s.size ≤ maxLen) (hf : fv = .func (.func 47) #[] #[] ∧ p = ltB ∨ fv = .func (.func 50) #[] #[] ∧ p = dgB) :
    Calls Tryd.prog 46 #[.string s, fv] w fun e w' => e = .returned (.bool (s.data.toList.all p)) ∧ w = w' := by
  unfold maxLen at hs
  have HY : Hid ((∀ i (h : i < s.size), p s[i] = true) → s.data.toList.all p = true) := all_yes
  have HN : Hid (∀ i (h : i < s.size), p s[i] = false → s.data.toList.all p = false) := fun i h => all_no h
  have HL := Lib.hid letter_any5
  have HD := Lib.hid digit_any5
  rcases hf with ⟨rfl, rfl⟩ | ⟨rfl, rfl⟩
  · generalize s.data.toList.all ltB = bb at *
    go_enter Tryd.func46, Tryd.ntmps46
    go_wp2_with fail
    go_loop [8] (fun i => ∃ k : Nat, k ≤ s.size ∧ i = .int .i64 k ∧ Hid (∀ j (h : j < s.size), j < k → ltB s[j] = true)) (fun i => s.size - (intOf i).toNat)
    case atStart => exact ⟨0, Nat.zero_le _, rfl, fun j h hj => by omega⟩
    case round =>
      obtain ⟨k, hk, rfl, HA⟩ := hrel
      by_cases hlt : k < s.size
      · cases hp : ltB s[k]
        · have HE := Lib.hid (HN.out k hlt hp)
          go_wp2_with (first
            | (go_at_call 47; refine (HL.out _ _).mono ?_; rintro e w' ⟨rfl, rfl⟩)
            | (go_at_call 50; refine (HD.out _ _).mono ?_; rintro e w' ⟨rfl, rfl⟩))
          go_ret
          exact ⟨ret_bool HE.out.symm, rfl⟩
        · have HA2 : Hid (∀ j (h : j < s.size), j < k + 1 → ltB s[j] = true) := fun j h hj => by
            rcases Nat.lt_or_ge j k with h1 | h1
            · exact HA.out j h h1
            · obtain rfl : j = k := by omega
              exact hp
          go_wp2_with (first
            | (go_at_call 47; refine (HL.out _ _).mono ?_; rintro e w' ⟨rfl, rfl⟩)
            | (go_at_call 50; refine (HD.out _ _).mono ?_; rintro e w' ⟨rfl, rfl⟩))
          go_round
          case rel => exact ⟨k + 1, by omega, by go_num, HA2.out⟩
          case measure => simp [intOf]; omega
      · obtain rfl : k = s.size := by omega
        have HE := Lib.hid (HY.out fun i h => HA.out i h h)
        go_wp2_with fail
        go_ret
        exact ⟨ret_bool HE.out.symm, rfl⟩
  · generalize s.data.toList.all dgB = bb at *
    go_enter Tryd.func46, Tryd.ntmps46
    go_wp2_with fail
    go_loop [8] (fun i => ∃ k : Nat, k ≤ s.size ∧ i = .int .i64 k ∧ Hid (∀ j (h : j < s.size), j < k → dgB s[j] = true)) (fun i => s.size - (intOf i).toNat)
    case atStart => exact ⟨0, Nat.zero_le _, rfl, fun j h hj => by omega⟩
    case round =>
      obtain ⟨k, hk, rfl, HA⟩ := hrel
      by_cases hlt : k < s.size
      · cases hp : dgB s[k]
        · have HE := Lib.hid (HN.out k hlt hp)
          go_wp2_with (first
            | (go_at_call 47; refine (HL.out _ _).mono ?_; rintro e w' ⟨rfl, rfl⟩)
            | (go_at_call 50; refine (HD.out _ _).mono ?_; rintro e w' ⟨rfl, rfl⟩))
          go_ret
          exact ⟨ret_bool HE.out.symm, rfl⟩
        · have HA2 : Hid (∀ j (h : j < s.size), j < k + 1 → dgB s[j] = true) := fun j h hj => by
            rcases Nat.lt_or_ge j k with h1 | h1
            · exact HA.out j h h1
            · obtain rfl : j = k := by omega
              exact hp
          go_wp2_with (first
            | (go_at_call 47; refine (HL.out _ _).mono ?_; rintro e w' ⟨rfl, rfl⟩)
            | (go_at_call 50; refine (HD.out _ _).mono ?_; rintro e w' ⟨rfl, rfl⟩))
          go_round
          case rel => exact ⟨k + 1, by omega, by go_num, HA2.out⟩
          case measure => simp [intOf]; omega
      · obtain rfl : k = s.size := by omega
        have HE := Lib.hid (HY.out fun i h => HA.out i h h)
        go_wp2_with fail
        go_ret
        exact ⟨ret_bool HE.out.symm, rfl⟩
end Go.Proofs.YtnambaiafailaaaDoor
