/- The document's decimal. -/
import Derived.Test.YtmbbhnbfgcmkgaaDoorD2
namespace Go.Proofs.YtmbbhnbfgcmkgaaDoor
open Go.RowKit
theorem dg_bytes (m : Nat) (hm : m < 10) : (⟨#[48, 49, 50, 51, 52, 53, 54, 55, 56, 57, 97, 98, 99, 100, 101, 102]⟩ : ByteArray).extract m (m + 1) = ⟨#[UInt8.ofNat (48 + m)]⟩ := by
  obtain rfl | rfl | rfl | rfl | rfl | rfl | rfl | rfl | rfl | rfl : m = 0 ∨ m = 1 ∨ m = 2 ∨ m = 3 ∨ m = 4 ∨ m = 5 ∨ m = 6 ∨ m = 7 ∨ m = 8 ∨ m = 9 := by omega
  all_goals rfl
theorem decD_lt (m : Nat) (h : m < 10) : Lib.decDigits m = [UInt8.ofNat (48 + m)] := by rw [Lib.decDigits, dif_pos h]
theorem decD_ge (m : Nat) (h : ¬ m < 10) : Lib.decDigits m = Lib.decDigits (m / 10) ++ [UInt8.ofNat (48 + m % 10)] := by rw [Lib.decDigits, dif_neg h]
def decP (m : Nat) : List UInt8 := if m < 10 then [] else Lib.decDigits (m / 10)
theorem decP_eq (m : Nat) : decP m ++ [UInt8.ofNat (48 + m % 10)] = Lib.decDigits m := by
  unfold decP
  split
  · rw [decD_lt m (by assumption), Nat.mod_eq_of_lt (by assumption)]; rfl
  · rw [decD_ge m (by assumption)]
set_option maxRecDepth 100000 in
set_option maxHeartbeats 4000000 in
theorem decimal_any (n : Nat) (w : World) (hn : n ≤ 100000) :
    Calls Tryd.prog 37 #[.int .i64 (n : Int)] w fun e w' => e = .returned (.string ⟨(Lib.decDigits n).toArray⟩) ∧ w' = w := by
  have hm10 : n % 10 < 10 := by omega
  have ht : ((n : Int)).tmod 10 = ((n % 10 : Nat) : Int) := by rw [Int.tmod_eq_emod_of_nonneg (by omega)]; omega
  have hcut := dg_bytes (n % 10) hm10
  go_enter Tryd.func37, Tryd.ntmps37
  go_wp2_with fail
  go_loopw [0, 3] (fun v u wr => wr = w ∧ ∃ (m : Nat) (acc : List UInt8), v = .int .i64 (m : Int) ∧ u = .string ⟨(UInt8.ofNat (48 + m % 10) :: acc).toArray⟩ ∧ m ≤ n ∧ acc.length + m ≤ n ∧ Hid (decP m ++ (UInt8.ofNat (48 + m % 10) :: acc) = Lib.decDigits n)) (fun v _ _ => (intOf v).toNat)
  case atStart => exact ⟨rfl, n, [], rfl, by first | rfl | (rw [hcut]), Nat.le_refl _, by simp, by show _ = _; exact decP_eq n⟩
  case round =>
    obtain ⟨rfl, m, acc, rfl, rfl, hm, hl, HE⟩ := hrel
    clear hcut ht hm10
    by_cases h9 : m < 10
    · have h9a : ¬ (9 : Int) < m := by omega
      have HR : Hid (UInt8.ofNat (48 + m % 10) :: acc = Lib.decDigits n) := by have := HE.out; unfold decP at this; rw [if_pos h9] at this; exact this
      generalize UInt8.ofNat (48 + m % 10) :: acc = r at *
      go_wp2_with fail
      go_ret
      exact ⟨by rw [← HR.out]; rfl, rfl⟩
    · have h9a : (9 : Int) < m := by omega
      have hq : ((m : Int)).tdiv 10 = ((m / 10 : Nat) : Int) := by rw [Int.tdiv_eq_ediv_of_nonneg (by omega)]; omega
      have hcut := dg_bytes (m / 10 % 10) (by omega)
      have ht : (((m / 10 : Nat) : Int)).tmod 10 = ((m / 10 % 10 : Nat) : Int) := by rw [Int.tmod_eq_emod_of_nonneg (by omega)]; omega
      have hcat := fun W => catS [UInt8.ofNat (48 + m / 10 % 10)] (UInt8.ofNat (48 + m % 10) :: acc) (by simp only [List.length_cons, List.length_nil]; omega) W
      have HE2 : Hid (decP (m / 10) ++ (UInt8.ofNat (48 + m / 10 % 10) :: (UInt8.ofNat (48 + m % 10) :: acc)) = Lib.decDigits n) := by
        show _ = _
        rw [← HE.out]
        have h1 := decP_eq (m / 10)
        have h2 : decP m = Lib.decDigits (m / 10) := by unfold decP; rw [if_neg h9]
        rw [h2, ← h1]; simp
      have hlt : m / 10 < m := by omega
      have hle : m / 10 + 1 ≤ m := by omega
      have hm10 : m / 10 % 10 < 10 := by omega
      have hrl : (UInt8.ofNat (48 + m % 10) :: acc).length + m / 10 ≤ n := by rw [List.length_cons]; omega
      generalize UInt8.ofNat (48 + m % 10) :: acc = r at *
      have HD : Hid (UInt8.ofNat (48 + m / 10 % 10) = UInt8.ofNat (48 + m / 10 % 10)) := rfl
      generalize hd : UInt8.ofNat (48 + m / 10 % 10) = d at *
      replace HD := Lib.hid hd
      clear hd
      simp only [List.cons_append, List.nil_append] at hcat
      go_wp2_with fail
      go_roundw
      case rel => exact ⟨trivial, m / 10, r, by rw [Int.natCast_ediv]; rfl, by rw [HD.out]; exact congrArg Value.string (ByteArray.ext (by simp)), by omega, hrl, by show _ = _; rw [HD.out]; exact HE2.out⟩
      case measure => simp [intOf]; omega
theorem decL_eq (n : Nat) (h : n < 1000) : Lib.decDigits n = decL (n : Int) := by
  have := dec_itoa (n := (n : Int)) (by omega) (by omega)
  unfold Lib.itoa at this
  rw [if_neg (by omega)] at this
  simpa using this
theorem refDec_any (x : Int) (w : World) (h0 : 0 ≤ x) (h1 : x < 1000) :
    Calls Tryd.prog 37 #[.int .i64 x] w fun e w' => e = .returned (.string ⟨(decL x).toArray⟩) ∧ Below w.heap.size w w' := by
  obtain ⟨n, rfl⟩ := Int.eq_ofNat_of_zero_le h0
  refine (decimal_any n w (by omega)).mono ?_
  rintro e w' ⟨rfl, rfl⟩
  exact ⟨by rw [decL_eq n (by omega)], Below.refl _ _⟩
end Go.Proofs.YtmbbhnbfgcmkgaaDoor
