/- The document's Of: a number's category in a group. -/
import Derived.Test.YtnambaiafailaaaDoorE7
import Derived.Deep.DeepCutAuto
namespace Go.Proofs.YtnambaiafailaaaDoor
open Go.RowKit

def fewB (n : Int) : Bool := wB (n % 10) 2 4 && !wB (n % 100) 12 14
theorem cat_0 (n : Int) : catI 0 n = if n = 1 then 1 else 5 := by
  show (if (n == 1) then 1 else 5 : Int) = _
  simp
theorem cat_2 (n : Int) : catI 2 n = if n < 2 then 1 else 5 := by
  show (if decide (n < 2) then 1 else 5 : Int) = _
  simp
theorem cat_3 (n : Int) : catI 3 n = if n % 10 = 1 ∧ ¬ n % 100 = 11 then 1 else if fewB n then 3 else 4 := by
  show (if (n % 10 == 1 && n % 100 != 11) then 1 else slavI n : Int) = _
  simp [wB, slavI, fewB]
theorem cat_4 (n : Int) : catI 4 n = if n = 1 then 1 else if fewB n then 3 else 4 := by
  show (if (n == 1) then 1 else slavI n : Int) = _
  simp [wB, slavI, fewB]
theorem cat_5 (n : Int) : catI 5 n = if n = 1 then 1 else if 2 ≤ n ∧ n ≤ 4 then 3 else 5 := by
  show (if (n == 1) then 1 else cs5 n : Int) = _
  simp [wB, cs5]
theorem cat_6 (n : Int) : catI 6 n = if n < 3 then n else if 3 ≤ n % 100 ∧ n % 100 ≤ 10 then 3 else if 11 ≤ n % 100 ∧ n % 100 ≤ 99 then 4 else 5 := by
  show (arabI n : Int) = _
  simp [wB, arabI]
theorem cat_7 (n : Int) : catI 7 n = if n % 10 = 1 ∧ teenB n = false then 1 else if (2 ≤ n % 10 ∧ n % 10 ≤ 9) ∧ teenB n = false then 3 else 5 := by
  show (if (n % 10 == 1 && !teenB n) then 1 else lt9 n : Int) = _
  simp [wB, lt9]
theorem bool_v {a b : Bool} (h : a = b) : Value.bool a = Value.bool b := by rw [h]
set_option maxRecDepth 100000 in
set_option maxHeartbeats 4000000 in
theorem refOf_any (g : Nat) (n : Int) (w : World) (hg : g ≤ 7) (h0 : 0 ≤ n) (h1 : n ≤ 18446744073709551615) :
    Calls Tryd.prog 34 #[.int .i64 (g : Int), .int .u64 n] w fun e w' => e = .returned (.int .i64 (catI g n)) ∧ w = w' := by
  have ht0 : 0 ≤ n % 10 := by omega
  have ht1 : n % 10 < 10 := by omega
  have hh0 : 0 ≤ n % 100 := by omega
  have hh1 : n % 100 < 100 := by omega
  have HF : Hid (fewB n = (wB (n % 10) 2 4 && !wB (n % 100) 12 14)) := rfl
  have HT : Hid (teenB n = (decide (11 ≤ n % 100) && decide (n % 100 ≤ 19))) := rfl
  have HC0 := Lib.hid (cat_0 n)
  have HC2 := Lib.hid (cat_2 n)
  have HC3 := Lib.hid (cat_3 n)
  have HC4 := Lib.hid (cat_4 n)
  have HC5 := Lib.hid (cat_5 n)
  have HC6 := Lib.hid (cat_6 n)
  have HC7 := Lib.hid (cat_7 n)
  have HC1 : Hid (catI 1 n = 5) := rfl
  go_enter Tryd.func34, Tryd.ntmps34
  go_upto_region 2 with fail
  go_cut [7] (fun s7 wx => s7 = .bool (fewB n) ∧ wx = w)
  case first =>
    by_cases a1 : 2 ≤ n % 10 <;> by_cases a2 : n % 10 ≤ 4 <;> by_cases a3 : 12 ≤ n % 100 <;> by_cases a4 : n % 100 ≤ 14
    all_goals
      first
        | (exfalso; omega)
        | (go_wp2_with fail
           go_meet
           exact ⟨bool_v (by rw [HF.out, wB, wB, Bool.eq_iff_iff]; simp; omega), rfl⟩)
  case rest =>
    obtain ⟨rfl, rfl⟩ := hcut
    go_upto_region 3 with fail
    go_cut [8] (fun s8 wx => s8 = .bool (teenB n) ∧ wx = wc)
    case first =>
      by_cases a1 : 11 ≤ n % 100 <;> by_cases a2 : n % 100 ≤ 19
      all_goals
        first
          | (exfalso; omega)
          | (go_wp2_with fail
             go_meet
             exact ⟨bool_v (by rw [HT.out, Bool.eq_iff_iff]; simp; omega), rfl⟩)
    case rest =>
      obtain ⟨rfl, rfl⟩ := hcut
      clear HF HT
      generalize fewB n = fw at *
      generalize teenB n = tn at *
      rcases (show g = 0 ∨ g = 1 ∨ g = 2 ∨ g = 3 ∨ g = 4 ∨ g = 5 ∨ g = 6 ∨ g = 7 by omega) with rfl | rfl | rfl | rfl | rfl | rfl | rfl | rfl
      · by_cases b0 : n = 1
        all_goals
          first
            | (exfalso; omega)
            | (go_wp2_with fail
               go_ret
               refine ⟨ret_i64' ?_, rfl⟩
               (first | rw [HC0.out] | (rw [← b0, HC0.out]))
               (repeat' split) <;> first | rfl | omega | (simp_all; done) | (simp_all; omega))
      · skip
        all_goals
          first
            | (exfalso; omega)
            | (go_wp2_with fail
               go_ret
               refine ⟨ret_i64' ?_, rfl⟩
               exact HC1.out.symm)
      · by_cases b0 : n = 1 <;> by_cases b1 : n = 0
        all_goals
          first
            | (exfalso; omega)
            | (go_wp2_with fail
               all_goals
                 (go_ret
                  refine ⟨ret_i64' ?_, rfl⟩
                  (first | rw [HC2.out] | (rw [← b0, HC2.out]) | (rw [← b1, HC2.out]))
                  (repeat' split) <;> first | rfl | omega | (simp_all; done) | (simp_all; omega)))
      · by_cases b0 : n % 10 = 1 <;> by_cases b1 : n % 100 = 11 <;> cases fw
        all_goals
          first
            | (exfalso; omega)
            | (go_wp2_with fail
               go_ret
               refine ⟨ret_i64' ?_, rfl⟩
               rw [HC3.out]
               (repeat' split) <;> first | rfl | omega | (simp_all; done) | (simp_all; omega))
      · by_cases b0 : n = 1 <;> cases fw
        all_goals
          first
            | (exfalso; omega)
            | (go_wp2_with fail
               go_ret
               refine ⟨ret_i64' ?_, rfl⟩
               (first | rw [HC4.out] | (rw [← b0, HC4.out]))
               (repeat' split) <;> first | rfl | omega | (simp_all; done) | (simp_all; omega))
      · by_cases b0 : n = 1 <;> by_cases b1 : 2 ≤ n <;> by_cases b2 : n ≤ 4
        all_goals
          first
            | (exfalso; omega)
            | (go_wp2_with fail
               go_ret
               refine ⟨ret_i64' ?_, rfl⟩
               (first | rw [HC5.out] | (rw [← b0, HC5.out]))
               (repeat' split) <;> first | rfl | omega | (simp_all; done) | (simp_all; omega))
      · by_cases b0 : n ≤ 2 <;> by_cases b1 : 3 ≤ n % 100 <;> by_cases b2 : n % 100 ≤ 10 <;> by_cases b3 : 11 ≤ n % 100
        all_goals
          first
            | (exfalso; omega)
            | (go_wp2_with fail
               go_ret
               refine ⟨ret_i64' ?_, rfl⟩
               rw [HC6.out]
               (repeat' split) <;> first | rfl | omega | (simp_all; done) | (simp_all; omega))
      · by_cases b0 : n % 10 = 1 <;> by_cases b1 : 2 ≤ n % 10 <;> cases tn
        all_goals
          first
            | (exfalso; omega)
            | (go_wp2_with fail
               go_ret
               refine ⟨ret_i64' ?_, rfl⟩
               rw [HC7.out]
               (repeat' split) <;> first | rfl | omega | (simp_all; done) | (simp_all; omega))
end Go.Proofs.YtnambaiafailaaaDoor
