/- The document's Group. -/
import Derived.Test.YtnambaiafailaaaDoorE7
namespace Go.Proofs.YtnambaiafailaaaDoor
open Go.RowKit

set_option maxRecDepth 100000 in
set_option maxHeartbeats 1000000 in
theorem group_ja (lg : List UInt8) (w : World) (hlg : lg = [106, 97]) :
    Calls Tryd.prog 55 #[.string ⟨lg.toArray⟩] w fun e w' => e = .returned (.int .i64 1) ∧ w = w' := by
  obtain ⟨he0, hq0⟩ := eqlS2 ⟨lg.toArray⟩ [106, 97] true (by rw [hlg]; rfl)
  clear hlg
  generalize (⟨lg.toArray⟩ : ByteArray) = sl at *
  go_enter Tryd.func55, Tryd.ntmps55
  go_wp2_with fail
  go_ret
  exact ⟨rfl, rfl⟩
set_option maxRecDepth 100000 in
set_option maxHeartbeats 1000000 in
theorem group_ko (lg : List UInt8) (w : World) (hlg : lg = [107, 111]) :
    Calls Tryd.prog 55 #[.string ⟨lg.toArray⟩] w fun e w' => e = .returned (.int .i64 1) ∧ w = w' := by
  obtain ⟨he0, hq0⟩ := eqlS2 ⟨lg.toArray⟩ [106, 97] false (by rw [hlg]; rfl)
  obtain ⟨he1, hq1⟩ := eqlS2 ⟨lg.toArray⟩ [107, 111] true (by rw [hlg]; rfl)
  clear hlg
  generalize (⟨lg.toArray⟩ : ByteArray) = sl at *
  go_enter Tryd.func55, Tryd.ntmps55
  go_wp2_with fail
  go_ret
  exact ⟨rfl, rfl⟩
set_option maxRecDepth 100000 in
set_option maxHeartbeats 1000000 in
theorem group_zh (lg : List UInt8) (w : World) (hlg : lg = [122, 104]) :
    Calls Tryd.prog 55 #[.string ⟨lg.toArray⟩] w fun e w' => e = .returned (.int .i64 1) ∧ w = w' := by
  obtain ⟨he0, hq0⟩ := eqlS2 ⟨lg.toArray⟩ [106, 97] false (by rw [hlg]; rfl)
  obtain ⟨he1, hq1⟩ := eqlS2 ⟨lg.toArray⟩ [107, 111] false (by rw [hlg]; rfl)
  obtain ⟨he2, hq2⟩ := eqlS2 ⟨lg.toArray⟩ [122, 104] true (by rw [hlg]; rfl)
  clear hlg
  generalize (⟨lg.toArray⟩ : ByteArray) = sl at *
  go_enter Tryd.func55, Tryd.ntmps55
  go_wp2_with fail
  go_ret
  exact ⟨rfl, rfl⟩
set_option maxRecDepth 100000 in
set_option maxHeartbeats 1000000 in
theorem group_vi (lg : List UInt8) (w : World) (hlg : lg = [118, 105]) :
    Calls Tryd.prog 55 #[.string ⟨lg.toArray⟩] w fun e w' => e = .returned (.int .i64 1) ∧ w = w' := by
  obtain ⟨he0, hq0⟩ := eqlS2 ⟨lg.toArray⟩ [106, 97] false (by rw [hlg]; rfl)
  obtain ⟨he1, hq1⟩ := eqlS2 ⟨lg.toArray⟩ [107, 111] false (by rw [hlg]; rfl)
  obtain ⟨he2, hq2⟩ := eqlS2 ⟨lg.toArray⟩ [122, 104] false (by rw [hlg]; rfl)
  obtain ⟨he3, hq3⟩ := eqlS2 ⟨lg.toArray⟩ [118, 105] true (by rw [hlg]; rfl)
  clear hlg
  generalize (⟨lg.toArray⟩ : ByteArray) = sl at *
  go_enter Tryd.func55, Tryd.ntmps55
  go_wp2_with fail
  go_ret
  exact ⟨rfl, rfl⟩
set_option maxRecDepth 100000 in
set_option maxHeartbeats 1000000 in
theorem group_th (lg : List UInt8) (w : World) (hlg : lg = [116, 104]) :
    Calls Tryd.prog 55 #[.string ⟨lg.toArray⟩] w fun e w' => e = .returned (.int .i64 1) ∧ w = w' := by
  obtain ⟨he0, hq0⟩ := eqlS2 ⟨lg.toArray⟩ [106, 97] false (by rw [hlg]; rfl)
  obtain ⟨he1, hq1⟩ := eqlS2 ⟨lg.toArray⟩ [107, 111] false (by rw [hlg]; rfl)
  obtain ⟨he2, hq2⟩ := eqlS2 ⟨lg.toArray⟩ [122, 104] false (by rw [hlg]; rfl)
  obtain ⟨he3, hq3⟩ := eqlS2 ⟨lg.toArray⟩ [118, 105] false (by rw [hlg]; rfl)
  obtain ⟨he4, hq4⟩ := eqlS2 ⟨lg.toArray⟩ [116, 104] true (by rw [hlg]; rfl)
  clear hlg
  generalize (⟨lg.toArray⟩ : ByteArray) = sl at *
  go_enter Tryd.func55, Tryd.ntmps55
  go_wp2_with fail
  go_ret
  exact ⟨rfl, rfl⟩
set_option maxRecDepth 100000 in
set_option maxHeartbeats 1000000 in
theorem group_id (lg : List UInt8) (w : World) (hlg : lg = [105, 100]) :
    Calls Tryd.prog 55 #[.string ⟨lg.toArray⟩] w fun e w' => e = .returned (.int .i64 1) ∧ w = w' := by
  obtain ⟨he0, hq0⟩ := eqlS2 ⟨lg.toArray⟩ [106, 97] false (by rw [hlg]; rfl)
  obtain ⟨he1, hq1⟩ := eqlS2 ⟨lg.toArray⟩ [107, 111] false (by rw [hlg]; rfl)
  obtain ⟨he2, hq2⟩ := eqlS2 ⟨lg.toArray⟩ [122, 104] false (by rw [hlg]; rfl)
  obtain ⟨he3, hq3⟩ := eqlS2 ⟨lg.toArray⟩ [118, 105] false (by rw [hlg]; rfl)
  obtain ⟨he4, hq4⟩ := eqlS2 ⟨lg.toArray⟩ [116, 104] false (by rw [hlg]; rfl)
  obtain ⟨he5, hq5⟩ := eqlS2 ⟨lg.toArray⟩ [105, 100] true (by rw [hlg]; rfl)
  clear hlg
  generalize (⟨lg.toArray⟩ : ByteArray) = sl at *
  go_enter Tryd.func55, Tryd.ntmps55
  go_wp2_with fail
  go_ret
  exact ⟨rfl, rfl⟩
set_option maxRecDepth 100000 in
set_option maxHeartbeats 1000000 in
theorem group_fr (lg : List UInt8) (w : World) (hlg : lg = [102, 114]) :
    Calls Tryd.prog 55 #[.string ⟨lg.toArray⟩] w fun e w' => e = .returned (.int .i64 2) ∧ w = w' := by
  obtain ⟨he0, hq0⟩ := eqlS2 ⟨lg.toArray⟩ [106, 97] false (by rw [hlg]; rfl)
  obtain ⟨he1, hq1⟩ := eqlS2 ⟨lg.toArray⟩ [107, 111] false (by rw [hlg]; rfl)
  obtain ⟨he2, hq2⟩ := eqlS2 ⟨lg.toArray⟩ [122, 104] false (by rw [hlg]; rfl)
  obtain ⟨he3, hq3⟩ := eqlS2 ⟨lg.toArray⟩ [118, 105] false (by rw [hlg]; rfl)
  obtain ⟨he4, hq4⟩ := eqlS2 ⟨lg.toArray⟩ [116, 104] false (by rw [hlg]; rfl)
  obtain ⟨he5, hq5⟩ := eqlS2 ⟨lg.toArray⟩ [105, 100] false (by rw [hlg]; rfl)
  obtain ⟨he6, hq6⟩ := eqlS2 ⟨lg.toArray⟩ [102, 114] true (by rw [hlg]; rfl)
  clear hlg
  generalize (⟨lg.toArray⟩ : ByteArray) = sl at *
  go_enter Tryd.func55, Tryd.ntmps55
  go_wp2_with fail
  go_ret
  exact ⟨rfl, rfl⟩
set_option maxRecDepth 100000 in
set_option maxHeartbeats 1000000 in
theorem group_pt (lg : List UInt8) (w : World) (hlg : lg = [112, 116]) :
    Calls Tryd.prog 55 #[.string ⟨lg.toArray⟩] w fun e w' => e = .returned (.int .i64 2) ∧ w = w' := by
  obtain ⟨he0, hq0⟩ := eqlS2 ⟨lg.toArray⟩ [106, 97] false (by rw [hlg]; rfl)
  obtain ⟨he1, hq1⟩ := eqlS2 ⟨lg.toArray⟩ [107, 111] false (by rw [hlg]; rfl)
  obtain ⟨he2, hq2⟩ := eqlS2 ⟨lg.toArray⟩ [122, 104] false (by rw [hlg]; rfl)
  obtain ⟨he3, hq3⟩ := eqlS2 ⟨lg.toArray⟩ [118, 105] false (by rw [hlg]; rfl)
  obtain ⟨he4, hq4⟩ := eqlS2 ⟨lg.toArray⟩ [116, 104] false (by rw [hlg]; rfl)
  obtain ⟨he5, hq5⟩ := eqlS2 ⟨lg.toArray⟩ [105, 100] false (by rw [hlg]; rfl)
  obtain ⟨he6, hq6⟩ := eqlS2 ⟨lg.toArray⟩ [102, 114] false (by rw [hlg]; rfl)
  obtain ⟨he7, hq7⟩ := eqlS2 ⟨lg.toArray⟩ [112, 116] true (by rw [hlg]; rfl)
  clear hlg
  generalize (⟨lg.toArray⟩ : ByteArray) = sl at *
  go_enter Tryd.func55, Tryd.ntmps55
  go_wp2_with fail
  go_ret
  exact ⟨rfl, rfl⟩
set_option maxRecDepth 100000 in
set_option maxHeartbeats 1000000 in
theorem group_ru (lg : List UInt8) (w : World) (hlg : lg = [114, 117]) :
    Calls Tryd.prog 55 #[.string ⟨lg.toArray⟩] w fun e w' => e = .returned (.int .i64 3) ∧ w = w' := by
  obtain ⟨he0, hq0⟩ := eqlS2 ⟨lg.toArray⟩ [106, 97] false (by rw [hlg]; rfl)
  obtain ⟨he1, hq1⟩ := eqlS2 ⟨lg.toArray⟩ [107, 111] false (by rw [hlg]; rfl)
  obtain ⟨he2, hq2⟩ := eqlS2 ⟨lg.toArray⟩ [122, 104] false (by rw [hlg]; rfl)
  obtain ⟨he3, hq3⟩ := eqlS2 ⟨lg.toArray⟩ [118, 105] false (by rw [hlg]; rfl)
  obtain ⟨he4, hq4⟩ := eqlS2 ⟨lg.toArray⟩ [116, 104] false (by rw [hlg]; rfl)
  obtain ⟨he5, hq5⟩ := eqlS2 ⟨lg.toArray⟩ [105, 100] false (by rw [hlg]; rfl)
  obtain ⟨he6, hq6⟩ := eqlS2 ⟨lg.toArray⟩ [102, 114] false (by rw [hlg]; rfl)
  obtain ⟨he7, hq7⟩ := eqlS2 ⟨lg.toArray⟩ [112, 116] false (by rw [hlg]; rfl)
  obtain ⟨he8, hq8⟩ := eqlS2 ⟨lg.toArray⟩ [114, 117] true (by rw [hlg]; rfl)
  clear hlg
  generalize (⟨lg.toArray⟩ : ByteArray) = sl at *
  go_enter Tryd.func55, Tryd.ntmps55
  go_wp2_with fail
  go_ret
  exact ⟨rfl, rfl⟩
set_option maxRecDepth 100000 in
set_option maxHeartbeats 1000000 in
theorem group_uk (lg : List UInt8) (w : World) (hlg : lg = [117, 107]) :
    Calls Tryd.prog 55 #[.string ⟨lg.toArray⟩] w fun e w' => e = .returned (.int .i64 3) ∧ w = w' := by
  obtain ⟨he0, hq0⟩ := eqlS2 ⟨lg.toArray⟩ [106, 97] false (by rw [hlg]; rfl)
  obtain ⟨he1, hq1⟩ := eqlS2 ⟨lg.toArray⟩ [107, 111] false (by rw [hlg]; rfl)
  obtain ⟨he2, hq2⟩ := eqlS2 ⟨lg.toArray⟩ [122, 104] false (by rw [hlg]; rfl)
  obtain ⟨he3, hq3⟩ := eqlS2 ⟨lg.toArray⟩ [118, 105] false (by rw [hlg]; rfl)
  obtain ⟨he4, hq4⟩ := eqlS2 ⟨lg.toArray⟩ [116, 104] false (by rw [hlg]; rfl)
  obtain ⟨he5, hq5⟩ := eqlS2 ⟨lg.toArray⟩ [105, 100] false (by rw [hlg]; rfl)
  obtain ⟨he6, hq6⟩ := eqlS2 ⟨lg.toArray⟩ [102, 114] false (by rw [hlg]; rfl)
  obtain ⟨he7, hq7⟩ := eqlS2 ⟨lg.toArray⟩ [112, 116] false (by rw [hlg]; rfl)
  obtain ⟨he8, hq8⟩ := eqlS2 ⟨lg.toArray⟩ [114, 117] false (by rw [hlg]; rfl)
  obtain ⟨he9, hq9⟩ := eqlS2 ⟨lg.toArray⟩ [117, 107] true (by rw [hlg]; rfl)
  clear hlg
  generalize (⟨lg.toArray⟩ : ByteArray) = sl at *
  go_enter Tryd.func55, Tryd.ntmps55
  go_wp2_with fail
  go_ret
  exact ⟨rfl, rfl⟩
set_option maxRecDepth 100000 in
set_option maxHeartbeats 1000000 in
theorem group_sr (lg : List UInt8) (w : World) (hlg : lg = [115, 114]) :
    Calls Tryd.prog 55 #[.string ⟨lg.toArray⟩] w fun e w' => e = .returned (.int .i64 3) ∧ w = w' := by
  obtain ⟨he0, hq0⟩ := eqlS2 ⟨lg.toArray⟩ [106, 97] false (by rw [hlg]; rfl)
  obtain ⟨he1, hq1⟩ := eqlS2 ⟨lg.toArray⟩ [107, 111] false (by rw [hlg]; rfl)
  obtain ⟨he2, hq2⟩ := eqlS2 ⟨lg.toArray⟩ [122, 104] false (by rw [hlg]; rfl)
  obtain ⟨he3, hq3⟩ := eqlS2 ⟨lg.toArray⟩ [118, 105] false (by rw [hlg]; rfl)
  obtain ⟨he4, hq4⟩ := eqlS2 ⟨lg.toArray⟩ [116, 104] false (by rw [hlg]; rfl)
  obtain ⟨he5, hq5⟩ := eqlS2 ⟨lg.toArray⟩ [105, 100] false (by rw [hlg]; rfl)
  obtain ⟨he6, hq6⟩ := eqlS2 ⟨lg.toArray⟩ [102, 114] false (by rw [hlg]; rfl)
  obtain ⟨he7, hq7⟩ := eqlS2 ⟨lg.toArray⟩ [112, 116] false (by rw [hlg]; rfl)
  obtain ⟨he8, hq8⟩ := eqlS2 ⟨lg.toArray⟩ [114, 117] false (by rw [hlg]; rfl)
  obtain ⟨he9, hq9⟩ := eqlS2 ⟨lg.toArray⟩ [117, 107] false (by rw [hlg]; rfl)
  obtain ⟨he10, hq10⟩ := eqlS2 ⟨lg.toArray⟩ [115, 114] true (by rw [hlg]; rfl)
  clear hlg
  generalize (⟨lg.toArray⟩ : ByteArray) = sl at *
  go_enter Tryd.func55, Tryd.ntmps55
  go_wp2_with fail
  go_ret
  exact ⟨rfl, rfl⟩
set_option maxRecDepth 100000 in
set_option maxHeartbeats 1000000 in
theorem group_pl (lg : List UInt8) (w : World) (hlg : lg = [112, 108]) :
    Calls Tryd.prog 55 #[.string ⟨lg.toArray⟩] w fun e w' => e = .returned (.int .i64 4) ∧ w = w' := by
  obtain ⟨he0, hq0⟩ := eqlS2 ⟨lg.toArray⟩ [106, 97] false (by rw [hlg]; rfl)
  obtain ⟨he1, hq1⟩ := eqlS2 ⟨lg.toArray⟩ [107, 111] false (by rw [hlg]; rfl)
  obtain ⟨he2, hq2⟩ := eqlS2 ⟨lg.toArray⟩ [122, 104] false (by rw [hlg]; rfl)
  obtain ⟨he3, hq3⟩ := eqlS2 ⟨lg.toArray⟩ [118, 105] false (by rw [hlg]; rfl)
  obtain ⟨he4, hq4⟩ := eqlS2 ⟨lg.toArray⟩ [116, 104] false (by rw [hlg]; rfl)
  obtain ⟨he5, hq5⟩ := eqlS2 ⟨lg.toArray⟩ [105, 100] false (by rw [hlg]; rfl)
  obtain ⟨he6, hq6⟩ := eqlS2 ⟨lg.toArray⟩ [102, 114] false (by rw [hlg]; rfl)
  obtain ⟨he7, hq7⟩ := eqlS2 ⟨lg.toArray⟩ [112, 116] false (by rw [hlg]; rfl)
  obtain ⟨he8, hq8⟩ := eqlS2 ⟨lg.toArray⟩ [114, 117] false (by rw [hlg]; rfl)
  obtain ⟨he9, hq9⟩ := eqlS2 ⟨lg.toArray⟩ [117, 107] false (by rw [hlg]; rfl)
  obtain ⟨he10, hq10⟩ := eqlS2 ⟨lg.toArray⟩ [115, 114] false (by rw [hlg]; rfl)
  obtain ⟨he11, hq11⟩ := eqlS2 ⟨lg.toArray⟩ [112, 108] true (by rw [hlg]; rfl)
  clear hlg
  generalize (⟨lg.toArray⟩ : ByteArray) = sl at *
  go_enter Tryd.func55, Tryd.ntmps55
  go_wp2_with fail
  go_ret
  exact ⟨rfl, rfl⟩
set_option maxRecDepth 100000 in
set_option maxHeartbeats 1000000 in
theorem group_cs (lg : List UInt8) (w : World) (hlg : lg = [99, 115]) :
    Calls Tryd.prog 55 #[.string ⟨lg.toArray⟩] w fun e w' => e = .returned (.int .i64 5) ∧ w = w' := by
  obtain ⟨he0, hq0⟩ := eqlS2 ⟨lg.toArray⟩ [106, 97] false (by rw [hlg]; rfl)
  obtain ⟨he1, hq1⟩ := eqlS2 ⟨lg.toArray⟩ [107, 111] false (by rw [hlg]; rfl)
  obtain ⟨he2, hq2⟩ := eqlS2 ⟨lg.toArray⟩ [122, 104] false (by rw [hlg]; rfl)
  obtain ⟨he3, hq3⟩ := eqlS2 ⟨lg.toArray⟩ [118, 105] false (by rw [hlg]; rfl)
  obtain ⟨he4, hq4⟩ := eqlS2 ⟨lg.toArray⟩ [116, 104] false (by rw [hlg]; rfl)
  obtain ⟨he5, hq5⟩ := eqlS2 ⟨lg.toArray⟩ [105, 100] false (by rw [hlg]; rfl)
  obtain ⟨he6, hq6⟩ := eqlS2 ⟨lg.toArray⟩ [102, 114] false (by rw [hlg]; rfl)
  obtain ⟨he7, hq7⟩ := eqlS2 ⟨lg.toArray⟩ [112, 116] false (by rw [hlg]; rfl)
  obtain ⟨he8, hq8⟩ := eqlS2 ⟨lg.toArray⟩ [114, 117] false (by rw [hlg]; rfl)
  obtain ⟨he9, hq9⟩ := eqlS2 ⟨lg.toArray⟩ [117, 107] false (by rw [hlg]; rfl)
  obtain ⟨he10, hq10⟩ := eqlS2 ⟨lg.toArray⟩ [115, 114] false (by rw [hlg]; rfl)
  obtain ⟨he11, hq11⟩ := eqlS2 ⟨lg.toArray⟩ [112, 108] false (by rw [hlg]; rfl)
  obtain ⟨he12, hq12⟩ := eqlS2 ⟨lg.toArray⟩ [99, 115] true (by rw [hlg]; rfl)
  clear hlg
  generalize (⟨lg.toArray⟩ : ByteArray) = sl at *
  go_enter Tryd.func55, Tryd.ntmps55
  go_wp2_with fail
  go_ret
  exact ⟨rfl, rfl⟩
set_option maxRecDepth 100000 in
set_option maxHeartbeats 1000000 in
theorem group_sk (lg : List UInt8) (w : World) (hlg : lg = [115, 107]) :
    Calls Tryd.prog 55 #[.string ⟨lg.toArray⟩] w fun e w' => e = .returned (.int .i64 5) ∧ w = w' := by
  obtain ⟨he0, hq0⟩ := eqlS2 ⟨lg.toArray⟩ [106, 97] false (by rw [hlg]; rfl)
  obtain ⟨he1, hq1⟩ := eqlS2 ⟨lg.toArray⟩ [107, 111] false (by rw [hlg]; rfl)
  obtain ⟨he2, hq2⟩ := eqlS2 ⟨lg.toArray⟩ [122, 104] false (by rw [hlg]; rfl)
  obtain ⟨he3, hq3⟩ := eqlS2 ⟨lg.toArray⟩ [118, 105] false (by rw [hlg]; rfl)
  obtain ⟨he4, hq4⟩ := eqlS2 ⟨lg.toArray⟩ [116, 104] false (by rw [hlg]; rfl)
  obtain ⟨he5, hq5⟩ := eqlS2 ⟨lg.toArray⟩ [105, 100] false (by rw [hlg]; rfl)
  obtain ⟨he6, hq6⟩ := eqlS2 ⟨lg.toArray⟩ [102, 114] false (by rw [hlg]; rfl)
  obtain ⟨he7, hq7⟩ := eqlS2 ⟨lg.toArray⟩ [112, 116] false (by rw [hlg]; rfl)
  obtain ⟨he8, hq8⟩ := eqlS2 ⟨lg.toArray⟩ [114, 117] false (by rw [hlg]; rfl)
  obtain ⟨he9, hq9⟩ := eqlS2 ⟨lg.toArray⟩ [117, 107] false (by rw [hlg]; rfl)
  obtain ⟨he10, hq10⟩ := eqlS2 ⟨lg.toArray⟩ [115, 114] false (by rw [hlg]; rfl)
  obtain ⟨he11, hq11⟩ := eqlS2 ⟨lg.toArray⟩ [112, 108] false (by rw [hlg]; rfl)
  obtain ⟨he12, hq12⟩ := eqlS2 ⟨lg.toArray⟩ [99, 115] false (by rw [hlg]; rfl)
  obtain ⟨he13, hq13⟩ := eqlS2 ⟨lg.toArray⟩ [115, 107] true (by rw [hlg]; rfl)
  clear hlg
  generalize (⟨lg.toArray⟩ : ByteArray) = sl at *
  go_enter Tryd.func55, Tryd.ntmps55
  go_wp2_with fail
  go_ret
  exact ⟨rfl, rfl⟩
set_option maxRecDepth 100000 in
set_option maxHeartbeats 1000000 in
theorem group_ar (lg : List UInt8) (w : World) (hlg : lg = [97, 114]) :
    Calls Tryd.prog 55 #[.string ⟨lg.toArray⟩] w fun e w' => e = .returned (.int .i64 6) ∧ w = w' := by
  obtain ⟨he0, hq0⟩ := eqlS2 ⟨lg.toArray⟩ [106, 97] false (by rw [hlg]; rfl)
  obtain ⟨he1, hq1⟩ := eqlS2 ⟨lg.toArray⟩ [107, 111] false (by rw [hlg]; rfl)
  obtain ⟨he2, hq2⟩ := eqlS2 ⟨lg.toArray⟩ [122, 104] false (by rw [hlg]; rfl)
  obtain ⟨he3, hq3⟩ := eqlS2 ⟨lg.toArray⟩ [118, 105] false (by rw [hlg]; rfl)
  obtain ⟨he4, hq4⟩ := eqlS2 ⟨lg.toArray⟩ [116, 104] false (by rw [hlg]; rfl)
  obtain ⟨he5, hq5⟩ := eqlS2 ⟨lg.toArray⟩ [105, 100] false (by rw [hlg]; rfl)
  obtain ⟨he6, hq6⟩ := eqlS2 ⟨lg.toArray⟩ [102, 114] false (by rw [hlg]; rfl)
  obtain ⟨he7, hq7⟩ := eqlS2 ⟨lg.toArray⟩ [112, 116] false (by rw [hlg]; rfl)
  obtain ⟨he8, hq8⟩ := eqlS2 ⟨lg.toArray⟩ [114, 117] false (by rw [hlg]; rfl)
  obtain ⟨he9, hq9⟩ := eqlS2 ⟨lg.toArray⟩ [117, 107] false (by rw [hlg]; rfl)
  obtain ⟨he10, hq10⟩ := eqlS2 ⟨lg.toArray⟩ [115, 114] false (by rw [hlg]; rfl)
  obtain ⟨he11, hq11⟩ := eqlS2 ⟨lg.toArray⟩ [112, 108] false (by rw [hlg]; rfl)
  obtain ⟨he12, hq12⟩ := eqlS2 ⟨lg.toArray⟩ [99, 115] false (by rw [hlg]; rfl)
  obtain ⟨he13, hq13⟩ := eqlS2 ⟨lg.toArray⟩ [115, 107] false (by rw [hlg]; rfl)
  obtain ⟨he14, hq14⟩ := eqlS2 ⟨lg.toArray⟩ [97, 114] true (by rw [hlg]; rfl)
  clear hlg
  generalize (⟨lg.toArray⟩ : ByteArray) = sl at *
  go_enter Tryd.func55, Tryd.ntmps55
  go_wp2_with fail
  go_ret
  exact ⟨rfl, rfl⟩
set_option maxRecDepth 100000 in
set_option maxHeartbeats 1000000 in
theorem group_lt (lg : List UInt8) (w : World) (hlg : lg = [108, 116]) :
    Calls Tryd.prog 55 #[.string ⟨lg.toArray⟩] w fun e w' => e = .returned (.int .i64 7) ∧ w = w' := by
  obtain ⟨he0, hq0⟩ := eqlS2 ⟨lg.toArray⟩ [106, 97] false (by rw [hlg]; rfl)
  obtain ⟨he1, hq1⟩ := eqlS2 ⟨lg.toArray⟩ [107, 111] false (by rw [hlg]; rfl)
  obtain ⟨he2, hq2⟩ := eqlS2 ⟨lg.toArray⟩ [122, 104] false (by rw [hlg]; rfl)
  obtain ⟨he3, hq3⟩ := eqlS2 ⟨lg.toArray⟩ [118, 105] false (by rw [hlg]; rfl)
  obtain ⟨he4, hq4⟩ := eqlS2 ⟨lg.toArray⟩ [116, 104] false (by rw [hlg]; rfl)
  obtain ⟨he5, hq5⟩ := eqlS2 ⟨lg.toArray⟩ [105, 100] false (by rw [hlg]; rfl)
  obtain ⟨he6, hq6⟩ := eqlS2 ⟨lg.toArray⟩ [102, 114] false (by rw [hlg]; rfl)
  obtain ⟨he7, hq7⟩ := eqlS2 ⟨lg.toArray⟩ [112, 116] false (by rw [hlg]; rfl)
  obtain ⟨he8, hq8⟩ := eqlS2 ⟨lg.toArray⟩ [114, 117] false (by rw [hlg]; rfl)
  obtain ⟨he9, hq9⟩ := eqlS2 ⟨lg.toArray⟩ [117, 107] false (by rw [hlg]; rfl)
  obtain ⟨he10, hq10⟩ := eqlS2 ⟨lg.toArray⟩ [115, 114] false (by rw [hlg]; rfl)
  obtain ⟨he11, hq11⟩ := eqlS2 ⟨lg.toArray⟩ [112, 108] false (by rw [hlg]; rfl)
  obtain ⟨he12, hq12⟩ := eqlS2 ⟨lg.toArray⟩ [99, 115] false (by rw [hlg]; rfl)
  obtain ⟨he13, hq13⟩ := eqlS2 ⟨lg.toArray⟩ [115, 107] false (by rw [hlg]; rfl)
  obtain ⟨he14, hq14⟩ := eqlS2 ⟨lg.toArray⟩ [97, 114] false (by rw [hlg]; rfl)
  obtain ⟨he15, hq15⟩ := eqlS2 ⟨lg.toArray⟩ [108, 116] true (by rw [hlg]; rfl)
  clear hlg
  generalize (⟨lg.toArray⟩ : ByteArray) = sl at *
  go_enter Tryd.func55, Tryd.ntmps55
  go_wp2_with fail
  go_ret
  exact ⟨rfl, rfl⟩
set_option maxRecDepth 100000 in
set_option maxHeartbeats 1000000 in
theorem group_none (lg : List UInt8) (w : World) (hne : ∀ l ∈ langsL, ¬ lg = l) :
    Calls Tryd.prog 55 #[.string ⟨lg.toArray⟩] w fun e w' => e = .returned (.int .i64 0) ∧ w = w' := by
  obtain ⟨he0, hq0⟩ := eqlS2 ⟨lg.toArray⟩ [106, 97] false (decide_eq_false (hne [106, 97] (by simp [langsL])))
  obtain ⟨he1, hq1⟩ := eqlS2 ⟨lg.toArray⟩ [107, 111] false (decide_eq_false (hne [107, 111] (by simp [langsL])))
  obtain ⟨he2, hq2⟩ := eqlS2 ⟨lg.toArray⟩ [122, 104] false (decide_eq_false (hne [122, 104] (by simp [langsL])))
  obtain ⟨he3, hq3⟩ := eqlS2 ⟨lg.toArray⟩ [118, 105] false (decide_eq_false (hne [118, 105] (by simp [langsL])))
  obtain ⟨he4, hq4⟩ := eqlS2 ⟨lg.toArray⟩ [116, 104] false (decide_eq_false (hne [116, 104] (by simp [langsL])))
  obtain ⟨he5, hq5⟩ := eqlS2 ⟨lg.toArray⟩ [105, 100] false (decide_eq_false (hne [105, 100] (by simp [langsL])))
  obtain ⟨he6, hq6⟩ := eqlS2 ⟨lg.toArray⟩ [102, 114] false (decide_eq_false (hne [102, 114] (by simp [langsL])))
  obtain ⟨he7, hq7⟩ := eqlS2 ⟨lg.toArray⟩ [112, 116] false (decide_eq_false (hne [112, 116] (by simp [langsL])))
  obtain ⟨he8, hq8⟩ := eqlS2 ⟨lg.toArray⟩ [114, 117] false (decide_eq_false (hne [114, 117] (by simp [langsL])))
  obtain ⟨he9, hq9⟩ := eqlS2 ⟨lg.toArray⟩ [117, 107] false (decide_eq_false (hne [117, 107] (by simp [langsL])))
  obtain ⟨he10, hq10⟩ := eqlS2 ⟨lg.toArray⟩ [115, 114] false (decide_eq_false (hne [115, 114] (by simp [langsL])))
  obtain ⟨he11, hq11⟩ := eqlS2 ⟨lg.toArray⟩ [112, 108] false (decide_eq_false (hne [112, 108] (by simp [langsL])))
  obtain ⟨he12, hq12⟩ := eqlS2 ⟨lg.toArray⟩ [99, 115] false (decide_eq_false (hne [99, 115] (by simp [langsL])))
  obtain ⟨he13, hq13⟩ := eqlS2 ⟨lg.toArray⟩ [115, 107] false (decide_eq_false (hne [115, 107] (by simp [langsL])))
  obtain ⟨he14, hq14⟩ := eqlS2 ⟨lg.toArray⟩ [97, 114] false (decide_eq_false (hne [97, 114] (by simp [langsL])))
  obtain ⟨he15, hq15⟩ := eqlS2 ⟨lg.toArray⟩ [108, 116] false (decide_eq_false (hne [108, 116] (by simp [langsL])))
  clear hne
  generalize (⟨lg.toArray⟩ : ByteArray) = sl at *
  go_enter Tryd.func55, Tryd.ntmps55
  go_wp2_with fail
  go_ret
  exact ⟨rfl, rfl⟩
theorem refGroup_any (lg : List UInt8) (w : World) : Calls Tryd.prog 55 #[.string ⟨lg.toArray⟩] w fun e w' => e = .returned (.int .i64 ((grpL lg : Nat) : Int)) ∧ w = w' := by
  unfold grpL
  by_cases h0 : lg = [106, 97]
  · rw [if_pos h0]; exact group_ja _ w h0
  rw [if_neg h0]
  by_cases h1 : lg = [107, 111]
  · rw [if_pos h1]; exact group_ko _ w h1
  rw [if_neg h1]
  by_cases h2 : lg = [122, 104]
  · rw [if_pos h2]; exact group_zh _ w h2
  rw [if_neg h2]
  by_cases h3 : lg = [118, 105]
  · rw [if_pos h3]; exact group_vi _ w h3
  rw [if_neg h3]
  by_cases h4 : lg = [116, 104]
  · rw [if_pos h4]; exact group_th _ w h4
  rw [if_neg h4]
  by_cases h5 : lg = [105, 100]
  · rw [if_pos h5]; exact group_id _ w h5
  rw [if_neg h5]
  by_cases h6 : lg = [102, 114]
  · rw [if_pos h6]; exact group_fr _ w h6
  rw [if_neg h6]
  by_cases h7 : lg = [112, 116]
  · rw [if_pos h7]; exact group_pt _ w h7
  rw [if_neg h7]
  by_cases h8 : lg = [114, 117]
  · rw [if_pos h8]; exact group_ru _ w h8
  rw [if_neg h8]
  by_cases h9 : lg = [117, 107]
  · rw [if_pos h9]; exact group_uk _ w h9
  rw [if_neg h9]
  by_cases h10 : lg = [115, 114]
  · rw [if_pos h10]; exact group_sr _ w h10
  rw [if_neg h10]
  by_cases h11 : lg = [112, 108]
  · rw [if_pos h11]; exact group_pl _ w h11
  rw [if_neg h11]
  by_cases h12 : lg = [99, 115]
  · rw [if_pos h12]; exact group_cs _ w h12
  rw [if_neg h12]
  by_cases h13 : lg = [115, 107]
  · rw [if_pos h13]; exact group_sk _ w h13
  rw [if_neg h13]
  by_cases h14 : lg = [97, 114]
  · rw [if_pos h14]; exact group_ar _ w h14
  rw [if_neg h14]
  by_cases h15 : lg = [108, 116]
  · rw [if_pos h15]; exact group_lt _ w h15
  rw [if_neg h15]
  exact group_none _ w (fun l hl => by
    simp only [langsL, List.mem_cons, List.mem_nil_iff, or_false] at hl
    rcases hl with rfl | rfl | rfl | rfl | rfl | rfl | rfl | rfl | rfl | rfl | rfl | rfl | rfl | rfl | rfl | rfl <;> assumption)
end Go.Proofs.YtnambaiafailaaaDoor
