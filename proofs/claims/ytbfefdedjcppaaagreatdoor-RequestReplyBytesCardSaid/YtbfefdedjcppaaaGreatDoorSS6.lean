/- vulgateref02.Small: a number's bytes. -/
import Derived.Test.YtbfefdedjcppaaaGreatDoorRC
namespace Go.Proofs.YtbfefdedjcppaaaGreatDoor
set_option maxRecDepth 100000
set_option maxHeartbeats 8000000
open Go.RowKit
theorem refSmall_any (n : Nat) (w : World) (hn : n < 2 ^ 64) :
   Calls Tryz.prog 143 #[.int .u64 (n : Int)] w fun e w' => ∃ v, e = .returned v ∧ OwnE byteC 5 1 w' w.heap.size v (small n) ∧ Below w.heap.size w w' := by
 have HL : Hid ((small n).length ≤ 1000) := Nat.le_trans (small_len 9 n (Nat.lt_of_lt_of_le hn (by decide))) (by decide)
 go_enter Tryz.func143, Tryz.ntmps143
 go_upto_region 2 with fail
 go_loopw [3, 0] (fun u i wr => ∃ (m : Nat) (pre : List UInt8), i = .int .u64 (m : Int) ∧ m < 2 ^ 64 ∧ Hid (pre ++ small m = small n) ∧ Hid (OwnE byteC 5 1 wr w.heap.size u pre) ∧ Hid (Below w.heap.size w wr)) (fun _ i _ => (intOf i).toNat)
 case atStart => exact ⟨n, [], rfl, hn, rfl, OwnE.nil _ _, Below.refl _ _⟩
 case round =>
   obtain ⟨m, pre, rfl, hm, HE, HO, HB⟩ := hrel
   obtain ⟨q, c, rfl⟩ := HO.out.slice
   have hlen : pre.length + (small m).length ≤ 1000 := by
     have h1 := congrArg List.length HE.out
     rw [List.length_append] at h1
     have := HL.out
     omega
   have hps := small_pos m
   by_cases hlt : 128 ≤ m
   · have hlt' : (127 : Int) < m := by omega
     obtain ⟨x, hx⟩ : ∃ x : UInt8, UInt8.ofNat (m % 128 + 128) = x := ⟨_, rfl⟩
     have hxn : x.toNat = m % 128 + 128 := by rw [← hx, UInt8.toNat_ofNat']; omega
     have HSm : Hid (small m = x :: small (m / 128)) := by show _ = _; rw [small_ge hlt, hx]
     go_upto_region 4 with (at_builtin; (refine wl_app1 22 5 1 (.int .u8 0) Tryz.underlying22 infoU8 rfl (by omega) byteC_len byteC_one rfl (.tmp 6) (.tmp 11) rfl w.heap.size (.slice q pre.length c) pre rfl (HO.out.below (below_alloc1 _ _)) wr.heap.size 1 x rfl (by rw [show byteC x = [Value.int .u8 ((m : Int) % 128 + 128)] from by show [Value.int .u8 (x.toNat : Int)] = _; rw [hxn]; rfl]; exact range_whole (heap_alloc_new _ _)) (by omega) (by unfold maxLen; omega) (by have := HB.out.size; simp; omega) ?_); intro v2 w2 hv2 hg2; have HV2 := Lib.hid hv2; have HB2 : Hid (Below w.heap.size w w2) := HB.out.trans (((below_alloc1 wr _).mono HB.out.size).trans (grown_below hg2 (fun g hg => (HO.out.lt g hg).1) (by have := HB.out.size; simp; omega))); clear hv2 hg2)
     go_wp2_with fail
     go_roundw
     case rel => exact ⟨m / 128, pre ++ [x], by simp, by omega, by show _ = _; rw [List.append_assoc]; show pre ++ (x :: small (m / 128)) = _; rw [← HSm.out]; exact HE.out, HV2.out, HB2.out⟩
     case measure => simp [intOf]; omega
   · have hlt' : ¬ (127 : Int) < m := by omega
     obtain ⟨x, hx⟩ : ∃ x : UInt8, UInt8.ofNat m = x := ⟨_, rfl⟩
     have HXe : Hid ((m : Int) = (x.toNat : Int)) := by
       show _ = _
       have : (UInt8.ofNat m).toNat = m := by rw [UInt8.toNat_ofNat']; omega
       rw [← hx, this]
     have HSm : Hid (small m = [x]) := by show _ = _; rw [small_lt (by omega), hx]
     go_wp2_with (at_builtin; (refine wl_app1 22 5 1 (.int .u8 0) Tryz.underlying22 infoU8 rfl (by omega) byteC_len byteC_one rfl (.tmp 15) (.tmp 18) rfl w.heap.size (.slice q pre.length c) pre rfl (HO.out.below (below_alloc1 _ _)) wr.heap.size 1 x rfl (by rw [show byteC x = [Value.int .u8 (m : Int)] from by show [Value.int .u8 (x.toNat : Int)] = _; rw [← HXe.out]]; exact range_whole (heap_alloc_new _ _)) (by omega) (by unfold maxLen; omega) (by have := HB.out.size; simp; omega) ?_); intro v2 w2 hv2 hg2; have HV2 := Lib.hid hv2; have HB2 : Hid (Below w.heap.size w w2) := HB.out.trans (((below_alloc1 wr _).mono HB.out.size).trans (grown_below hg2 (fun g hg => (HO.out.lt g hg).1) (by have := HB.out.size; simp; omega))); clear hv2 hg2)
     go_ret
     exact ⟨v2, rfl, by rw [← HE.out, HSm.out]; exact HV2.out, HB2.out⟩
end Go.Proofs.YtbfefdedjcppaaaGreatDoor
