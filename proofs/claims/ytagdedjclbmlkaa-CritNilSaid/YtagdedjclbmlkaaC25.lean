/- CritNil: the walk. -/
import Derived.Test.YtagdedjclbmlkaaC24
namespace Go.Proofs.Ytagdedjclbmlkaa
open Go.RowKit

set_option maxRecDepth 100000 in
set_option maxHeartbeats 8000000 in
theorem CritNil_walk (k p : List UInt8) (d : Int) (w : World) (hk : k.length = 25) (hp : p.length = 25) :
    Calls Try.prog 7 #[.agg (bC k), .agg (pC p d).toArray] w fun e w' => e = .returned (.bool true) ∧ Below w.heap.size w w' := by
  have HK := Lib.hid hk
  have HP := Lib.hid hp
  have HB1 := Lib.hid (below_alloc2 w (.cells (bC k) 30) (.cells (pC p d).toArray 63))
  have HG0 := Lib.hid (heap_alloc2_old w (.cells (bC k) 30) (.cells (pC p d).toArray 63))
  have HG1 := Lib.hid (heap_alloc2_new w (.cells (bC k) 30) (.cells (pC p d).toArray 63))
  clear hk hp
  go_enter Try.func7, Try.ntmps7
  go_upto_region 2 with fail
  generalize ((w.alloc (.cells (bC k) 30)).alloc (.cells (pC p d).toArray 63)) = W1 at *
  go_upto_region 3 with (first
    | ((with_reducible refine gate_ld 30 (.tmp 2) rfl ?_); refine wl_ldr rfl 30 _ rfl w.heap.size 0 (bC k).toList _ Try.underlying30 rfl (by rw [sizKey]; simp [bC, HK.out]) rfl (range_whole (by simpa using HG0.out)) ?_)
    | (go_at_call 14; (refine (getNil_any k _ HK.out).mono ?_); rintro e W2 ⟨rfl, hb⟩; have HA2 := Lib.hid ((hb.block _ (lt_heap HG0.out)).trans HG0.out); have HP2 := Lib.hid ((hb.block _ (lt_heap HG1.out)).trans HG1.out); have HB2 := Lib.hid (HB1.out.trans (hb.mono HB1.out.size)); clear hb HB1 HG0 HG1))
  go_upto_region 4 with (first
    | ((with_reducible refine gate_ld 30 (.tmp 2) rfl ?_); refine wl_ldr rfl 30 _ rfl w.heap.size 0 (bC k).toList _ Try.underlying30 rfl (by rw [sizKey]; simp [bC, HK.out]) rfl (range_whole (by simpa using HA2.out)) ?_)
    | (go_at_call 26; (refine (nextNil_any k _ HK.out).mono ?_); rintro e W3 ⟨rfl, hb⟩; unfold nextR; have HA3 := Lib.hid ((hb.block _ (lt_heap HA2.out)).trans HA2.out); have HP3 := Lib.hid ((hb.block _ (lt_heap HP2.out)).trans HP2.out); have HB3 := Lib.hid (HB2.out.trans (hb.mono HB2.out.size)); clear hb HB2 HA2 HP2)
    | ((with_reducible refine gate_st 30 (.tmp 8) _ rfl ?_); refine wl_strn rfl _ _ _ rfl (bC z25) (bC z25) 30 (by rw [sizKey, bC_size]; rfl) rfl (bC_one z25) rfl rfl ?_))
  have hb4 := below_alloc1 W3 (.cells (bC z25) 30)
  have HA4 := Lib.hid ((hb4.block _ (lt_heap HA3.out)).trans HA3.out)
  have HP4 := Lib.hid ((hb4.block _ (lt_heap HP3.out)).trans HP3.out)
  have HB4 := Lib.hid (HB3.out.trans (hb4.mono HB3.out.size))
  clear hb4 HA3 HP3 HB3
  generalize W3.alloc (.cells (bC z25) 30) = W4 at *
  generalize W3.heap.size = n8 at *
  go_upto_region 5 with (first
    | (go_at_call 28; (refine (firstNil_any _).mono ?_); rintro e W5 ⟨rfl, hb⟩; unfold nextR; have HA5 := Lib.hid ((hb.block _ (lt_heap HA4.out)).trans HA4.out); have HP5 := Lib.hid ((hb.block _ (lt_heap HP4.out)).trans HP4.out); have HB5 := Lib.hid (HB4.out.trans (hb.mono HB4.out.size)); clear hb HB4 HA4 HP4)
    | ((with_reducible refine gate_st 30 (.tmp 10) _ rfl ?_); refine wl_strn rfl _ _ _ rfl (bC z25) (bC z25) 30 (by rw [sizKey, bC_size]; rfl) rfl (bC_one z25) rfl rfl ?_))
  have hb6 := below_alloc1 W5 (.cells (bC z25) 30)
  have HA6 := Lib.hid ((hb6.block _ (lt_heap HA5.out)).trans HA5.out)
  have HP6 := Lib.hid ((hb6.block _ (lt_heap HP5.out)).trans HP5.out)
  have HB6 := Lib.hid (HB5.out.trans (hb6.mono HB5.out.size))
  clear hb6 HA5 HP5 HB5
  generalize W5.alloc (.cells (bC z25) 30) = W6 at *
  generalize W5.heap.size = n10 at *
  go_wp2_with (first
    | (go_at_call 17; (refine (known_any _).mono ?_); rintro e W7 ⟨rfl, hb⟩; have HA7 := Lib.hid ((hb.block _ (lt_heap HA6.out)).trans HA6.out); have HP7 := Lib.hid ((hb.block _ (lt_heap HP6.out)).trans HP6.out); have HB7 := Lib.hid (HB6.out.trans (hb.mono HB6.out.size)); clear hb HB6 HA6 HP6)
    | (go_at_call 13; (refine (putNil_any k 1 _ HK.out).mono ?_); rintro e W8 ⟨rfl, hb⟩; have HA8 := Lib.hid ((hb.block _ (lt_heap HA7.out)).trans HA7.out); have HP8 := Lib.hid ((hb.block _ (lt_heap HP7.out)).trans HP7.out); have HB8 := Lib.hid (HB7.out.trans (hb.mono HB7.out.size)); clear hb HB7 HA7 HP7)
    | ((with_reducible refine gate_ld 30 (.tmp 2) rfl ?_); refine wl_ldr rfl 30 _ rfl w.heap.size 0 (bC k).toList _ Try.underlying30 rfl (by rw [sizKey]; simp [bC, HK.out]) rfl (range_whole (by first | (simpa using HA7.out) | (simpa using HA8.out) | (simpa using HA9.out) | (simpa using HA11.out))) ?_)
    | ((with_reducible refine gate_ld 63 (.tmp 3) rfl ?_); refine wl_ldr rfl 63 _ rfl (w.heap.size + 1) 0 (pC p d) _ Try.underlying63 rfl (by rw [sizPre, pC_len HP.out]) rfl (range_whole (by simpa using HP9.out)) ?_)
    | ((with_reducible refine gate_op (.buildSlice 64 1 #[(0, .tmp 42)]) rfl ?_); refine wl_bs1 (enc := encK) (k := 25) 64 30 25 _ Try.underlying64 infoKey kz_sz (by omega) (by omega) encK_len rfl (.tmp 42) rfl ⟨k, HK.out⟩ rfl ?_)
    | (go_at_call 11; (refine (delNil_any (some ⟨W8.heap.size, 0, none⟩) 1 1 [k] _ rfl (by omega) (slat_key (xs := [⟨k, HK.out⟩]) (slat1 W8 _ _)) (by simpa using HK.out)).mono ?_); rintro e W9 ⟨rfl, hb⟩; have hb := (below_alloc1 W8 (.cells (encK ⟨k, HK.out⟩).toArray 30)).trans (hb.mono (below_alloc1 W8 (.cells (encK ⟨k, HK.out⟩).toArray 30)).size); have HA9 := Lib.hid ((hb.block _ (lt_heap HA8.out)).trans HA8.out); have HP9 := Lib.hid ((hb.block _ (lt_heap HP8.out)).trans HP8.out); have HB9 := Lib.hid (HB8.out.trans (hb.mono HB8.out.size)); clear hb HB8 HA8 HP8)
    | (go_at_call 29; (refine (lenNil_any _).mono ?_); rintro e W10 ⟨rfl, rfl⟩)
    | (go_at_call 24; (refine (keysNil_any p d _ HP.out).mono ?_); rintro e W11 ⟨rfl, hb⟩; have HA11 := Lib.hid ((hb.block _ (lt_heap HA9.out)).trans HA9.out); have HB11 := Lib.hid (HB9.out.trans (hb.mono HB9.out.size)); clear hb HB9 HA9 HP9)
    | (go_at_call 22; (refine (branchNil_any k _ HK.out).mono ?_); rintro e W12 ⟨rfl, hb⟩; have HB12 := Lib.hid (HB11.out.trans (hb.mono HB11.out.size)); clear hb HB11 HA11)
    | (go_at_call 31; (refine (mapNil_any _ _).mono ?_); rintro e W13 ⟨rfl, hb⟩; have HB13 := Lib.hid (HB12.out.trans (hb.mono HB12.out.size)); clear hb HB12))
  go_ret
  exact ⟨rfl, HB13.out⟩
end Go.Proofs.Ytagdedjclbmlkaa
