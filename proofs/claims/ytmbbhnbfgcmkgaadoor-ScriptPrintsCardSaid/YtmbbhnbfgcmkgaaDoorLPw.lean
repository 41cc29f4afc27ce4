/- The lines of any acts. -/
import Derived.Test.YtmbbhnbfgcmkgaaDoorLWh
namespace Go.Proofs.YtmbbhnbfgcmkgaaDoor
open Go.RowKit
set_option maxRecDepth 100000 in
set_option maxHeartbeats 16000000 in
theorem ScriptPrints_walkI (q : Option Addr) (xs : List A4) (n cap : Nat) (w : World) (hn : xs.length = n) (hc : n ≤ cap) (hm : cap ≤ maxLen) (hA : Acts w q xs) (hmx : MX w) (ht : TB w) :
    Calls Tryd.prog 3 #[.slice q n cap] w fun e w' => e = .returned (.bool true) ∧ Below w.heap.size w w' := by
  have HC := Lib.hid (cut_any q xs n cap w hn hc hm hA)
  have HOK := Lib.hid (cutL_ok hA)
  have HBy : Hid (∀ x ∈ cutL xs, x.b.length ≤ 1310) := cutL_b
  have hcl := cutL_len xs
  have HMX := Lib.hid hmx
  have HTB := Lib.hid ht
  clear hn hc hm hA hmx ht
  generalize cutL xs = c at *
  go_enter Tryd.func3, Tryd.ntmps3
  go_upto_region 2 with (go_at_call 7; (refine HC.out.mono ?_); rintro e w1 ⟨v, rfl, hown, hb1⟩)
  obtain ⟨q1, cap1, rfl, hc1, hm1, hsl, -⟩ := hown.at a4C_len
  have HA : Hid (Acts w1 q1 c) := ⟨hsl, fun x hx => (HOK.out x hx).below hb1⟩
  have HB := Lib.hid hb1
  clear hown hsl hb1 HC HOK hc1 hm1
  generalize hcn : c.length = cn at *
  have HCn := Lib.hid hcn
  clear hcn
  go_upto_region 3 with (go_at_call 8; (refine (print_any q1 c cn cap1 w1 HCn.out (by omega) HA.out (fun x hx => by have := HBy.out x hx; omega) (HTB.out.below HB.out)).mono ?_); rintro e w2 ⟨rfl, hb2⟩; have HA2 := ka HA hb2; have HB2 := bt HB hb2; clear hb2)
  clear HA HB
  generalize hP : printF 0 [] (c.map A4.d) = P at *
  have HP := Lib.hid hP
  clear hP
  have KRP : Hid (∀ (q2 : Option Addr) (cap2 : Nat) (W : World), SlAt d4C 4 W q2 (c.map A4.d) → Calls Tryd.prog 9 #[.slice q2 cn cap2] W fun e w' => e = .returned (.tuple #[.string ⟨P.1.toArray⟩, .int .i64 P.2]) ∧ Below W.heap.size W w') := fun q2 cap2 W h => by
    have := refPrint_any q2 (c.map A4.d) cn cap2 W (by rw [List.length_map, HCn.out]) (by omega) h
    rwa [HP.out] at this
  have KO : Hid (Calls Tryd.prog 10 #[.slice q1 cn cap1] w2 fun e w' => ∃ q2 cap2, e = .returned (.slice q2 cn cap2) ∧ SlAt d4C 4 w' q2 (c.map A4.d) ∧ Below w2.heap.size w2 w') := by
    refine (ofs_any q1 c cn cap1 w2 HCn.out (by omega) HA2.out).mono ?_
    rintro e w3 ⟨v2, rfl, hown2, hb3⟩
    obtain ⟨q2, cap2, hv2, -, -, hsl2, -⟩ := hown2.at d4C_len
    rw [List.length_map, HCn.out] at hv2
    exact ⟨q2, cap2, by rw [hv2], hsl2, hb3⟩
  go_upto_region 4 with (first
    | (go_at_call 10; (refine KO.out.mono ?_); rintro e w3 ⟨q2, cap2, rfl, hsl2, hb3⟩; have HA3 := ka HA2 hb3; have HB3 := bt HB2 hb3; have HSl2 := Lib.hid hsl2; clear hb3 hsl2)
    | (go_at_call 9; (refine (KRP.out q2 cap2 _ HSl2.out).mono ?_); rintro e w4 ⟨rfl, hb4⟩; have HA4 := ka HA3 hb4; have HB4 := bt HB3 hb4; clear hb4 HSl2))
  clear KRP KO
  clear HA2 HB2 HA3 HB3
  go_wp2_with fail
  go_loopw [7] (fun i wr => ∃ k : Nat, k ≤ cn ∧ i = .int .i64 k ∧ Hid (Below w.heap.size w wr) ∧ Hid (Acts wr q1 c)) (fun i _ => cn - (intOf i).toNat)
  case atStart => exact ⟨0, Nat.zero_le _, rfl, HB4.out, HA4.out⟩
  case round =>
    obtain ⟨k, hk, rfl, HB, HA⟩ := hrel
    clear HB4 HA4
    by_cases hlt : k < cn
    · have hli : (k : Int) < cn := by omega
      have hkx : k < c.length := by rw [HCn.out]; exact hlt
      obtain ⟨b, f, rfl, hb, hr⟩ := HA.out.row k hkx
      have HR := Lib.hid (InRow.mk hb hr)
      have HX := Lib.hid (HA.out.ok _ (List.getElem_mem hkx))
      have hbl := HBy.out _ (List.getElem_mem hkx)
      clear hb hr
      generalize c[k] = x at *
      have HC3 : Hid (∀ W, Below wr.heap.size wr W → W.cell? ⟨b, f + k * 4 + 3, none⟩ = some (.slice x.q x.b.length x.cap)) := fun W hW => (range_of_block HR.out.row (hW.block _ HR.out.lt)) 3 _ rfl
      go_upto_region 7 with fail
      refine wp_region_held_drew (S := fun w' => Below wr.heap.size wr w') (by kernel_rfl) (Below.refl _ _).drew (fun hH => ?_)
      show wpAnyH Tryd.prog Region.Mode.any _ _ _ 29 #[false, false, false, false, false, false, false, false, false, false, false, false, false, false, false, false, false, false, false, false, false, false, false, false, false, false, false, false, false] _ _
      refine takeD (i := 0) (v := .slice (some ⟨b, f, none⟩) cn cap1) 27 rfl rfl (by kernel_rfl) (by kernel_rfl) (by kernel_rfl) (fun _ _ _ h => h) (Or.inl ⟨rfl, fun w' hS => rfl⟩) hH ?_
      simp only [Act.put, List.setIfInBounds_toArray, List.set_cons_zero, List.set_cons_succ]
      refine takeD (i := 1) (v := .int .i64 (k : Int)) 28 rfl rfl (by kernel_rfl) (by kernel_rfl) (by kernel_rfl) (fun _ _ _ h => h) (Or.inl ⟨rfl, fun w' hS => rfl⟩) hH ?_
      simp only [Act.put, List.setIfInBounds_toArray, List.set_cons_zero, List.set_cons_succ]
      refine takeD (i := 2) (v := .pointer (some ⟨b, f + k * 4, none⟩)) 29 rfl rfl (by kernel_rfl) (by kernel_rfl) (by kernel_rfl) (fun _ _ _ h => h) (Or.inl ⟨rfl, fun w' hS => y_ix 22 36 _ _ rfl Tryd.underlying22 4 sizA4 b f cn cap1 k rfl rfl hlt⟩) hH ?_
      simp only [Act.put, List.setIfInBounds_toArray, List.set_cons_zero, List.set_cons_succ]
      refine takeD (i := 3) (v := .agg (a4C x).toArray) 30 rfl rfl (by kernel_rfl) (by kernel_rfl) (by kernel_rfl) (fun _ _ _ h => h) (Or.inl ⟨rfl, fun w' hS => y_A4 _ rfl b (f + k * 4) x rfl (range_of_block HR.out.row (hS.block _ HR.out.lt))⟩) hH ?_
      simp only [Act.put, List.setIfInBounds_toArray, List.set_cons_zero, List.set_cons_succ]
      refine takeD (i := 6) (v := .slice (some ⟨b, f, none⟩) cn cap1) 33 rfl rfl (by kernel_rfl) (by kernel_rfl) (by kernel_rfl) (fun _ _ _ h => h) (Or.inl ⟨rfl, fun w' hS => rfl⟩) hH ?_
      simp only [Act.put, List.setIfInBounds_toArray, List.set_cons_zero, List.set_cons_succ]
      refine takeD (i := 7) (v := .int .i64 (k : Int)) 34 rfl rfl (by kernel_rfl) (by kernel_rfl) (by kernel_rfl) (fun _ _ _ h => h) (Or.inl ⟨rfl, fun w' hS => rfl⟩) hH ?_
      simp only [Act.put, List.setIfInBounds_toArray, List.set_cons_zero, List.set_cons_succ]
      refine takeD (i := 8) (v := .pointer (some ⟨b, f + k * 4, none⟩)) 35 rfl rfl (by kernel_rfl) (by kernel_rfl) (by kernel_rfl) (fun _ _ _ h => h) (Or.inl ⟨rfl, fun w' hS => y_ix 22 36 _ _ rfl Tryd.underlying22 4 sizA4 b f cn cap1 k rfl rfl hlt⟩) hH ?_
      simp only [Act.put, List.setIfInBounds_toArray, List.set_cons_zero, List.set_cons_succ]
      refine takeD (i := 9) (v := .agg (a4C x).toArray) 36 rfl rfl (by kernel_rfl) (by kernel_rfl) (by kernel_rfl) (fun _ _ _ h => h) (Or.inl ⟨rfl, fun w' hS => y_A4 _ rfl b (f + k * 4) x rfl (range_of_block HR.out.row (hS.block _ HR.out.lt))⟩) hH ?_
      simp only [Act.put, List.setIfInBounds_toArray, List.set_cons_zero, List.set_cons_succ]
      refine wpAnyH_ready (rs := [4]) (by kernel_rfl) (by simp) ?_
      refine AllReadyH.cons rfl (fun K hK => ?_) AllReadyH.nil
      refine stG rfl ?_
      go_wp2_with (go_at_call 12; (refine (bare_any x _ (HX.out.below hH) (by omega)).mono ?_); rintro e w5 ⟨y, rfl, hyd, hyo, -, hbn⟩)
      have hHn : Below wr.heap.size wr w5 := hH.trans (hbn.mono hH.size)
      refine hK.out _ _ hHn (fun hHx => ?_)
      clear hK K hH hbn hHx
      have hH := hHn
      clear hHn
      simp only [List.setIfInBounds_toArray, List.set_cons_zero, List.set_cons_succ]
      refine wpAnyH_ready (rs := [5]) (by kernel_rfl) (by simp) ?_
      refine AllReadyH.cons rfl (fun K hK => ?_) AllReadyH.nil
      refine stG rfl ?_
      go_wp2_with (go_at_call 11; (refine (of_any y _ hyo).mono ?_); rintro e w6 ⟨rfl, hbn⟩)
      have hHn : Below wr.heap.size wr w6 := hH.trans (hbn.mono hH.size)
      refine hK.out _ _ hHn (fun hHx => ?_)
      clear hK K hH hbn hHx
      have hH := hHn
      clear hHn
      simp only [List.setIfInBounds_toArray, List.set_cons_zero, List.set_cons_succ]
      clear hyo hyd
      refine wpAnyH_ready (rs := [10]) (by kernel_rfl) (by simp) ?_
      refine AllReadyH.cons rfl (fun K hK => ?_) AllReadyH.nil
      refine stG rfl ?_
      go_wp2_with (go_at_call 11; (refine (of_any x _ (HX.out.below hH)).mono ?_); rintro e w7 ⟨rfl, hbn⟩)
      have hHn : Below wr.heap.size wr w7 := hH.trans (hbn.mono hH.size)
      refine hK.out _ _ hHn (fun hHx => ?_)
      clear hK K hH hbn hHx
      have hH := hHn
      clear hHn
      simp only [List.setIfInBounds_toArray, List.set_cons_zero, List.set_cons_succ]
      refine wpAnyH_ready (rs := [11]) (by kernel_rfl) (by simp) ?_
      refine AllReadyH.cons rfl (fun K hK => ?_) AllReadyH.nil
      refine stG rfl ?_
      go_wp2_with (go_at_call 13; (refine (refBare_any x.d _).mono ?_); rintro e w8 ⟨rfl, hbn⟩)
      have hHn : Below wr.heap.size wr w8 := hH.trans (hbn.mono hH.size)
      refine hK.out _ _ hHn (fun hHx => ?_)
      clear hK K hH hbn hHx
      have hH := hHn
      clear hHn
      simp only [List.setIfInBounds_toArray, List.set_cons_zero, List.set_cons_succ]
      refine takeD (i := 12) (v := .bool false) 39 rfl rfl (by kernel_rfl) (by kernel_rfl) (by kernel_rfl) (fun _ _ _ h => h) (Or.inl ⟨rfl, fun w' hS => y_neDf _ _ rfl (bareD x.d) rfl rfl⟩) hH ?_
      simp only [Act.put, List.setIfInBounds_toArray, List.set_cons_zero, List.set_cons_succ]
      refine takeD (i := 13) (v := .bool false) 40 rfl rfl (by kernel_rfl) (by kernel_rfl) (by kernel_rfl) (fun _ _ _ h => h) (Or.inl ⟨rfl, fun w' hS => rfl⟩) hH ?_
      simp only [Act.put, List.setIfInBounds_toArray, List.set_cons_zero, List.set_cons_succ]
      refine takeD (i := 14) (v := .slice (some ⟨b, f, none⟩) cn cap1) 41 rfl rfl (by kernel_rfl) (by kernel_rfl) (by kernel_rfl) (fun _ _ _ h => h) (Or.inl ⟨rfl, fun w' hS => rfl⟩) hH ?_
      simp only [Act.put, List.setIfInBounds_toArray, List.set_cons_zero, List.set_cons_succ]
      refine takeD (i := 15) (v := .int .i64 (k : Int)) 42 rfl rfl (by kernel_rfl) (by kernel_rfl) (by kernel_rfl) (fun _ _ _ h => h) (Or.inl ⟨rfl, fun w' hS => rfl⟩) hH ?_
      simp only [Act.put, List.setIfInBounds_toArray, List.set_cons_zero, List.set_cons_succ]
      refine takeD (i := 16) (v := .pointer (some ⟨b, f + k * 4, none⟩)) 43 rfl rfl (by kernel_rfl) (by kernel_rfl) (by kernel_rfl) (fun _ _ _ h => h) (Or.inl ⟨rfl, fun w' hS => y_ix 22 36 _ _ rfl Tryd.underlying22 4 sizA4 b f cn cap1 k rfl rfl hlt⟩) hH ?_
      simp only [Act.put, List.setIfInBounds_toArray, List.set_cons_zero, List.set_cons_succ]
      refine takeD (i := 17) (v := .pointer (some ⟨b, f + k * 4 + 3, none⟩)) 44 rfl rfl (by kernel_rfl) (by kernel_rfl) (by kernel_rfl) (fun _ _ _ h => h) (Or.inl ⟨rfl, fun w' hS => y_fld _ rfl b (f + k * 4) rfl⟩) hH ?_
      simp only [Act.put, List.setIfInBounds_toArray, List.set_cons_zero, List.set_cons_succ]
      refine takeD (i := 18) (v := .slice x.q x.b.length x.cap) 45 rfl rfl (by kernel_rfl) (by kernel_rfl) (by kernel_rfl) (fun _ _ _ h => h) (Or.inl ⟨rfl, fun w' hS => y_ldS _ rfl b (f + k * 4 + 3) _ rfl (HC3.out _ hS)⟩) hH ?_
      simp only [Act.put, List.setIfInBounds_toArray, List.set_cons_zero, List.set_cons_succ]
      refine takeD (i := 20) (v := .slice (some ⟨b, f, none⟩) cn cap1) 47 rfl rfl (by kernel_rfl) (by kernel_rfl) (by kernel_rfl) (fun _ _ _ h => h) (Or.inl ⟨rfl, fun w' hS => rfl⟩) hH ?_
      simp only [Act.put, List.setIfInBounds_toArray, List.set_cons_zero, List.set_cons_succ]
      refine takeD (i := 21) (v := .int .i64 (k : Int)) 48 rfl rfl (by kernel_rfl) (by kernel_rfl) (by kernel_rfl) (fun _ _ _ h => h) (Or.inl ⟨rfl, fun w' hS => rfl⟩) hH ?_
      simp only [Act.put, List.setIfInBounds_toArray, List.set_cons_zero, List.set_cons_succ]
      refine takeD (i := 22) (v := .pointer (some ⟨b, f + k * 4, none⟩)) 49 rfl rfl (by kernel_rfl) (by kernel_rfl) (by kernel_rfl) (fun _ _ _ h => h) (Or.inl ⟨rfl, fun w' hS => y_ix 22 36 _ _ rfl Tryd.underlying22 4 sizA4 b f cn cap1 k rfl rfl hlt⟩) hH ?_
      simp only [Act.put, List.setIfInBounds_toArray, List.set_cons_zero, List.set_cons_succ]
      refine takeD (i := 23) (v := .pointer (some ⟨b, f + k * 4 + 3, none⟩)) 50 rfl rfl (by kernel_rfl) (by kernel_rfl) (by kernel_rfl) (fun _ _ _ h => h) (Or.inl ⟨rfl, fun w' hS => y_fld _ rfl b (f + k * 4) rfl⟩) hH ?_
      simp only [Act.put, List.setIfInBounds_toArray, List.set_cons_zero, List.set_cons_succ]
      refine takeD (i := 24) (v := .slice x.q x.b.length x.cap) 51 rfl rfl (by kernel_rfl) (by kernel_rfl) (by kernel_rfl) (fun _ _ _ h => h) (Or.inl ⟨rfl, fun w' hS => y_ldS _ rfl b (f + k * 4 + 3) _ rfl (HC3.out _ hS)⟩) hH ?_
      simp only [Act.put, List.setIfInBounds_toArray, List.set_cons_zero, List.set_cons_succ]
      refine takeD (i := 25) (v := .string ⟨x.b.toArray⟩) 52 rfl rfl (by kernel_rfl) (by kernel_rfl) (by kernel_rfl) (fun _ _ _ h => h) (Or.inl ⟨rfl, fun w' hS => y_cv _ rfl x.q x.cap x.b rfl (HX.out.below hS).row⟩) hH ?_
      simp only [Act.put, List.setIfInBounds_toArray, List.set_cons_zero, List.set_cons_succ]
      refine wpAnyH_ready (rs := [19]) (by kernel_rfl) (by simp) ?_
      refine AllReadyH.cons rfl (fun K hK => ?_) AllReadyH.nil
      refine stG rfl ?_
      go_wp2_with (go_at_call 14; (refine (hex_any x.q x.b x.b.length x.cap _ rfl (by omega) (HX.out.below hH).row).mono ?_); rintro e w9 ⟨rfl, hbn⟩)
      have hHn : Below wr.heap.size wr w9 := hH.trans (hbn.mono hH.size)
      refine hK.out _ _ hHn (fun hHx => ?_)
      clear hK K hH hbn hHx
      have hH := hHn
      clear hHn
      simp only [List.setIfInBounds_toArray, List.set_cons_zero, List.set_cons_succ]
      refine wpAnyH_ready (rs := [26]) (by kernel_rfl) (by simp) ?_
      refine AllReadyH.cons rfl (fun K hK => ?_) AllReadyH.nil
      refine stG rfl ?_
      go_wp2_with (go_at_call 15; (refine (refHex_any x.b _ (by omega)).mono ?_); rintro e w10 ⟨rfl, hbn⟩)
      have hHn : Below wr.heap.size wr w10 := hH.trans (hbn.mono hH.size)
      refine hK.out _ _ hHn (fun hHx => ?_)
      clear hK K hH hbn hHx
      have hH := hHn
      clear hHn
      simp only [List.setIfInBounds_toArray, List.set_cons_zero, List.set_cons_succ]
      refine takeD (i := 27) (v := .bool false) 54 rfl rfl (by kernel_rfl) (by kernel_rfl) (by kernel_rfl) (fun _ _ _ h => h) (Or.inl ⟨rfl, fun w' hS => y_neSf _ _ rfl (hexD x.b) rfl rfl⟩) hH ?_
      simp only [Act.put, List.setIfInBounds_toArray, List.set_cons_zero, List.set_cons_succ]
      refine takeD (i := 28) (v := .bool false) 55 rfl rfl (by kernel_rfl) (by kernel_rfl) (by kernel_rfl) (fun _ _ _ h => h) (Or.inl ⟨rfl, fun w' hS => rfl⟩) hH ?_
      simp only [Act.put, List.setIfInBounds_toArray, List.set_cons_zero, List.set_cons_succ]
      refine ⟨by kernel_rfl, ?_⟩
      have HA2 := ka HA hH
      have HB2 := bt HB hH
      clear hH
      go_wp2_with fail
      go_roundw
      case rel => exact ⟨k + 1, by omega, by go_num, HB2.out, HA2.out⟩
      case measure => simp [intOf]; omega
    · obtain rfl : k = cn := by omega
      have hli : ¬ (k : Int) < k := by omega
      have KN : Hid (Calls Tryd.prog 16 #[] wr fun e w' => e = .returned (.bool true) ∧ Below wr.heap.size wr w') := known_any wr (HMX.out.below HB.out) (HTB.out.below HB.out)
      have hself : ((⟨P.1.toArray⟩ : ByteArray).toList == (⟨P.1.toArray⟩ : ByteArray).toList) = true := by rw [beq_self_eq_true]
      generalize (⟨P.1.toArray⟩ : ByteArray) = PS at *
      generalize P.2 = pe at *
      go_wp2_with (go_at_call 16; (refine KN.out.mono ?_); rintro e w5 ⟨rfl, hb5⟩)
      go_ret
      exact ⟨rfl, HB.out.trans (hb5.mono HB.out.size)⟩
end Go.Proofs.YtmbbhnbfgcmkgaaDoor
