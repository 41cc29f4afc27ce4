/- SheetDiffs, walked. -/
import Derived.Test.YtpnmficlebnajaaJ11
namespace Go.Proofs.Ytpnmficlebnajaa
open Go.RowKit

set_option maxRecDepth 100000 in
set_option maxHeartbeats 8000000 in
theorem SheetDiffs_walkS (qa : Option Addr) (a : List Ent) (na ca : Nat) (qb : Option Addr) (b : List Ent) (nb cb : Nat) (qc : Option Addr) (cs : List Ch) (nc cc : Nat) (w : World)
    (hna : a.length = na) (hca : na ≤ ca) (hma : ca ≤ maxLen) (hqa : SlAt entC 13 w qa a) (hsa : ∀ x ∈ a, x.t.size ≤ maxLen)
    (hnb : b.length = nb) (hcb : nb ≤ cb) (hmb : cb ≤ maxLen) (hqb : SlAt entC 13 w qb b) (hsb : ∀ x ∈ b, x.t.size ≤ maxLen)
    (hnc : cs.length = nc) (hcc : nc ≤ cc) (hmc : cc ≤ maxLen) (hqc : SlAt chC 15 w qc cs) (hsc : ∀ x ∈ cs, x.was.size ≤ maxLen ∧ x.is.size ≤ maxLen) :
    Calls Try.prog 6 #[.slice qa na ca, .slice qb nb cb, .slice qc nc cc] w fun e w' => e = .returned (.bool true) ∧ Below w.heap.size w w' := by
  have KA := Lib.hid (sheet_any qa a na ca w hna hca hma hqa hsa)
  have KB : Hid (∀ W, Below w.heap.size w W → Calls Try.prog 16 #[.slice qb nb cb] W fun e w' => Below W.heap.size W w' ∧ ∃ v', e = .returned v' ∧ OwnE entC 44 13 w' W.heap.size v' (sheetL b)) := fun W h => sheet_any qb b nb cb W hnb hcb hmb (hqb.below h) hsb
  have HGA := Lib.hid (sheetL_good a)
  have HGB := Lib.hid (sheetL_good b)
  have HQC := Lib.hid hqc
  have HNC := Lib.hid hnc
  have HSC := Lib.hid hsc
  clear hna hca hma hqa hsa hnb hcb hmb hqb hsb hnc hqc hsc
  unfold maxLen at hmc
  generalize sheetL a = x at *
  generalize sheetL b = y at *
  go_enter Try.func6, Try.ntmps6
  go_upto_region 2 with (first
    | (go_at_call 16; (with_reducible refine KA.out.mono ?_); rintro e w1 ⟨hb1, v1, rfl, ho1⟩; obtain ⟨q1, cap1, rfl, hc1, hm1, hq1, hq1'⟩ := ho1.at entC_len; have HB1 := Lib.hid hb1; have HQ1 := Lib.hid hq1; have HC1 : Hid (x.length ≤ cap1 ∧ cap1 ≤ maxLen) := ⟨hc1, hm1⟩; clear hb1 ho1 hq1 hq1' hc1 hm1)
    | (go_at_call 16; (with_reducible refine (KB.out _ HB1.out).mono ?_); rintro e w2 ⟨hb2, v2, rfl, ho2⟩; obtain ⟨q2, cap2, rfl, hc2, hm2, hq2, hq2'⟩ := ho2.at entC_len; have HB2 := Lib.hid hb2; have HQ2 := Lib.hid hq2; have HC2 : Hid (y.length ≤ cap2 ∧ cap2 ≤ maxLen) := ⟨hc2, hm2⟩; clear hb2 ho2 hq2 hq2' hc2 hm2))
  obtain ⟨nx, hnx⟩ : ∃ nx, x.length = nx := ⟨_, rfl⟩
  obtain ⟨ny, hny⟩ : ∃ ny, y.length = ny := ⟨_, rfl⟩
  rw [hnx] at HC1 ⊢
  rw [hny] at HC2 ⊢
  have HS : Hid (TwoS w2 x y nx ny q1 cap1 q2 cap2) := ⟨HGA.out, HGB.out, hnx, hny, HC1.out, HC2.out, HQ1.out.below HB2.out, HQ2.out⟩
  have HW2 : Hid (Below w.heap.size w w2) := HB1.out.trans (HB2.out.mono HB1.out.size)
  have HNX := Lib.hid hnx
  have HNY := Lib.hid hny
  obtain ⟨nd, hnd⟩ : ∃ nd, Hid ((diffL x y).length = nd) := ⟨_, rfl⟩
  obtain ⟨no, hno⟩ : ∃ no, Hid ((overL x y).length = no) := ⟨_, rfl⟩
  have hnd32 : nd ≤ 32 := by have := diff_le x y; have := HS.out.nx16; have := HS.out.ny16; have := hnd.out; omega
  clear KA KB HB1 HB2 HC1 HC2 HQ1 HQ2 hnx hny
  have KD := Lib.hid (HS.out.diff nd hnd.out)
  go_upto_region 3 with (go_at_call 18; (with_reducible refine KD.out.mono ?_); rintro e w3 ⟨hb3, qd, cd, rfl, hcd, hmd, hqd⟩; have HB3 := Lib.hid hb3; have HQD := Lib.hid hqd; have HCD : Hid (nd ≤ cd ∧ cd ≤ maxLen) := ⟨hcd, hmd⟩; clear hb3 hqd hcd hmd)
  have HS3 := Lib.hid (HS.out.below HB3.out)
  have KX := Lib.hid HS3.out.of
  have KY : Hid (∀ W, Below w3.heap.size w3 W → Calls Try.prog 11 #[.slice q2 ny cap2] W fun e w' => Below W.heap.size W w' ∧ ∃ q c, e = .returned (.slice q ny c) ∧ ny ≤ c ∧ c ≤ maxLen ∧ SlAt rentC 2 w' q (y.map toR)) := fun W h => (HS3.out.below h).turn.of
  go_upto_region 4 with (first
    | (go_at_call 11; (with_reducible refine KX.out.mono ?_); rintro e w4 ⟨hb4, q4, c4, rfl, hc4, hm4, hq4⟩; have HB4 := Lib.hid hb4; have HQ4 := Lib.hid hq4; have HC4 : Hid (nx ≤ c4 ∧ c4 ≤ maxLen) := ⟨hc4, hm4⟩; clear hb4 hq4 hc4 hm4)
    | (go_at_call 11; (with_reducible refine (KY.out _ HB4.out).mono ?_); rintro e w5 ⟨hb5, q5, c5, rfl, hc5, hm5, hq5⟩; have HB5 := Lib.hid hb5; have HQ4' := Lib.hid (HQ4.out.below hb5); have HQ5 := Lib.hid hq5; have HC5 : Hid (ny ≤ c5 ∧ c5 ≤ maxLen) := ⟨hc5, hm5⟩; clear hb5 hq5 hc5 hm5)
    | (go_at_call 19; (with_reducible refine (rdiff_sl HGA.out HGB.out HNX.out HNY.out HC4.out.1 HC4.out.2 HC5.out.1 HC5.out.2 HQ4'.out HQ5.out nd hnd.out).mono ?_); rintro e w6 ⟨hb6, q6, c6, rfl, hc6, hm6, hq6⟩; have HB6 := Lib.hid hb6; have HQ6 := Lib.hid hq6; clear hb6 hq6 hc6 hm6))
  have HB36 : Hid (Below w3.heap.size w3 w6) := HB4.out.trans ((HB5.out.trans (HB6.out.mono HB5.out.size)).mono HB4.out.size)
  have HS6 := Lib.hid (HS3.out.below HB36.out)
  have HQD6 := Lib.hid (HQD.out.below HB36.out)
  have HW6 : Hid (Below w.heap.size w w6) := HW2.out.trans ((HB3.out.trans (HB36.out.mono HB3.out.size)).mono HW2.out.size)
  clear KD KX KY HB3 HB4 HB5 HB6 HB36 HQ4 HQ4' HQ5 HC4 HC5 HS3 HQD HS HW2
  have KO := Lib.hid (HS6.out.over no hno.out)
  have KX : Hid (∀ W, Below w6.heap.size w6 W → Calls Try.prog 11 #[.slice q1 nx cap1] W fun e w' => Below W.heap.size W w' ∧ ∃ q c, e = .returned (.slice q nx c) ∧ nx ≤ c ∧ c ≤ maxLen ∧ SlAt rentC 2 w' q (x.map toR)) := fun W h => (HS6.out.below h).of
  have KY : Hid (∀ W, Below w6.heap.size w6 W → Calls Try.prog 11 #[.slice q2 ny cap2] W fun e w' => Below W.heap.size W w' ∧ ∃ q c, e = .returned (.slice q ny c) ∧ ny ≤ c ∧ c ≤ maxLen ∧ SlAt rentC 2 w' q (y.map toR)) := fun W h => (HS6.out.below h).turn.of
  go_upto_region 6 with (first
    | (go_at_call 20; (with_reducible refine KO.out.mono ?_); rintro e w7 ⟨hb7, q7, c7, rfl, hc7, hm7, hq7⟩; have HB7 := Lib.hid hb7; have HQ7 := Lib.hid hq7; have HC7 : Hid (no ≤ c7 ∧ c7 ≤ maxLen) := ⟨hc7, hm7⟩; clear hb7 hq7 hc7 hm7)
    | (go_at_call 11; (with_reducible refine (KX.out _ HB7.out).mono ?_); rintro e w8 ⟨hb8, q8, c8, rfl, hc8, hm8, hq8⟩; have HB8 := Lib.hid (HB7.out.trans (hb8.mono HB7.out.size)); have HQ78 := Lib.hid (HQ7.out.below hb8); have HQ8 := Lib.hid hq8; clear hb8 hq8 hc8 hm8)
    | (go_at_call 11; (with_reducible refine (KY.out _ HB8.out).mono ?_); rintro e w9 ⟨hb9, q9, c9, rfl, hc9, hm9, hq9⟩; have HB9 := Lib.hid (HB8.out.trans (hb9.mono HB8.out.size)); have HQ79 := Lib.hid (HQ78.out.below hb9); have HQ89 := Lib.hid (HQ8.out.below hb9); have HQ9 := Lib.hid hq9; clear hb9 hq9 hc9 hm9)
    | (go_at_call 21; (with_reducible refine (rover_sl HGA.out HGB.out HNX.out HNY.out HQ89.out HQ9.out no hno.out).mono ?_); rintro e w10 ⟨hb10, q10, c10, rfl, hc10, hm10, hq10⟩; have HB10 := Lib.hid (HB9.out.trans (hb10.mono HB9.out.size)); have HQ10 := Lib.hid hq10; have HQ710 := Lib.hid (HQ79.out.below hb10); have HC10 : Hid (no ≤ c10 ∧ c10 ≤ maxLen) := ⟨hc10, hm10⟩; clear hb10 hq10 hc10 hm10)
    | (go_at_call 15; (with_reducible refine (same_any q7 q10 (overL x y) no c7 c10 w10 hno.out HC7.out.1 HC7.out.2 HC10.out.1 HC10.out.2 HQ710.out HQ10.out).mono ?_); rintro e w11 ⟨rfl, hb11⟩; have HB11 := Lib.hid (HB10.out.trans (hb11.mono HB10.out.size)); clear hb11))
  have HS11 := Lib.hid (HS6.out.below HB11.out)
  have HQD11 := Lib.hid (HQD6.out.below HB11.out)
  have HQ611 := Lib.hid (HQ6.out.below HB11.out)
  have HW11 : Hid (Below w.heap.size w w11) := HW6.out.trans (HB11.out.mono HW6.out.size)
  clear KO KX KY HB7 HB8 HB9 HB10 HB11 HS6 HQD6 HQ6 HW6 HQ7 HQ78 HQ79 HQ8 HQ89 HQ9 HQ10 HQ710 HC7 HC10
  have KO := Lib.hid (ofc_sl hnd.out HCD.out.1 HCD.out.2 HQD11.out (by omega))
  go_wp2_with (go_at_call 22; (with_reducible refine KO.out.mono ?_); rintro e w12 ⟨hb12, q12, c12, rfl, hc12, hm12, hq12⟩; have HB12 := Lib.hid hb12; have HQ12 := Lib.hid hq12; clear hb12 hq12)
  have HS12 := Lib.hid (HS11.out.below HB12.out)
  have HQ6 := Lib.hid (HQ611.out.below HB12.out)
  have HW12 : Hid (Below w.heap.size w w12) := HW11.out.trans (HB12.out.mono HW11.out.size)
  clear KO HB12 HS11 HQD11 HQ611 HW11
  go_loopw [12] (fun i wr => ∃ k : Nat, k ≤ nd ∧ i = .int .i64 k ∧ Hid (Below w12.heap.size w12 wr)) (fun i _ => nd - (intOf i).toNat)
  case atStart => exact ⟨0, Nat.zero_le _, rfl, Below.refl _ _⟩
  case round =>
    obtain ⟨k, hk, rfl, HV⟩ := hrel
    by_cases hlt : k < nd
    · have hlt' : (k : Int) < nd := by omega
      have hk0 : (0 : Int) ≤ (k : Int) := by omega
      have hk2 : k < ((diffL x y).map toRC).length := by rw [List.length_map, hnd.out]; exact hlt
      obtain ⟨bm, om, rfl, hbm, hrm⟩ := HQ12.out k hk2
      obtain ⟨bv, ov, rfl, hbv, hrv⟩ := HQ6.out k hk2
      have HRM : Hid (wr.rangeAt bm (om + k * 4) (rchC ((diffL x y).map toRC)[k])) := range_of_block hrm (HV.out.block bm hbm)
      have HRV : Hid (wr.rangeAt bv (ov + k * 4) (rchC ((diffL x y).map toRC)[k])) := range_of_block hrv (HV.out.block bv hbv)
      have hbmw : bm < wr.heap.size := Nat.lt_of_lt_of_le hbm HV.out.size
      have hbvw : bv < wr.heap.size := Nat.lt_of_lt_of_le hbv HV.out.size
      clear hrm hrv
      generalize ((diffL x y).map toRC)[k] = z at *
      go_upto_region 10 with fail
      refine wp_region_quiet_below (by kernel_rfl) (by kernel_rfl) ?_
      repeat (first
        | (refine wq_valC (.bool false) rfl (fun W _ => exec_neqRC W (.tmp 60) (.tmp 64) rfl z rfl rfl) ?_; simp only [Act.put, List.setIfInBounds_toArray, List.set_cons_zero, List.set_cons_succ])
        | (with_reducible refine wq_ldr rfl 54 (.tmp 59) rfl bm (om + k * 4) (rchC z) _ Try.underlying54 rfl (sizRC' z) rfl HRM.out hbmw ?_; simp only [Act.put, List.setIfInBounds_toArray, List.set_cons_zero, List.set_cons_succ])
        | (with_reducible refine wq_ldr rfl 54 (.tmp 63) rfl bv (ov + k * 4) (rchC z) _ Try.underlying54 rfl (sizRC' z) rfl HRV.out hbvw ?_; simp only [Act.put, List.setIfInBounds_toArray, List.set_cons_zero, List.set_cons_succ])
        | go_big_quiet_step (fail))
      refine wpQuiet_nil ?_
      rintro _ ⟨⟨dq, osq⟩, rfl⟩
      have hbg : Below w12.heap.size w12 (Sort.grow (redrawn wr dq) osq) := HV.out.trans ((below_regrown wr dq osq).mono HV.out.size)
      have HBG := Lib.hid hbg
      clear hbg
      go_wp2_with fail
      go_roundw
      case rel => exact ⟨k + 1, by omega, by go_num, HBG.out⟩
      case measure => simp [intOf]; omega
    · obtain rfl : k = nd := by omega
      have HS13 := Lib.hid (HS12.out.below HV.out)
      have HW13 : Hid (Below w.heap.size w wr) := HW12.out.trans (HV.out.mono HW12.out.size)
      clear HS12 HW12 HQ6 HQ12 HV
      generalize hw13 : wr = w13 at *
      clear hw13
      go_wp2_with fail
      go_loopw [13, 14] (fun v i wr => ∃ k : Nat, k ≤ nc ∧ k ≤ 10 ∧ i = .int .i64 k ∧ Hid (OwnE chC 56 15 wr w13.heap.size v (((cs.take k).map cutC).filter fun c => rightB c.n)) ∧ Hid (Below w13.heap.size w13 wr)) (fun _ i _ => nc - (intOf i).toNat)
      case atStart => exact ⟨0, Nat.zero_le _, Nat.zero_le _, rfl, OwnE.nil _ _, Below.refl _ _⟩
      case round =>
        obtain ⟨k, hk, hk10, rfl, HO, HV⟩ := hrel
        by_cases hgo : k < nc ∧ k < 10
        · obtain ⟨hlt, hl10⟩ := hgo
          have hlt' : (k : Int) < nc := by omega
          have hl10' : (k : Int) < 10 := by omega
          have hk0 : (0 : Int) ≤ (k : Int) := by omega
          have hk2 : k < cs.length := by rw [HNC.out]; exact hlt
          obtain ⟨b, ob, rfl, hb, hr⟩ := (HQC.out.below HW13.out) k hk2
          have HR : Hid (wr.rangeAt b (ob + k * 15) (chC cs[k])) := range_of_block hr (HV.out.block b hb)
          have hsz := HSC.out _ (List.getElem_mem hk2)
          have HMS := Lib.hid (chg_snoc cs k hk2)
          clear hr
          generalize cs[k] = x1 at *
          have HOl : Hid ((((cs.take k).map cutC).filter (fun c => rightB c.n)).length ≤ 10) := Nat.le_trans (List.length_filter_le _ _) (by rw [List.length_map, List.length_take]; omega)
          generalize ((cs.take k).map cutC).filter (fun c => rightB c.n) = out at *
          have hr1 : (wr.alloc (.cells (chC x1).toArray 56)).rangeAt wr.heap.size 0 (chC x1) := range_whole (heap_alloc_new _ _)
          obtain ⟨hx0, hx1, hx2, hx3⟩ := chg_cells hr1
          simp only [Nat.zero_add] at hx1 hx2 hx3
          have hsw : (x1.was.size : Int) ≤ 9223372036854775807 := by have := hsz.1; unfold maxLen at this; omega
          have hsi : (x1.is.size : Int) ≤ 9223372036854775807 := by have := hsz.2; unfold maxLen at this; omega
          have h60a : (0 : Int) ≤ min (x1.was.size : Int) 60 := by omega
          have h60b : min (x1.was.size : Int) 60 ≤ (x1.was.size : Int) := by omega
          have h60c : (0 : Int) ≤ min (x1.is.size : Int) 60 := by omega
          have h60d : min (x1.is.size : Int) 60 ≤ (x1.is.size : Int) := by omega
          have hset1 : (chC x1).set 13 (.string (x1.was.extract 0 (min (x1.was.size : Int) 60).toNat)) = chC ⟨x1.n, x1.hn, x1.k, cutT 60 x1.was, x1.is⟩ := chC_set13 x1 _
          have hx4 : (wr.alloc (.cells ((chC x1).set 13 (.string (x1.was.extract 0 (min (x1.was.size : Int) 60).toNat))).toArray 56)).cell? ⟨wr.heap.size, 14, none⟩ = some (.string x1.is) := by
            rw [hset1]
            have := (chg_cells (o := 0) (range_whole (heap_alloc_new wr (.cells (chC ⟨x1.n, x1.hn, x1.k, cutT 60 x1.was, x1.is⟩).toArray 56)))).2.2.2
            simpa using this
          clear hset1
          have HG1 := Lib.hid (heap_alloc_new wr (.cells (chC x1).toArray 56))
          clear hr1 hx0 hx1 hsz
          go_upto_region 17 with (first
            | (with_reducible refine ld_C rfl _ rfl b (ob + k * 15) x1 rfl HR.out ?_)
            | (refine wl_strn rfl 56 _ _ rfl (chC x1).toArray _ _ (sizC'' x1) (chC_sz x1) (chC_all x1) rfl rfl ?_))
          simp only [Act.put]
          go_region
          have hset2 : ((chC x1).set 13 (.string (x1.was.extract 0 (min (x1.was.size : Int) 60).toNat))).set 14 (.string (x1.is.extract 0 (min (x1.is.size : Int) 60).toNat)) = chC (cutC x1) := by
            rw [chC_set13, chC_set14]; rfl
          rw [hset2]
          clear hset2 hx2 hx3 hx4 h60a h60b h60c h60d hsw hsi HG1
          have hba := below_alloc1 wr (.cells (chC (cutC x1)).toArray 56)
          have hbd : Below wr.heap.size wr (wr.alloc (.cells (chC (cutC x1)).toArray 56)).drew := ⟨hba.os, hba.tape, hba.output, hba.size, hba.block⟩
          have HG2 : Hid ((wr.alloc (.cells (chC (cutC x1)).toArray 56)).drew.heap[wr.heap.size]? = some (.cells (chC (cutC x1)).toArray 56)) := heap_alloc_new wr _
          have HV2 : Hid (Below w13.heap.size w13 (wr.alloc (.cells (chC (cutC x1)).toArray 56)).drew) := HV.out.trans (hbd.mono HV.out.size)
          have HO2 := Lib.hid (HO.out.below hbd)
          have hol : out.length ≤ 1000000 := by have := HOl.out; omega
          clear hba hbd HO HV HR
          generalize (wr.alloc (.cells (chC (cutC x1)).toArray 56)).drew = W2 at *
          generalize wr.heap.size = g at *
          have HX2 : Hid (W2.rangeAt g 0 (bC x1.n).toList) := (chg_cells (c := cutC x1) (range_whole HG2.out)).1
          have HX12 : Hid (x1.n.length = 12) := x1.hn
          have KT : Hid (Calls Try.prog 23 #[.agg (bC x1.n)] W2 fun e w' => e = .returned (.string (tq x1.n)) ∧ Below W2.heap.size W2 w') := lawText_any _ W2 x1.hn
          have hask : ((tq x1.n).toList == [63]) = !rightB x1.n := ask_b x1.n
          generalize tq x1.n = xt at *
          cases hrt : rightB x1.n
          · rw [hrt] at hask HMS
            clear hrt
            go_wp2_with (first
              | (with_reducible refine ld_N rfl _ rfl g 0 x1.n HX12.out rfl HX2.out ?_)
              | (go_at_call 23; (with_reducible refine KT.out.mono ?_); rintro e w14 ⟨rfl, hb14⟩))
            have HO3 := HO2.out.below hb14
            have HV3 := HV2.out.trans (hb14.mono HV2.out.size)
            go_roundw
            case rel => exact ⟨k + 1, by omega, by omega, by go_num, by rw [HMS.out]; show OwnE _ _ _ _ _ _ (out ++ []); rw [List.append_nil]; exact HO3, HV3⟩
            case measure => simp [intOf]; omega
          · rw [hrt] at hask HMS
            clear hrt
            go_upto_region 19 with (first
              | (with_reducible refine ld_N rfl _ rfl g 0 x1.n HX12.out rfl HX2.out ?_)
              | (go_at_call 23; (with_reducible refine KT.out.mono ?_); rintro e w14 ⟨rfl, hb14⟩))
            have HO3 := Lib.hid (HO2.out.below hb14)
            have HV3 : Hid (Below w13.heap.size w13 w14) := HV2.out.trans (hb14.mono HV2.out.size)
            have HG3 : Hid (w14.heap[g]? = some (.cells (chC (cutC x1)).toArray 56)) := (hb14.block _ (lt_heap HG2.out)).trans HG2.out
            clear HG2 HV2 HO2 HX2 KT hb14
            generalize cutC x1 = z at *
            have hWa : Below w13.heap.size w13 (w14.alloc (.cells (chC z).toArray 56)) := HV3.out.trans ((below_alloc1 _ _).mono HV3.out.size)
            have hOa := HO3.out.below (below_alloc1 w14 (.cells (chC z).toArray 56))
            have hga := heap_alloc_new w14 (.cells (chC z).toArray 56)
            have HWa := Lib.hid hWa
            have HOa := Lib.hid hOa
            have HGa := Lib.hid hga
            clear hWa hOa hga
            go_wp2_with (first
              | (with_reducible refine ld_C rfl _ rfl g 0 z rfl (range_whole HG3.out) ?_)
              | (refine bs_C rfl _ rfl z rfl ?_)
              | (at_builtin; (refine app_C rfl _ _ rfl w13.heap.size _ out rfl HOa.out w14.heap.size 1 z rfl (range_whole HGa.out) hol HWa.out.size ?_); intro v' w15 ho15 hg15))
            have hb15 : Below w13.heap.size w13 w15 := HWa.out.trans (grown_below hg15 (fun z hz => (HOa.out.lt z hz).1) HWa.out.size)
            go_roundw
            case rel => exact ⟨k + 1, by omega, by omega, by go_num, by rw [HMS.out]; exact ho15, hb15⟩
            case measure => simp [intOf]; omega
        · have HE : Hid (chgL cs = ((cs.take k).map cutC).filter fun c => rightB c.n) := by
            show chgL cs = _
            unfold chgL
            rcases Nat.lt_or_ge k 10 with h | h
            · rw [List.take_of_length_le (l := cs) (i := 10) (by rw [HNC.out]; omega), List.take_of_length_le (l := cs) (i := k) (by rw [HNC.out]; omega)]
            · obtain rfl : k = 10 := by omega
              rfl
          rw [← HE.out] at HO
          have HCR : Hid (∀ c ∈ chgL cs, rightB c.n = true) := fun c hc => (List.mem_filter.1 hc).2
          have HCL : Hid ((chgL cs).length ≤ 10) := Nat.le_trans (List.length_filter_le _ _) (by rw [List.length_map, List.length_take]; omega)
          clear HE HNC HQC HSC
          generalize chgL cs = zs at *
          obtain ⟨qz, cz, hvz, hcz, hmz, hqz, _⟩ := HO.out.at chC_len
          subst hvz
          obtain ⟨nz, hnz⟩ : ∃ nz, Hid (zs.length = nz) := ⟨_, rfl⟩
          rw [hnz.out] at hcz ⊢
          have HQZ := Lib.hid hqz
          have hnz10 : nz ≤ 10 := by rw [← hnz.out]; exact HCL.out
          clear HO hqz HCL
          have HSf := Lib.hid (HS13.out.below HV.out)
          have HWf : Hid (Below w.heap.size w wr) := HW13.out.trans (HV.out.mono HW13.out.size)
          have KAp : Hid (Calls Try.prog 24 #[.slice q1 nx cap1, .slice qz nz cz] wr fun e w' => Below wr.heap.size wr w' ∧ ∃ v', e = .returned (.tuple #[v', .int .i64 (applyE x zs : Nat)]) ∧ OwnE entC 44 13 w' wr.heap.size v' (applyL x zs)) :=
            apply_any q1 x nx cap1 qz zs nz cz wr HNX.out HSf.out.hx.1 HSf.out.hx.2 HSf.out.ax hnz.out HQZ.out HGA.out.upR HCR.out (by have := HSf.out.nx16; omega) (by omega)
          have KX : Hid (∀ W, Below wr.heap.size wr W → Calls Try.prog 11 #[.slice q1 nx cap1] W fun e w' => Below W.heap.size W w' ∧ ∃ q c, e = .returned (.slice q nx c) ∧ nx ≤ c ∧ c ≤ maxLen ∧ SlAt rentC 2 w' q (x.map toR)) := fun W h => (HSf.out.below h).of
          have KZ : Hid (∀ W, Below wr.heap.size wr W → Calls Try.prog 22 #[.slice qz nz cz] W fun e w' => Below W.heap.size W w' ∧ ∃ q c, e = .returned (.slice q nz c) ∧ nz ≤ c ∧ c ≤ maxLen ∧ SlAt rchC 4 w' q (zs.map toRC)) := fun W h => ofc_sl hnz.out hcz hmz (HQZ.out.below h) (by omega)
          have KRA : Hid (∀ W qa ca qb cb, nx ≤ ca → ca ≤ maxLen → SlAt rentC 2 W qa (x.map toR) → SlAt rchC 4 W qb (zs.map toRC) → Calls Try.prog 25 #[.slice qa nx ca, .slice qb nz cb] W fun e w' => Below W.heap.size W w' ∧ ∃ q n cap, e = .returned (.tuple #[.slice q n cap, .int .i64 (applyE x zs : Nat)]) ∧ n = (applyL x zs).length ∧ n ≤ cap ∧ cap ≤ maxLen ∧ SlAt rentC 2 w' q ((applyL x zs).map toR)) :=
            fun W qa ca qb cb h1 h2 h3 h4 => rapply_any qa x nx ca qb zs nz cb W HNX.out h1 h2 h3 hnz.out h4 HGA.out.upR HCR.out (by have := HSf.out.nx16; omega) (by omega)
          have HK := Lib.hid known_any
          clear HSf HQZ HCR hcz hmz
          generalize applyL x zs = l at *
          generalize ((applyE x zs : Nat) : Int) = en at *
          rcases (show k = nc ∨ (k = 10 ∧ (10 : Int) < nc) by omega) with rfl | ⟨rfl, hlt'⟩
          all_goals
            go_upto_region 21 with (go_at_call 24; (with_reducible refine KAp.out.mono ?_); rintro e wa ⟨hba, va, rfl, hoa⟩; obtain ⟨ql, cl, rfl, hcl, hml, hql, hql'⟩ := hoa.at entC_len; have HBA := Lib.hid hba; have HQL := Lib.hid hql; have HCL : Hid (l.length ≤ cl ∧ cl ≤ maxLen) := ⟨hcl, hml⟩; clear hba hoa hql hql' hcl hml)
            go_upto_region 22 with (first
              | (go_at_call 11; (with_reducible refine (KX.out _ HBA.out).mono ?_); rintro e wb ⟨hbb, qb', cb', rfl, hcb', hmb', hqb'⟩; have HBB := Lib.hid (HBA.out.trans (hbb.mono HBA.out.size)); have HQLb := Lib.hid (HQL.out.below hbb); have HQB := Lib.hid hqb'; have HCB : Hid (nx ≤ cb' ∧ cb' ≤ maxLen) := ⟨hcb', hmb'⟩; clear hbb hqb' hcb' hmb')
              | (go_at_call 22; (with_reducible refine (KZ.out _ HBB.out).mono ?_); rintro e wc ⟨hbc, qc', cc', rfl, hcc', hmc', hqc'⟩; have HBC := Lib.hid (HBB.out.trans (hbc.mono HBB.out.size)); have HQLc := Lib.hid (HQLb.out.below hbc); have HQBc := Lib.hid (HQB.out.below hbc); have HQC := Lib.hid hqc'; clear hbc hqc' hcc' hmc')
              | (go_at_call 25; (with_reducible refine (KRA.out _ _ _ _ _ HCB.out.1 HCB.out.2 HQBc.out HQC.out).mono ?_); rintro e wd ⟨hbd, qd', nd', cd', rfl, rfl, hcd', hmd', hqd'⟩; have HBD := Lib.hid (HBC.out.trans (hbd.mono HBC.out.size)); have HQLd := Lib.hid (HQLc.out.below hbd); have HQD := Lib.hid hqd'; have HCD : Hid (l.length ≤ cd' ∧ cd' ≤ maxLen) := ⟨hcd', hmd'⟩; clear hbd hqd' hcd' hmd'))
            clear HBA HBB HBC HQL HQLb HQLc HQB HQBc HQC HCB KX KZ KRA KAp
            go_wp2_with (first
              | (go_at_call 12; (with_reducible refine (HK.out _).mono ?_); rintro e we ⟨rfl, hbe⟩; have HBE := Lib.hid (HBD.out.trans (hbe.mono HBD.out.size)); have HQLe := Lib.hid (HQLd.out.below hbe); have HQDe := Lib.hid (HQD.out.below hbe); clear hbe)
              | (go_at_call 15; (with_reducible refine (same_any ql qd' l l.length cl cd' we rfl HCL.out.1 HCL.out.2 HCD.out.1 HCD.out.2 HQLe.out HQDe.out).mono ?_); rintro e wf ⟨rfl, hbf⟩; have HBF := Lib.hid (HBE.out.trans (hbf.mono HBE.out.size)); clear hbf))
            go_ret
            exact ⟨rfl, HWf.out.trans (HBF.out.mono HWf.out.size)⟩
end Go.Proofs.Ytpnmficlebnajaa
