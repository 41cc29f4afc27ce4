/- HistoryOrders: the walk. -/
import Derived.Test.YthimpgnagjgmdaaH25
import Derived.Test.YthimpgnagjgmdaaH26
import Derived.Test.YthimpgnagjgmdaaH12
import Derived.Test.YthimpgnagjgmdaaH13
import Derived.Test.YthimpgnagjgmdaaH14
namespace Go.Proofs.Ythimpgnagjgmdaa
open Go.RowKit Go.Sort

theorem core_get {xs ys : List Ca} (h : ys.map core = xs.map core) (k : Nat) (h1 : k < ys.length) (h2 : k < xs.length) : countB ys[k] = countB xs[k] := by
  have := core_at h k
  rw [List.getD_eq_getElem?_getD, List.getD_eq_getElem?_getD, List.getElem?_eq_getElem h1, List.getElem?_eq_getElem h2] at this
  show countB (core ys[k]) = countB (core xs[k])
  exact congrArg countB this
set_option maxRecDepth 100000 in
set_option maxHeartbeats 16000000 in
theorem HistoryOrders_walkI (q1 : Option Addr) (n1 c1 : Nat) (xs1 : List Ca) (w : World)
    (hn1 : xs1.length = n1) (hs1 : SlAt caC 51 w q1 xs1) (ho1 : ∀ x ∈ xs1, OkIn w x) :
    Calls Try.prog 3 #[.slice q1 n1 c1] w fun e w' => e = .returned (.bool true) ∧ Below w.heap.size w w' := by
  have KU := Lib.hid (cut30_any q1 n1 c1 xs1 w hn1 hs1 ho1)
  clear hn1 hs1 ho1
  go_enter Try.func3, Try.ntmps3
  go_upto_region 2 with (go_at_call 5; (refine KU.out.mono ?_); rintro e W2 ⟨gv, rfl, ys, hy30, hyo, hyw, hbn⟩; have HB2 := Lib.hid hbn; have HYo := Lib.hid hyo; have HYw : Hid (∀ y ∈ ys, OkIn W2 y ∧ y.n ≤ 20) := (fun y hy => ⟨(hyw y hy).inn, (hyw y hy).n20⟩); clear hyo hyw hbn)
  obtain ⟨q, c, rfl, _, _, hs, _⟩ := HYo.out.at caC_len
  have HSy := Lib.hid hs
  clear hs HYo KU
  obtain ⟨ny, hny⟩ : ∃ ny, ny = ys.length := ⟨_, rfl⟩
  rw [← hny]
  have HNy : Hid (ys.length = ny) := hny.symm
  have hny30 : ny ≤ 30 := by omega
  clear hny hy30
  have KO := Lib.hid (ofs30_any q ny c ys W2 HNy.out hny30 HSy.out (fun y hy => (HYw.out y hy).1) (fun y hy => (HYw.out y hy).2))
  go_upto_region 3 with (go_at_call 6; (refine KO.out.mono ?_); rintro e W3 ⟨gv, rfl, zs, hz, hzo, hb⟩; have HC := Lib.hid hz; have HZo := Lib.hid hzo; have HB3 := Lib.hid (HB2.out.trans (hb.mono HB2.out.size)); have HSy3 := Lib.hid (HSy.out.below hb); clear hz hzo hb)
  obtain ⟨q3, c3, rfl, _, _, hs3, _⟩ := HZo.out.at caC_len
  have HSz := Lib.hid hs3
  have HNz : Hid (zs.length = ny) := by have := congrArg List.length HC.out; show _ = _; rw [List.length_map, List.length_map] at this; rw [this]; exact HNy.out
  clear hs3 HZo KO HSy HYw HB2
  rw [HNz.out]
  go_wp2_with fail
  go_loopw [4, 5] (fun vo vi wr => ∃ k : Nat, k ≤ ny ∧ vi = .int .i64 k ∧ Hid (OwnE eI 3 1 wr W3.heap.size vo (pend ys k)) ∧ Hid (Below W3.heap.size W3 wr)) (fun _ vi _ => ny - (intOf vi).toNat)
  case atStart => exact ⟨0, Nat.zero_le _, rfl, (show OwnE eI 3 1 W3 _ _ [] from OwnE.nil _ _), Below.refl _ _⟩
  case round =>
    obtain ⟨k, hk, rfl, HO, HB⟩ := hrel
    by_cases h1 : k < ny
    · have h1i : (k : Int) < ny := by omega
      obtain ⟨b, o, rfl, hbs, hro⟩ := HSy3.out k (by rw [HNy.out]; exact h1)
      obtain ⟨b2, o2, rfl, hbs2, hro2⟩ := HSz.out k (by rw [HNz.out]; exact h1)
      have hcb : countB (zs[k]'(by rw [HNz.out]; exact h1)) = countB (ys[k]'(by rw [HNy.out]; exact h1)) := core_get HC.out k _ _
      have hpe : decide ((ys.getD k ca0).en < 0) = decide ((ys[k]'(by rw [HNy.out]; exact h1)).en < 0) := by rw [List.getD_eq_getElem?_getD, List.getElem?_eq_getElem (by rw [HNy.out]; exact h1)]; rfl
      generalize ys[k]'(by rw [HNy.out]; exact h1) = x at *
      generalize zs[k]'(by rw [HNz.out]; exact h1) = y at *
      have HRx : Hid (wr.rangeAt b (o + k * 51) (caC x)) := range_of_block hro (HB.out.block b hbs)
      have HRy : Hid (wr.rangeAt b2 (o2 + k * 51) (caC y)) := range_of_block hro2 (HB.out.block b2 hbs2)
      have hbl : b < wr.heap.size := Nat.lt_of_lt_of_le hbs HB.out.size
      have hbl2 : b2 < wr.heap.size := Nat.lt_of_lt_of_le hbs2 HB.out.size
      have HEn : Hid (∀ W, Below W3.heap.size W3 W → W.cell? ⟨b, o + k * 51 + 2, none⟩ = some (.int .i64 x.en)) := fun W hb => by rw [cellB hb hbs]; exact hro 2 _ (ca_cell _ 2 _ rfl)
      have HPe : Hid (∀ b, decide (x.en < 0) = b → pend ys (k + 1) = if b = true then pend ys k ++ [(k : Int)] else pend ys k) := fun b hb => pend_succ ys k b (hpe.trans hb)
      have hil : (pend ys k).length ≤ 30 := Nat.le_trans (pend_len ys k) (by omega)
      have KC := Lib.hid (counts_any x)
      have KR := Lib.hid (refCounts_any y)
      rw [hcb] at KR
      clear hro hro2 hcb hpe hbs hbs2
      generalize x.en = en at *
      cases hz : countB x
      all_goals
        rw [hz] at KC KR
        go_upto_region 7 with fail
        refine wp_region_quiet_below (by kernel_rfl) (by kernel_rfl) ?_
        repeat (first
          | go_big_quiet_skip
          | (with_reducible refine wq_ldr rfl 42 (.tmp 18) rfl b (o + k * 51) (caC x) _ Try.underlying42 rfl (by rw [sizCa, caC_len]) rfl HRx.out hbl ?_; simp only [Act.put, List.setIfInBounds_toArray, List.set_cons_zero, List.set_cons_succ])
          | (with_reducible refine wq_ldr rfl 51 (.tmp 23) rfl b2 (o2 + k * 51) (caC y) _ Try.underlying51 rfl (by rw [sizRCa, caC_len]) rfl HRy.out hbl2 ?_; simp only [Act.put, List.setIfInBounds_toArray, List.set_cons_zero, List.set_cons_succ])
          | go_big_quiet_step (first | (with_reducible exact rg_call KC.out _ _) | (with_reducible exact rg_call KR.out _ _)))
        refine wpQuiet_nil ?_
        rintro _ ⟨⟨dq, osq⟩, rfl⟩
        have hbel := below_regrown wr dq osq
        have HB4 := Lib.hid (HB.out.trans (hbel.mono HB.out.size))
        have HO4 := Lib.hid (HO.out.below hbel)
        clear hbel HO HB HRx HRy KC KR hz
        generalize Sort.grow (redrawn wr dq) osq = W4 at *
        have hen := HEn.out W4 HB4.out
        by_cases he : en < 0
        · have HI2 := Lib.hid (HPe.out true (decide_eq_true he))
          clear HPe HEn
          go_wp2_with (at_builtin; refine wl_app1 (k := 1) (enc := eI) 26 3 8 (.int .i64 0) Try.underlying26 info3 rfl (by omega) eI_len (fun x u hu => by simp [eI] at hu; subst hu; rfl) rfl (.tmp 33) (.tmp 35) rfl W3.heap.size u4 (pend ys k) rfl (HO4.out.below (below_alloc1 _ _)) _ _ (k : Int) rfl (range_whole (vs := eI (k : Int)) (heap_alloc_new _ _)) (by omega) (by unfold maxLen; omega) (HB4.out.alloc HB4.out.size _).size (fun v' w' hv hg => ?_); have HV := Lib.hid hv; have HGr := Lib.hid (grown_below hg (fun b hb => (HO4.out.lt b hb).1) (HB4.out.alloc HB4.out.size _).size); clear hv hg)
          go_roundw
          case rel => exact ⟨k + 1, by omega, by go_num, by show OwnE _ _ _ _ _ _ _; rw [HI2.out]; simpa using HV.out, (HB4.out.alloc HB4.out.size _).trans HGr.out⟩
          case measure => simp [intOf]; omega
        · have HI2 := Lib.hid (HPe.out false (decide_eq_false he))
          clear HPe HEn
          go_wp2_with fail
          go_roundw
          case rel => exact ⟨k + 1, by omega, by go_num, by show OwnE _ _ _ _ _ _ _; rw [HI2.out]; simpa using HO4.out, HB4⟩
          case measure => simp [intOf]; omega
    · have h1i : ¬ (k : Int) < ny := by omega
      obtain rfl : k = ny := by omega
      obtain ⟨qo, co, rfl, _, _, hsl, _⟩ := HO.out.at eI_len
      have HSl := Lib.hid hsl
      clear hsl
      go_upto_region 11 with fail
      have KK := Lib.hid (known30_any wr)
      go_wp2_with (first
        | (go_at_call 9; (refine KK.out.mono ?_); rintro e W4 ⟨rfl, hb⟩; have HB4 := Lib.hid (HB.out.trans (hb.mono HB.out.size)); have HSl4 := Lib.hid (HSl.out.below hb); clear hb)
        | (go_at_call 11; (refine (order_any q k c ys _ HNy.out hny30 (HSy3.out.below HB4.out)).mono ?_); rintro e W5 ⟨_, rfl, qa, ca, la, rfl, hoa, hsa, hb⟩; have HOa := Lib.hid hoa; have HSa := Lib.hid hsa; have HB5 := Lib.hid (HB4.out.trans (hb.mono HB4.out.size)); have HSl5 := Lib.hid (HSl4.out.below hb); clear hb hsa hoa)
        | (go_at_call 12; (refine (refOrder_any q3 k c3 zs _ HNz.out hny30 (HSz.out.below HB5.out)).mono ?_); rintro e W6 ⟨_, rfl, qb, cb, lb, rfl, hob, hsb, hb⟩; have HSb := Lib.hid hsb; have HB6 := Lib.hid (HB5.out.trans (hb.mono HB5.out.size)); have HSl6 := Lib.hid (HSl5.out.below hb); have HSa6 := Lib.hid (HSa.out.below hb); (have hab : lb = la := (by
            have e1 : IsOrd zs lb := (by unfold IsOrd; rw [HNz.out]; exact hob)
            have e2 : IsOrd ys la := (by unfold IsOrd; rw [HNy.out]; exact HOa.out)
            exact (core_ord HC.out e1).uniq e2)); subst hab; (have hla30 := OrdK.len HOa.out); (generalize hla : List.length lb = m at *); have HLa := Lib.hid hla; have HLa30 : Hid (m ≤ 30) := (by show _ ≤ _; omega); clear hb hsb hob hla hla30)
        | (go_at_call 13; (refine (pending_any q k c ys _ HNy.out hny30 (HSy3.out.below HB7.out)).mono ?_); rintro e W8 ⟨_, rfl, qp, cp, rfl, hsp, hb⟩; have HSp := Lib.hid hsp; have HB8 := Lib.hid (HB7.out.trans (hb.mono HB7.out.size)); have HSl8 := Lib.hid (HSl7.out.below hb); (have hlp30 := pend_len ys k); (generalize hlp : (pend ys k).length = mp at *); have HLp := Lib.hid hlp; have HLp30 : Hid (mp ≤ 30) := (by show _ ≤ _; omega); clear hb hsp hlp hlp30)
        | (go_at_call 10; (with_reducible refine (same30_any qa m ca qb cb lb _ HLa.out HLa30.out HSa6.out HSb.out).mono ?_); rintro e W7 ⟨rfl, hb⟩; have HB7 := Lib.hid (HB6.out.trans (hb.mono HB6.out.size)); have HSl7 := Lib.hid (HSl6.out.below hb); clear hb)
        | (go_at_call 10; (with_reducible refine (same30_any qp mp cp qo co (pend ys k) _ HLp.out HLp30.out HSp.out HSl8.out).mono ?_); rintro e W9 ⟨rfl, hb⟩; have HB9 := Lib.hid (HB8.out.trans (hb.mono HB8.out.size)); clear hb))
      go_ret
      exact ⟨ret_bool (by simp), HB3.out.trans (HB9.out.mono HB3.out.size)⟩
end Go.Proofs.Ythimpgnagjgmdaa
