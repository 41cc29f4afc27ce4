/- pdqsortOrdered at words. -/
import Derived.Test.YtmdhlpnieimdaaaZB
import Derived.Deep.CutBlock
import Derived.Deep.DeepCutAuto
namespace Go.Proofs.Ytmdhlpnieimdaaa
open Go.RowKit
set_option maxRecDepth 100000 in
set_option maxHeartbeats 16000000 in
theorem pdq_walk (g n cap k : Nat) (hn2 : n ≤ 900)
    (IH : Hid (∀ (a b l : Nat) (d : Array Nat) (w : World), b - a < k → SM w g d → d.size = n → a ≤ b → b ≤ n → l ≤ 100 → Calls Try.prog 26 #[.slice (some ⟨g, 0, none⟩) n cap, .int .i64 (a : Int), .int .i64 (b : Int), .int .i64 (l : Int)] w (SoP g (Sort.pdq ltN d a b l true true) w)))
    (a0 b0 l0 : Nat) (d0 : Array Nat) (w : World) (hk : b0 - a0 ≤ k) (h : SM w g d0) (hn : d0.size = n) (hab0 : a0 ≤ b0) (hb0 : b0 ≤ n) (hl0 : l0 ≤ 100) :
    Calls Try.prog 26 #[.slice (some ⟨g, 0, none⟩) n cap, .int .i64 (a0 : Int), .int .i64 (b0 : Int), .int .i64 (l0 : Int)] w (SoP g (Sort.pdq ltN d0 a0 b0 l0 true true) w) := by
  obtain ⟨R, hR⟩ : ∃ R, Sort.pdq ltN d0 a0 b0 l0 true true = R := ⟨_, rfl⟩
  rw [hR]
  have HR := Lib.hid hR
  have HN := Lib.hid hn
  have H := Lib.hid h
  clear hR hn h
  go_enter Try.func26, Try.ntmps26
  go_wp2_with fail
  go_loopw [1, 2, 3, 8, 9] (fun aa bb ll xx yy wr => ∃ (a b l : Nat) (d : Array Nat) (wb wp : Bool), aa = .int .i64 (a : Int) ∧ bb = .int .i64 (b : Int) ∧ ll = .int .i64 (l : Int) ∧ xx = .bool wb ∧ yy = .bool wp ∧ a ≤ b ∧ b ≤ n ∧ l ≤ 100 ∧ b - a ≤ k ∧ Hid (d.size = n) ∧ Hid (Turn [g] w wr ∧ SM wr g d) ∧ Hid (Sort.pdq ltN d a b l wb wp = R)) (fun aa bb _ _ _ _ => (intOf bb).toNat - (intOf aa).toNat)
  case atStart => exact ⟨a0, b0, l0, d0, true, true, rfl, rfl, rfl, rfl, rfl, hab0, hb0, hl0, hk, HN.out, ⟨Turn.refl _ _, H.out⟩, HR.out⟩
  case round =>
    obtain ⟨a, b, l, d, wb, wp, rfl, rfl, rfl, rfl, rfl, hab, hbn, hl100, hbk, HNd, HM, HE⟩ := hrel
    clear HN H HR
    obtain ⟨len, hlen⟩ : ∃ k, b - a = k := ⟨_, rfl⟩
    have hw1 : IntKind.i64.wrap ((b : Int) - (a : Int)) = (len : Int) := by rw [IntWalk.i64_in _ (by omega)]; omega
    by_cases hs : b - a ≤ 12
    · have hsI : (len : Int) ≤ 12 := by omega
      have K := Lib.hid (ins_any g n a b cap d wr HM.out.2 HNd.out hab hbn (by omega))
      have HE2 : Hid (Sort.insertionSort ltN d a b = R) := by show _ = _; rw [← HE.out, pdq_small hs]
      rw [HE2.out] at K
      clear HE HE2
      go_wp2_with (go_at_call 28; (refine K.out.mono ?_); rintro e w1 ⟨rfl, ht1, hs1⟩)
      go_end0
      exact ⟨rfl, HM.out.1.trans ht1, hs1⟩
    have hsI : ¬ (len : Int) ≤ 12 := by omega
    by_cases hz : l = 0
    · subst hz
      have K := Lib.hid (heap_any g n a b cap d wr HM.out.2 HNd.out (by omega) hbn (by omega))
      have HE2 : Hid (Sort.heapSort ltN d a b = R) := by show _ = _; rw [← HE.out, pdq_nil hs]
      rw [HE2.out] at K
      clear HE HE2
      go_wp2_with (go_at_call 29; (refine K.out.mono ?_); rintro e w1 ⟨rfl, ht1, hs1⟩)
      go_end0
      exact ⟨rfl, HM.out.1.trans ht1, hs1⟩
    have hzI : ((l : Int) == 0) = false := by simp; omega
    obtain ⟨d1, hd1⟩ : ∃ z, (if wb then d else Sort.breakPatterns d a b) = z := ⟨_, rfl⟩
    obtain ⟨l2, hl2⟩ : ∃ z, (if wb then l else l - 1) = z := ⟨_, rfl⟩
    obtain ⟨c, hc⟩ : ∃ z, Sort.choosePivot ltN d1 a b = z := ⟨_, rfl⟩
    obtain ⟨d2, hd2⟩ : ∃ z, (if c.2 = .decreasing then Sort.reverseRange d1 a b else d1) = z := ⟨_, rfl⟩
    obtain ⟨pv, hpv⟩ : ∃ z, (if c.2 = .decreasing then (b - 1) - (c.1 - a) else c.1) = z := ⟨_, rfl⟩
    obtain ⟨pi, hpi⟩ : ∃ z, (if (wb = true ∧ wp = true) ∧ c.2 ≠ .unknown then Sort.partialInsertionSort ltN d2 a b else (d2, false)) = z := ⟨_, rfl⟩
    have HES : Hid ((if pi.2 then pi.1 else pdqTail a b l2 pv wb wp pi.1) = R) := by show _ = _; rw [← HE.out]; exact (pdq_step hs hz (by rw [HNd.out]; exact hbn) hd1 hl2 hc hd2 hpv hpi).symm
    have HN1 : Hid (d1.size = n) := by show _ = _; rw [← HNd.out, ← hd1]; split; rfl; exact break_size d hab (by rw [HNd.out]; exact hbn)
    have hcr : a ≤ c.1 ∧ c.1 < b := by rw [← hc]; exact pivot_rng d1 (by omega)
    have HN2 : Hid (d2.size = n) := by show _ = _; rw [← HN1.out, ← hd2]; split; exact rev_size d1 hab (by rw [HN1.out]; exact hbn); rfl
    have hpr : a ≤ pv ∧ pv < b := by rw [← hpv]; split <;> omega
    have hl22 : l2 ≤ 100 := by rw [← hl2]; split <;> omega
    have HD1 := Lib.hid hd1
    have HL2 := Lib.hid hl2
    have HC := Lib.hid hc
    have HD2 := Lib.hid hd2
    have HPV := Lib.hid hpv
    have HPI := Lib.hid hpi
    clear hd1 hl2 hc hd2 hpv hpi HE
    go_upto_if 35 with fail
    go_cut [3] (fun s wx => s = .int .i64 (l2 : Int) ∧ Hid (Turn [g] w wx ∧ SM wx g d1))
    case first => as_aux_lemma =>
      cases wb with
      | true =>
        have e1 : d = d1 := by rw [← HD1.out]; rfl
        have e2 : l = l2 := by rw [← HL2.out]; rfl
        go_wp2_with fail
        go_meet
        case rel => exact ⟨by first | rfl | rw [e2], by rw [← e1]; exact HM.out⟩
      | false =>
        have e1 : Sort.breakPatterns d a b = d1 := by rw [← HD1.out]; rfl
        have e2 : l - 1 = l2 := by rw [← HL2.out]; rfl
        have hsubl : IntKind.i64.wrap ((l : Int) - 1) = (l2 : Int) := by rw [IntWalk.i64_in _ (by omega)]; omega
        have K := Lib.hid (break_any g n a b cap d wr HM.out.2 HNd.out (by omega) hbn hn2)
        rw [e1] at K
        clear e1 HD1 HL2
        go_wp2_with (go_at_call 30; (refine K.out.mono ?_); rintro e w1 ⟨rfl, ht1, hs1⟩)
        go_meet
        case rel => exact ⟨by first | rfl | exact congrArg (Value.int .i64) hsubl, HM.out.1.trans ht1, hs1⟩
    case rest =>
    obtain ⟨rfl, HM1⟩ := hcut
    generalize wc = W1 at *
    clear HM HD1 HL2 HNd
    have KP := Lib.hid (pivot_any g n a b cap d1 W1 HM1.out.2 HN1.out (by omega) hbn hn2)
    rw [HC.out] at KP
    clear HC
    obtain ⟨c1, c2⟩ := c
    have hc12 : a ≤ c1 ∧ c1 < b := hcr
    obtain ⟨hv, hhv⟩ : ∃ z, hintN c2 = z := ⟨_, rfl⟩
    obtain ⟨h2, hh2⟩ : ∃ z, (if c2 = .decreasing then 1 else hintN c2) = z := ⟨_, rfl⟩
    simp only [hhv] at KP
    have hh3 : h2 ≤ 1 ∧ (h2 = 1 ↔ c2 ≠ .unknown) := by rw [← hh2]; cases c2 <;> simp [hintN]
    go_upto_if 50 with (go_at_call 31; (refine KP.out.mono ?_); rintro e w1 ⟨rfl, ht1⟩; have HM1b : Hid (Turn [g] w w1 ∧ SM w1 g d1) := ⟨HM1.out.1.trans (Turn.of_below ht1), HM1.out.2.block (ht1.block g (HM1.out.2.lt (by rw [HN1.out]; omega)))⟩; clear ht1)
    clear HM1 KP
    go_cut [11, 12] (fun p s wx => p = .int .i64 (pv : Int) ∧ s = .int .i64 (h2 : Int) ∧ Hid (Turn [g] w wx ∧ SM wx g d2))
    case first => as_aux_lemma =>
      by_cases hdec : c2 = .decreasing
      · subst hdec
        have hv2 : hv = 2 := by rw [← hhv]; rfl
        subst hv2
        have h21 : h2 = 1 := by rw [← hh2]; rfl
        have e2 : Sort.reverseRange d1 a b = d2 := by rw [← HD2.out]; rfl
        have e3 : b - 1 - (c1 - a) = pv := by rw [← HPV.out]; rfl
        have K := Lib.hid (reverse_any g n a b cap d1 w1 HM1b.out.2 HN1.out (by omega) hbn (by omega))
        rw [e2] at K
        obtain ⟨bm, hbm⟩ : ∃ z, b - 1 = z := ⟨_, rfl⟩
        obtain ⟨ca, hca⟩ : ∃ z, c1 - a = z := ⟨_, rfl⟩
        have hq1 : IntKind.i64.wrap ((b : Int) - 1) = (bm : Int) := by rw [IntWalk.i64_in _ (by omega)]; omega
        have hq2 : IntKind.i64.wrap ((c1 : Int) - (a : Int)) = (ca : Int) := by rw [IntWalk.i64_in _ (by omega)]; omega
        have hq3 : IntKind.i64.wrap ((bm : Int) - (ca : Int)) = (pv : Int) := by rw [IntWalk.i64_in _ (by omega)]; omega
        clear e2 HD2 HPV hbm hca hhv hh2 hh3
        go_wp2_with (go_at_call 32; (refine K.out.mono ?_); rintro e w2 ⟨rfl, ht1, hs1⟩)
        go_meet
        case rel => exact ⟨by first | rfl | simp [hq1, hq2, hq3], by rw [h21]; rfl, HM1b.out.1.trans ht1, hs1⟩
      · have hv2 : ((hv : Int) == 2) = false := by rw [← hhv]; clear hhv hh2 hh3 HD2 HPV HPI hcr hc12; revert hdec; cases c2 <;> intro hdec <;> first | rfl | exact absurd rfl hdec
        have e1 : h2 = hv := by rw [← hh2, ← hhv, if_neg hdec]
        have e2 : d1 = d2 := by rw [← HD2.out, if_neg hdec]
        have e3 : c1 = pv := by rw [← HPV.out, if_neg hdec]
        go_wp2_with fail
        go_meet
        case rel => exact ⟨by rw [e3], by rw [e1], by rw [← e2]; exact HM1b.out⟩
    case rest =>
    obtain ⟨rfl, rfl, HM2⟩ := hcut
    generalize wc = W2 at *
    clear HM1b HD2 HPV hhv hh2 HN1
    go_upto_region 15 with fail
    obtain ⟨Pb, hPb⟩ : ∃ z, decide ((wb = true ∧ wp = true) ∧ h2 = 1) = z := ⟨_, rfl⟩
    have HPB := Lib.hid hPb
    clear hPb
    go_cut [68] (fun s wx => s = .bool Pb ∧ wx = W2)
    case first => as_aux_lemma =>
      by_cases h1 : h2 = 1
      · have h1I : ((h2 : Int) == 1) = true := by simp [h1]
        have HDD : Hid (Pb = (wb && wp)) := by show _ = _; rw [← HPB.out]; cases wb <;> cases wp <;> simp [h1]
        clear h1 hh3 HPB
        cases wb <;> cases wp
        all_goals (go_wp2_with fail; go_meet; case rel => exact ⟨congrArg Value.bool HDD.out.symm, rfl⟩)
      · have h1I : ((h2 : Int) == 1) = false := by simp; omega
        have HDD : Hid (Pb = false) := by show _ = _; rw [← HPB.out]; simp [h1]
        clear h1 hh3 HPB
        cases wb <;> cases wp
        all_goals (go_wp2_with fail; go_meet; case rel => exact ⟨congrArg Value.bool HDD.out.symm, rfl⟩)
    case rest =>
    obtain ⟨rfl, rfl⟩ := hcut
    generalize wc = W2 at *
    by_cases hP : (wb = true ∧ wp = true) ∧ h2 = 1
    · have hPd : Pb = true := by rw [← HPB.out]; exact decide_eq_true hP
      subst hPd
      have hpi : Sort.partialInsertionSort ltN d2 a b = pi := by rw [← HPI.out, if_pos ⟨hP.1, hh3.2.1 hP.2⟩]
      have K := Lib.hid (pins_any g n a b cap d2 W2 HM2.out.2 HN2.out (by omega) hbn hn2)
      have hsz := pins_size d2 a b
      rw [hpi] at K hsz
      obtain ⟨d3, pb⟩ := pi
      have HN3 : Hid (d3.size = n) := by show _ = _; rw [← HN2.out]; exact hsz
      clear HPI HPB hP hpi hsz HN2 hh3
      cases pb with
      | true =>
        have HD : Hid (d3 = R) := HES.out
        go_wp2_with (go_at_call 33; (refine K.out.mono ?_); rintro e w1 ⟨rfl, ht1, hs1⟩)
        go_end0
        exact ⟨rfl, HM2.out.1.trans ht1, by rw [← HD.out]; exact hs1⟩
      | false =>
        have HT : Hid (pdqTail a b l2 pv wb wp d3 = R) := HES.out
        clear HES
        go_upto_region 17 with (go_at_call 33; (refine K.out.mono ?_); rintro e w1 ⟨rfl, ht1, hs1⟩; have HM3 : Hid (Turn [g] w w1 ∧ SM w1 g d3) := ⟨HM2.out.1.trans ht1, hs1⟩; clear ht1 hs1)
        clear HM2 K
        generalize w1 = W3 at *
        obtain ⟨Gb, hGb⟩ : ∃ z, decide (0 < a ∧ ltN d3[a - 1]! d3[pv]! = false) = z := ⟨_, rfl⟩
        have HGB := Lib.hid hGb
        clear hGb
        go_cut [87] (fun s wx => s = .bool Gb ∧ Hid (Turn [g] w wx ∧ SM wx g d3))
        case first => as_aux_lemma =>
          by_cases ha0 : 0 < a
          · have ha0I : (0 : Int) < (a : Int) := by omega
            obtain ⟨a1, ha1⟩ : ∃ k, a = k + 1 := ⟨a - 1, by omega⟩
            have hsub1 : IntKind.i64.wrap ((a : Int) - 1) = (a1 : Int) := by rw [IntWalk.i64_in _ (by omega)]; omega
            have hpn : pv < n := by omega
            have hpI : (pv : Int) < (n : Int) := by omega
            have h1n : a1 < n := by omega
            have h1I : (a1 : Int) < (n : Int) := by omega
            have hcv := HM3.out.2.c a1 (by rw [HN3.out]; omega)
            have hcp := HM3.out.2.c pv (by rw [HN3.out]; omega)
            obtain ⟨x, hxv⟩ : ∃ x, d3[a1]! = x := ⟨_, rfl⟩
            obtain ⟨y, hyp⟩ : ∃ y, d3[pv]! = y := ⟨_, rfl⟩
            have hGx : Gb = (!decide (x < y)) := by
              rw [← HGB.out, show a - 1 = a1 by omega, hxv, hyp]
              by_cases hxy : x < y <;> simp [ltN, ha0, hxy]
            rw [hxv] at hcv
            rw [hyp] at hcp
            have HA1 := Lib.hid ha1
            clear hxv hyp ha1
            have hfr := HM3.out.2.f
            have hl := HM3.out.2.lt (by rw [HN3.out]; omega)
            by_cases hxy : x < y
            · have hd : decide (x < y) = true := by simpa using hxy
              rw [hd] at hGx
              go_wp2_with fail
              go_quiet ((go_at_call 34; refine Calls.quiet_of_same ((less_any _ _ _).mono fun _ _ h => ⟨h.1, h.2.symm⟩)))
              have HMw : Hid (Turn [g] w (W3.drewN nq) ∧ SM (W3.drewN nq) g d3) := ⟨turn_drewN HM3.out.1 _, HM3.out.2.block rfl⟩
              clear hcv hcp hfr hl HM3
              generalize W3.drewN nq = Wv at *
              go_wp2_with fail
              go_meet
              case rel => exact ⟨by rw [hGx]; rfl, HMw.out⟩
            · have hd : decide (x < y) = false := by simpa using hxy
              rw [hd] at hGx
              go_wp2_with fail
              go_quiet ((go_at_call 34; refine Calls.quiet_of_same ((less_any _ _ _).mono fun _ _ h => ⟨h.1, h.2.symm⟩)))
              have HMw : Hid (Turn [g] w (W3.drewN nq) ∧ SM (W3.drewN nq) g d3) := ⟨turn_drewN HM3.out.1 _, HM3.out.2.block rfl⟩
              clear hcv hcp hfr hl HM3
              generalize W3.drewN nq = Wv at *
              go_wp2_with fail
              go_meet
              case rel => exact ⟨by rw [hGx]; rfl, HMw.out⟩
          · have ha0I : ¬ (0 : Int) < (a : Int) := by omega
            have hGx : Gb = false := by rw [← HGB.out]; simp [ha0]
            go_wp2_with fail
            go_quiet ((go_at_call 34; refine Calls.quiet_of_same ((less_any _ _ _).mono fun _ _ h => ⟨h.1, h.2.symm⟩)))
            have HMw : Hid (Turn [g] w (W3.drewN nq) ∧ SM (W3.drewN nq) g d3) := ⟨turn_drewN HM3.out.1 _, HM3.out.2.block rfl⟩
            clear  HM3
            generalize W3.drewN nq = Wv at *
            go_wp2_with fail
            go_meet
            case rel => exact ⟨by rw [hGx], HMw.out⟩
        case rest =>
        obtain ⟨rfl, HM4⟩ := hcut
        generalize wc = W4 at *
        clear HM3
        by_cases hG : 0 < a ∧ ltN d3[a - 1]! d3[pv]! = false
        · have hgb : Gb = true := by rw [← HGB.out, decide_eq_true hG]
          subst hgb
          have KE := Lib.hid (partEq_any g n a b pv cap d3 W4 HM4.out.2 HN3.out hpr.1 hpr.2 hbn hn2)
          have hrg := partEq_rng d3 (a := a) (b := b) (pv := pv) (by omega)
          have HT2 : Hid (Sort.pdq ltN (Sort.partitionEqual ltN d3 a b pv).2 (Sort.partitionEqual ltN d3 a b pv).1 b l2 wb wp = R) := by show _ = _; rw [← HT.out, pdqTail, if_pos hG]
          generalize Sort.partitionEqual ltN d3 a b pv = r at *
          obtain ⟨m, d4⟩ := r
          have HN4 : Hid (d4.size = n) := by show _ = _; rw [← HN3.out]; exact hrg.2.2
          have hrm : a < m ∧ m ≤ b := ⟨hrg.1, hrg.2.1⟩
          clear hG HT hrg
          go_wp2_with (go_at_call 35; (refine KE.out.mono ?_); rintro e w5 ⟨rfl, ht5, hs5⟩; have HM5 : Hid (Turn [g] w w5 ∧ SM w5 g d4) := ⟨HM4.out.1.trans ht5, hs5⟩; clear ht5 hs5)
          go_roundw
          case rel => exact ⟨m, b, l2, d4, wb, wp, rfl, rfl, rfl, rfl, rfl, by omega, hbn, by omega, by omega, HN4.out, HM5.out, HT2.out⟩
          case measure => simp [intOf]; omega
        · have hgb : Gb = false := by rw [← HGB.out, decide_eq_false hG]
          subst hgb
          have KE := Lib.hid (part_any g n a b pv cap d3 W4 HM4.out.2 HN3.out hpr.1 hpr.2 hbn hn2)
          have hrg := part_rng d3 hpr.1 hpr.2 (by rw [HN3.out]; exact hbn)
          have HT1 : Hid ((if (Sort.partition ltN d3 a b pv).1 - a < b - (Sort.partition ltN d3 a b pv).1 then Sort.pdq ltN (Sort.pdq ltN (Sort.partition ltN d3 a b pv).2.2 a (Sort.partition ltN d3 a b pv).1 l2 true true) ((Sort.partition ltN d3 a b pv).1 + 1) b l2 (decide ((Sort.partition ltN d3 a b pv).1 - a ≥ (b - a) / 8)) (Sort.partition ltN d3 a b pv).2.1 else Sort.pdq ltN (Sort.pdq ltN (Sort.partition ltN d3 a b pv).2.2 ((Sort.partition ltN d3 a b pv).1 + 1) b l2 true true) a (Sort.partition ltN d3 a b pv).1 l2 (decide (b - (Sort.partition ltN d3 a b pv).1 ≥ (b - a) / 8)) (Sort.partition ltN d3 a b pv).2.1) = R) := by show _ = _; rw [← HT.out, pdqTail, if_neg hG]
          generalize Sort.partition ltN d3 a b pv = r at *
          obtain ⟨m, ap, d4⟩ := r
          have HN4 : Hid (d4.size = n) := by show _ = _; rw [← HN3.out]; exact hrg.2.2
          have hrm : a ≤ m ∧ m < b := ⟨hrg.1, hrg.2.1⟩
          obtain ⟨lf, hlf⟩ : ∃ k, m - a = k := ⟨_, rfl⟩
          obtain ⟨rt, hrt⟩ : ∃ k, b - m = k := ⟨_, rfl⟩
          obtain ⟨th, hth⟩ : ∃ k, (b - a) / 8 = k := ⟨_, rfl⟩
          obtain ⟨m1, hm1⟩ : ∃ k, m + 1 = k := ⟨_, rfl⟩
          have hq1 : IntKind.i64.wrap ((m : Int) - (a : Int)) = (lf : Int) := by rw [IntWalk.i64_in _ (by omega)]; omega
          have hq2 : IntKind.i64.wrap ((b : Int) - (m : Int)) = (rt : Int) := by rw [IntWalk.i64_in _ (by omega)]; omega
          have hq3 : (len : Int).tdiv 8 = (th : Int) := by rw [← hth, hlen]; rfl
          have hq4 : (len : Int) / 8 = (th : Int) := by rw [← hth, hlen]; rfl
          have hq6 : IntKind.i64.wrap (th : Int) = (th : Int) := by rw [IntWalk.i64_in _ (by omega)]
          have hq5 : IntKind.i64.wrap ((m : Int) + 1) = (m1 : Int) := by rw [IntWalk.i64_in _ (by omega)]; omega
          have HT2 : Hid ((if lf < rt then Sort.pdq ltN (Sort.pdq ltN d4 a m l2 true true) m1 b l2 (decide (th ≤ lf)) ap else Sort.pdq ltN (Sort.pdq ltN d4 m1 b l2 true true) a m l2 (decide (th ≤ rt)) ap) = R) := by
            show _ = _
            have h := HT1.out
            simp only [hlf, hrt, hth, hm1, ge_iff_le] at h
            exact h
          have hmm : lf = m - a ∧ rt = b - m ∧ m1 = m + 1 := by omega
          clear hG HT hrg HT1 hlf hrt hm1 hth
          go_upto_region 24 with (go_at_call 36; (refine KE.out.mono ?_); rintro e w5 ⟨rfl, ht5, hs5⟩; have HM5 : Hid (Turn [g] w w5 ∧ SM w5 g d4) := ⟨HM4.out.1.trans ht5, hs5⟩; clear ht5 hs5)
          clear HM4 KE
          by_cases hlr : lf < rt
          · have hlrI : (lf : Int) < (rt : Int) := by omega
            have HT3 : Hid (Sort.pdq ltN (Sort.pdq ltN d4 a m l2 true true) m1 b l2 (decide (th ≤ lf)) ap = R) := by show _ = _; rw [← HT2.out, if_pos hlr]
            have KI := Lib.hid (IH.out a m l2 d4 w5 (by omega) HM5.out.2 HN4.out (by omega) (by omega) (by omega))
            have HN6 : Hid ((Sort.pdq ltN d4 a m l2 true true).size = n) := by show _ = _; rw [← HN4.out]; exact pdq_size d4 (by omega) (by rw [HN4.out]; omega) _ (Nat.le_refl _)
            clear HT2 HN4
            generalize Sort.pdq ltN d4 a m l2 true true = d6 at *
            by_cases hbal : th ≤ lf
            · have hbI : (th : Int) ≤ (lf : Int) := by omega
              rw [decide_eq_true hbal] at HT3
              go_wp2_with (go_at_call 26; (refine KI.out.mono ?_); rintro e w6 ⟨rfl, ht5, hs5⟩; have HM6 : Hid (Turn [g] w w6 ∧ SM w6 g d6) := ⟨HM5.out.1.trans ht5, hs5⟩; clear ht5 hs5)
              go_roundw
              case rel => exact ⟨m1, b, l2, d6, true, ap, by first | rfl | exact congrArg (Value.int .i64) (by omega), by first | rfl | exact congrArg (Value.int .i64) (by omega), rfl, by first | rfl | (simp; omega), rfl, by omega, by omega, by omega, by omega, HN6.out, HM6.out, HT3.out⟩
              case measure => simp [intOf]; omega
            · have hbI : ¬ (th : Int) ≤ (lf : Int) := by omega
              rw [decide_eq_false hbal] at HT3
              go_wp2_with (go_at_call 26; (refine KI.out.mono ?_); rintro e w6 ⟨rfl, ht5, hs5⟩; have HM6 : Hid (Turn [g] w w6 ∧ SM w6 g d6) := ⟨HM5.out.1.trans ht5, hs5⟩; clear ht5 hs5)
              go_roundw
              case rel => exact ⟨m1, b, l2, d6, false, ap, by first | rfl | exact congrArg (Value.int .i64) (by omega), by first | rfl | exact congrArg (Value.int .i64) (by omega), rfl, by first | rfl | (simp; omega), rfl, by omega, by omega, by omega, by omega, HN6.out, HM6.out, HT3.out⟩
              case measure => simp [intOf]; omega
          · have hlrI : ¬ (lf : Int) < (rt : Int) := by omega
            have HT3 : Hid (Sort.pdq ltN (Sort.pdq ltN d4 m1 b l2 true true) a m l2 (decide (th ≤ rt)) ap = R) := by show _ = _; rw [← HT2.out, if_neg hlr]
            have KI := Lib.hid (IH.out m1 b l2 d4 w5 (by omega) HM5.out.2 HN4.out (by omega) (by omega) (by omega))
            have hm1I : (m1 : Int) = (m : Int) + 1 := by omega
            rw [hm1I] at KI
            clear hm1I
            have HN6 : Hid ((Sort.pdq ltN d4 m1 b l2 true true).size = n) := by show _ = _; rw [← HN4.out]; exact pdq_size d4 (by omega) (by rw [HN4.out]; omega) _ (Nat.le_refl _)
            clear HT2 HN4
            generalize Sort.pdq ltN d4 m1 b l2 true true = d6 at *
            by_cases hbal : th ≤ rt
            · have hbI : (th : Int) ≤ (rt : Int) := by omega
              rw [decide_eq_true hbal] at HT3
              go_wp2_with (go_at_call 26; (refine KI.out.mono ?_); rintro e w6 ⟨rfl, ht5, hs5⟩; have HM6 : Hid (Turn [g] w w6 ∧ SM w6 g d6) := ⟨HM5.out.1.trans ht5, hs5⟩; clear ht5 hs5)
              go_roundw
              case rel => exact ⟨a, m, l2, d6, true, ap, by first | rfl | exact congrArg (Value.int .i64) (by omega), by first | rfl | exact congrArg (Value.int .i64) (by omega), rfl, by first | rfl | (simp; omega), rfl, by omega, by omega, by omega, by omega, HN6.out, HM6.out, HT3.out⟩
              case measure => simp [intOf]; omega
            · have hbI : ¬ (th : Int) ≤ (rt : Int) := by omega
              rw [decide_eq_false hbal] at HT3
              go_wp2_with (go_at_call 26; (refine KI.out.mono ?_); rintro e w6 ⟨rfl, ht5, hs5⟩; have HM6 : Hid (Turn [g] w w6 ∧ SM w6 g d6) := ⟨HM5.out.1.trans ht5, hs5⟩; clear ht5 hs5)
              go_roundw
              case rel => exact ⟨a, m, l2, d6, false, ap, by first | rfl | exact congrArg (Value.int .i64) (by omega), by first | rfl | exact congrArg (Value.int .i64) (by omega), rfl, by first | rfl | (simp; omega), rfl, by omega, by omega, by omega, by omega, HN6.out, HM6.out, HT3.out⟩
              case measure => simp [intOf]; omega
    · have hPd : Pb = false := by rw [← HPB.out]; exact decide_eq_false hP
      subst hPd
      have hpi : (d2, false) = pi := by rw [← HPI.out, if_neg (fun e => hP ⟨e.1, hh3.2.2 e.2⟩)]
      have HT : Hid (pdqTail a b l2 pv wb wp d2 = R) := by have h := HES.out; rw [← hpi] at h; exact h
      clear HPI HPB hP hpi hh3 HES
      generalize d2 = d3 at *
      generalize W2 = W3 at *
      have HM3 := HM2
      have HN3 := HN2
      clear HM2 HN2
      go_upto_region 17 with fail
      obtain ⟨Gb, hGb⟩ : ∃ z, decide (0 < a ∧ ltN d3[a - 1]! d3[pv]! = false) = z := ⟨_, rfl⟩
      have HGB := Lib.hid hGb
      clear hGb
      go_cut [87] (fun s wx => s = .bool Gb ∧ Hid (Turn [g] w wx ∧ SM wx g d3))
      case first => as_aux_lemma =>
        by_cases ha0 : 0 < a
        · have ha0I : (0 : Int) < (a : Int) := by omega
          obtain ⟨a1, ha1⟩ : ∃ k, a = k + 1 := ⟨a - 1, by omega⟩
          have hsub1 : IntKind.i64.wrap ((a : Int) - 1) = (a1 : Int) := by rw [IntWalk.i64_in _ (by omega)]; omega
          have hpn : pv < n := by omega
          have hpI : (pv : Int) < (n : Int) := by omega
          have h1n : a1 < n := by omega
          have h1I : (a1 : Int) < (n : Int) := by omega
          have hcv := HM3.out.2.c a1 (by rw [HN3.out]; omega)
          have hcp := HM3.out.2.c pv (by rw [HN3.out]; omega)
          obtain ⟨x, hxv⟩ : ∃ x, d3[a1]! = x := ⟨_, rfl⟩
          obtain ⟨y, hyp⟩ : ∃ y, d3[pv]! = y := ⟨_, rfl⟩
          have hGx : Gb = (!decide (x < y)) := by
            rw [← HGB.out, show a - 1 = a1 by omega, hxv, hyp]
            by_cases hxy : x < y <;> simp [ltN, ha0, hxy]
          rw [hxv] at hcv
          rw [hyp] at hcp
          have HA1 := Lib.hid ha1
          clear hxv hyp ha1
          have hfr := HM3.out.2.f
          have hl := HM3.out.2.lt (by rw [HN3.out]; omega)
          by_cases hxy : x < y
          · have hd : decide (x < y) = true := by simpa using hxy
            rw [hd] at hGx
            go_wp2_with fail
            go_quiet ((go_at_call 34; refine Calls.quiet_of_same ((less_any _ _ _).mono fun _ _ h => ⟨h.1, h.2.symm⟩)))
            have HMw : Hid (Turn [g] w (W3.drewN nq) ∧ SM (W3.drewN nq) g d3) := ⟨turn_drewN HM3.out.1 _, HM3.out.2.block rfl⟩
            clear hcv hcp hfr hl HM3
            generalize W3.drewN nq = Wv at *
            go_wp2_with fail
            go_meet
            case rel => exact ⟨by rw [hGx]; rfl, HMw.out⟩
          · have hd : decide (x < y) = false := by simpa using hxy
            rw [hd] at hGx
            go_wp2_with fail
            go_quiet ((go_at_call 34; refine Calls.quiet_of_same ((less_any _ _ _).mono fun _ _ h => ⟨h.1, h.2.symm⟩)))
            have HMw : Hid (Turn [g] w (W3.drewN nq) ∧ SM (W3.drewN nq) g d3) := ⟨turn_drewN HM3.out.1 _, HM3.out.2.block rfl⟩
            clear hcv hcp hfr hl HM3
            generalize W3.drewN nq = Wv at *
            go_wp2_with fail
            go_meet
            case rel => exact ⟨by rw [hGx]; rfl, HMw.out⟩
        · have ha0I : ¬ (0 : Int) < (a : Int) := by omega
          have hGx : Gb = false := by rw [← HGB.out]; simp [ha0]
          go_wp2_with fail
          go_quiet ((go_at_call 34; refine Calls.quiet_of_same ((less_any _ _ _).mono fun _ _ h => ⟨h.1, h.2.symm⟩)))
          have HMw : Hid (Turn [g] w (W3.drewN nq) ∧ SM (W3.drewN nq) g d3) := ⟨turn_drewN HM3.out.1 _, HM3.out.2.block rfl⟩
          clear  HM3
          generalize W3.drewN nq = Wv at *
          go_wp2_with fail
          go_meet
          case rel => exact ⟨by rw [hGx], HMw.out⟩
      case rest =>
      obtain ⟨rfl, HM4⟩ := hcut
      generalize wc = W4 at *
      clear HM3
      by_cases hG : 0 < a ∧ ltN d3[a - 1]! d3[pv]! = false
      · have hgb : Gb = true := by rw [← HGB.out, decide_eq_true hG]
        subst hgb
        have KE := Lib.hid (partEq_any g n a b pv cap d3 W4 HM4.out.2 HN3.out hpr.1 hpr.2 hbn hn2)
        have hrg := partEq_rng d3 (a := a) (b := b) (pv := pv) (by omega)
        have HT2 : Hid (Sort.pdq ltN (Sort.partitionEqual ltN d3 a b pv).2 (Sort.partitionEqual ltN d3 a b pv).1 b l2 wb wp = R) := by show _ = _; rw [← HT.out, pdqTail, if_pos hG]
        generalize Sort.partitionEqual ltN d3 a b pv = r at *
        obtain ⟨m, d4⟩ := r
        have HN4 : Hid (d4.size = n) := by show _ = _; rw [← HN3.out]; exact hrg.2.2
        have hrm : a < m ∧ m ≤ b := ⟨hrg.1, hrg.2.1⟩
        clear hG HT hrg
        go_wp2_with (go_at_call 35; (refine KE.out.mono ?_); rintro e w5 ⟨rfl, ht5, hs5⟩; have HM5 : Hid (Turn [g] w w5 ∧ SM w5 g d4) := ⟨HM4.out.1.trans ht5, hs5⟩; clear ht5 hs5)
        go_roundw
        case rel => exact ⟨m, b, l2, d4, wb, wp, rfl, rfl, rfl, rfl, rfl, by omega, hbn, by omega, by omega, HN4.out, HM5.out, HT2.out⟩
        case measure => simp [intOf]; omega
      · have hgb : Gb = false := by rw [← HGB.out, decide_eq_false hG]
        subst hgb
        have KE := Lib.hid (part_any g n a b pv cap d3 W4 HM4.out.2 HN3.out hpr.1 hpr.2 hbn hn2)
        have hrg := part_rng d3 hpr.1 hpr.2 (by rw [HN3.out]; exact hbn)
        have HT1 : Hid ((if (Sort.partition ltN d3 a b pv).1 - a < b - (Sort.partition ltN d3 a b pv).1 then Sort.pdq ltN (Sort.pdq ltN (Sort.partition ltN d3 a b pv).2.2 a (Sort.partition ltN d3 a b pv).1 l2 true true) ((Sort.partition ltN d3 a b pv).1 + 1) b l2 (decide ((Sort.partition ltN d3 a b pv).1 - a ≥ (b - a) / 8)) (Sort.partition ltN d3 a b pv).2.1 else Sort.pdq ltN (Sort.pdq ltN (Sort.partition ltN d3 a b pv).2.2 ((Sort.partition ltN d3 a b pv).1 + 1) b l2 true true) a (Sort.partition ltN d3 a b pv).1 l2 (decide (b - (Sort.partition ltN d3 a b pv).1 ≥ (b - a) / 8)) (Sort.partition ltN d3 a b pv).2.1) = R) := by show _ = _; rw [← HT.out, pdqTail, if_neg hG]
        generalize Sort.partition ltN d3 a b pv = r at *
        obtain ⟨m, ap, d4⟩ := r
        have HN4 : Hid (d4.size = n) := by show _ = _; rw [← HN3.out]; exact hrg.2.2
        have hrm : a ≤ m ∧ m < b := ⟨hrg.1, hrg.2.1⟩
        obtain ⟨lf, hlf⟩ : ∃ k, m - a = k := ⟨_, rfl⟩
        obtain ⟨rt, hrt⟩ : ∃ k, b - m = k := ⟨_, rfl⟩
        obtain ⟨th, hth⟩ : ∃ k, (b - a) / 8 = k := ⟨_, rfl⟩
        obtain ⟨m1, hm1⟩ : ∃ k, m + 1 = k := ⟨_, rfl⟩
        have hq1 : IntKind.i64.wrap ((m : Int) - (a : Int)) = (lf : Int) := by rw [IntWalk.i64_in _ (by omega)]; omega
        have hq2 : IntKind.i64.wrap ((b : Int) - (m : Int)) = (rt : Int) := by rw [IntWalk.i64_in _ (by omega)]; omega
        have hq3 : (len : Int).tdiv 8 = (th : Int) := by rw [← hth, hlen]; rfl
        have hq4 : (len : Int) / 8 = (th : Int) := by rw [← hth, hlen]; rfl
        have hq6 : IntKind.i64.wrap (th : Int) = (th : Int) := by rw [IntWalk.i64_in _ (by omega)]
        have hq5 : IntKind.i64.wrap ((m : Int) + 1) = (m1 : Int) := by rw [IntWalk.i64_in _ (by omega)]; omega
        have HT2 : Hid ((if lf < rt then Sort.pdq ltN (Sort.pdq ltN d4 a m l2 true true) m1 b l2 (decide (th ≤ lf)) ap else Sort.pdq ltN (Sort.pdq ltN d4 m1 b l2 true true) a m l2 (decide (th ≤ rt)) ap) = R) := by
          show _ = _
          have h := HT1.out
          simp only [hlf, hrt, hth, hm1, ge_iff_le] at h
          exact h
        have hmm : lf = m - a ∧ rt = b - m ∧ m1 = m + 1 := by omega
        clear hG HT hrg HT1 hlf hrt hm1 hth
        go_upto_region 24 with (go_at_call 36; (refine KE.out.mono ?_); rintro e w5 ⟨rfl, ht5, hs5⟩; have HM5 : Hid (Turn [g] w w5 ∧ SM w5 g d4) := ⟨HM4.out.1.trans ht5, hs5⟩; clear ht5 hs5)
        clear HM4 KE
        by_cases hlr : lf < rt
        · have hlrI : (lf : Int) < (rt : Int) := by omega
          have HT3 : Hid (Sort.pdq ltN (Sort.pdq ltN d4 a m l2 true true) m1 b l2 (decide (th ≤ lf)) ap = R) := by show _ = _; rw [← HT2.out, if_pos hlr]
          have KI := Lib.hid (IH.out a m l2 d4 w5 (by omega) HM5.out.2 HN4.out (by omega) (by omega) (by omega))
          have HN6 : Hid ((Sort.pdq ltN d4 a m l2 true true).size = n) := by show _ = _; rw [← HN4.out]; exact pdq_size d4 (by omega) (by rw [HN4.out]; omega) _ (Nat.le_refl _)
          clear HT2 HN4
          generalize Sort.pdq ltN d4 a m l2 true true = d6 at *
          by_cases hbal : th ≤ lf
          · have hbI : (th : Int) ≤ (lf : Int) := by omega
            rw [decide_eq_true hbal] at HT3
            go_wp2_with (go_at_call 26; (refine KI.out.mono ?_); rintro e w6 ⟨rfl, ht5, hs5⟩; have HM6 : Hid (Turn [g] w w6 ∧ SM w6 g d6) := ⟨HM5.out.1.trans ht5, hs5⟩; clear ht5 hs5)
            go_roundw
            case rel => exact ⟨m1, b, l2, d6, true, ap, by first | rfl | exact congrArg (Value.int .i64) (by omega), by first | rfl | exact congrArg (Value.int .i64) (by omega), rfl, by first | rfl | (simp; omega), rfl, by omega, by omega, by omega, by omega, HN6.out, HM6.out, HT3.out⟩
            case measure => simp [intOf]; omega
          · have hbI : ¬ (th : Int) ≤ (lf : Int) := by omega
            rw [decide_eq_false hbal] at HT3
            go_wp2_with (go_at_call 26; (refine KI.out.mono ?_); rintro e w6 ⟨rfl, ht5, hs5⟩; have HM6 : Hid (Turn [g] w w6 ∧ SM w6 g d6) := ⟨HM5.out.1.trans ht5, hs5⟩; clear ht5 hs5)
            go_roundw
            case rel => exact ⟨m1, b, l2, d6, false, ap, by first | rfl | exact congrArg (Value.int .i64) (by omega), by first | rfl | exact congrArg (Value.int .i64) (by omega), rfl, by first | rfl | (simp; omega), rfl, by omega, by omega, by omega, by omega, HN6.out, HM6.out, HT3.out⟩
            case measure => simp [intOf]; omega
        · have hlrI : ¬ (lf : Int) < (rt : Int) := by omega
          have HT3 : Hid (Sort.pdq ltN (Sort.pdq ltN d4 m1 b l2 true true) a m l2 (decide (th ≤ rt)) ap = R) := by show _ = _; rw [← HT2.out, if_neg hlr]
          have KI := Lib.hid (IH.out m1 b l2 d4 w5 (by omega) HM5.out.2 HN4.out (by omega) (by omega) (by omega))
          have hm1I : (m1 : Int) = (m : Int) + 1 := by omega
          rw [hm1I] at KI
          clear hm1I
          have HN6 : Hid ((Sort.pdq ltN d4 m1 b l2 true true).size = n) := by show _ = _; rw [← HN4.out]; exact pdq_size d4 (by omega) (by rw [HN4.out]; omega) _ (Nat.le_refl _)
          clear HT2 HN4
          generalize Sort.pdq ltN d4 m1 b l2 true true = d6 at *
          by_cases hbal : th ≤ rt
          · have hbI : (th : Int) ≤ (rt : Int) := by omega
            rw [decide_eq_true hbal] at HT3
            go_wp2_with (go_at_call 26; (refine KI.out.mono ?_); rintro e w6 ⟨rfl, ht5, hs5⟩; have HM6 : Hid (Turn [g] w w6 ∧ SM w6 g d6) := ⟨HM5.out.1.trans ht5, hs5⟩; clear ht5 hs5)
            go_roundw
            case rel => exact ⟨a, m, l2, d6, true, ap, by first | rfl | exact congrArg (Value.int .i64) (by omega), by first | rfl | exact congrArg (Value.int .i64) (by omega), rfl, by first | rfl | (simp; omega), rfl, by omega, by omega, by omega, by omega, HN6.out, HM6.out, HT3.out⟩
            case measure => simp [intOf]; omega
          · have hbI : ¬ (th : Int) ≤ (rt : Int) := by omega
            rw [decide_eq_false hbal] at HT3
            go_wp2_with (go_at_call 26; (refine KI.out.mono ?_); rintro e w6 ⟨rfl, ht5, hs5⟩; have HM6 : Hid (Turn [g] w w6 ∧ SM w6 g d6) := ⟨HM5.out.1.trans ht5, hs5⟩; clear ht5 hs5)
            go_roundw
            case rel => exact ⟨a, m, l2, d6, false, ap, by first | rfl | exact congrArg (Value.int .i64) (by omega), by first | rfl | exact congrArg (Value.int .i64) (by omega), rfl, by first | rfl | (simp; omega), rfl, by omega, by omega, by omega, by omega, HN6.out, HM6.out, HT3.out⟩
            case measure => simp [intOf]; omega
theorem pdq_any (g n cap : Nat) (hn2 : n ≤ 900) : ∀ (k a b l : Nat) (d : Array Nat) (w : World), b - a < k → SM w g d → d.size = n → a ≤ b → b ≤ n → l ≤ 100 →
    Calls Try.prog 26 #[.slice (some ⟨g, 0, none⟩) n cap, .int .i64 (a : Int), .int .i64 (b : Int), .int .i64 (l : Int)] w (SoP g (Sort.pdq ltN d a b l true true) w)
  | 0, _, _, _, _, _, h, _, _, _, _, _ => by omega
  | k + 1, a, b, l, d, w, h, hs, hn, hab, hb, hl => pdq_walk g n cap k hn2 (Lib.hid (fun a b l d w h => pdq_any g n cap hn2 k a b l d w h)) a b l d w (by omega) hs hn hab hb hl
end Go.Proofs.Ytmdhlpnieimdaaa
