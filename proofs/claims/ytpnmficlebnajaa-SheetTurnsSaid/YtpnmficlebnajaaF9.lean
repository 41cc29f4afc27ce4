/- SheetParses, walked. -/
import Derived.Test.YtpnmficlebnajaaF8
namespace Go.Proofs.Ytpnmficlebnajaa
open Go.RowKit

theorem printE_errF {x : List Ent} (h : printE x = 0) : errF x x.length = 0 := by
  rcases Nat.eq_zero_or_pos (errF x x.length) with h0 | h0
  · exact h0
  · rw [printE, if_neg (by omega)] at h; exact h
theorem printE_small {x : List Ent} (h : printE x = 0) : ∀ y ∈ x, y.t.size ≤ maxLen := by
  intro y hy
  obtain ⟨i, hi, rfl⟩ := List.mem_iff_getElem.1 hy
  have := ((err_text (Nat.le_refl _) (printE_errF h)).2 i hi hi).1
  unfold maxLen; omega

set_option maxRecDepth 100000 in
set_option maxHeartbeats 4000000 in
theorem SheetParses_walkI (s : ByteArray) (w : World) (hs : s.size ≤ maxLen) :
    Calls Try.prog 4 #[.string s] w fun e w' => e = .returned (.bool true) ∧ Below w.heap.size w w' := by
  unfold maxLen at hs
  have hs' : (s.size : Int) ≤ 9223372036854775807 := by omega
  have ha : (0 : Int) ≤ min (s.size : Int) 1300 := by omega
  have hb : min (s.size : Int) 1300 ≤ (s.size : Int) := by omega
  have hc : (s.extract 0 (min (s.size : Int) 1300).toNat).size ≤ 1000000 := by rw [ByteArray.size_extract]; omega
  generalize hcs : s.extract 0 (min (s.size : Int) 1300).toNat = c at *
  have HP : Hid (∀ W, Calls Try.prog 13 #[.string c] W fun e w' => ParPost W (parseS c.data.toList) e w') := fun W => sheetParse_any c W hc
  have HR : Hid (∀ W, Calls Try.prog 14 #[.string c] W fun e w' => RParPost W (parseS c.data.toList) e w') := fun W => refParse_any c W hc
  have HK := Lib.hid known_any
  rcases hr : parseS c.data.toList with ⟨x, at', er⟩
  rw [hr] at HP HR
  have HX := Lib.hid hr
  clear hr
  have HSm : Hid (∀ (q q' : Option Addr) (cap cap' : Nat) (W : World), x.length ≤ cap → cap ≤ maxLen → x.length ≤ cap' → cap' ≤ maxLen → SlAt entC 13 W q x → SlAt rentC 2 W q' (x.map toR) → Calls Try.prog 15 #[.slice q x.length cap, .slice q' x.length cap'] W fun e w' => e = .returned (.bool true) ∧ Below W.heap.size W w') :=
    fun q q' cap cap' W h1 h2 h3 h4 h5 h6 => same_any q q' x _ cap cap' W rfl h1 h2 h3 h4 h5 h6
  by_cases h0 : er = 0
  case neg =>
    have h0' : (((er : Nat) : Int) == 0) = false := by simpa using h0
    have h0'' : (((er : Nat) : Int) != 0) = true := by simpa using h0
    clear h0
    go_enter Try.func4, Try.ntmps4
    go_wp2_with (first
      | (go_at_call 13; (refine (HP.out _).mono ?_); rintro e w1 ⟨hb1, v1, rfl, ho1⟩; obtain ⟨q1, cap1, rfl, hc1, hm1, hq1, hq1'⟩ := ho1.at entC_len; have HQ1 := Lib.hid hq1; clear ho1 hq1 hq1'; have HB1 := Lib.hid hb1; clear hb1)
      | (go_at_call 14; (refine (HR.out _).mono ?_); rintro e w2 ⟨hb2, v2, rfl, ho2⟩; obtain ⟨q2, cap2, hv2, hc2, hm2, hq2, hq2'⟩ := ho2.at rentC_len; rw [List.length_map] at hv2 hc2; subst hv2; have HQ2 := Lib.hid hq2; have HQ12 := Lib.hid (HQ1.out.below hb2); clear ho2 hq2 hq2'; have HB2 := Lib.hid (HB1.out.trans (hb2.mono HB1.out.size)); clear hb2)
      | (go_at_call 15; (refine (HSm.out _ _ _ _ _ hc1 hm1 hc2 hm2 HQ12.out HQ2.out).mono ?_); rintro e w3 ⟨rfl, hb3⟩; have HB3 := Lib.hid (HB2.out.trans (hb3.mono HB2.out.size)); clear hb3)
      | (go_at_call 12; (refine (HK.out _).mono ?_); rintro e w4 ⟨rfl, hb4⟩; have HB4 := Lib.hid (HB3.out.trans (hb4.mono HB3.out.size)); clear hb4))
    go_ret
    exact ⟨rfl, HB4.out⟩
  case pos =>
    subst h0
    obtain ⟨rfl, hpe, hpt⟩ := parseS_back HX.out
    have HPr : Hid (∀ (q : Option Addr) (cap : Nat) (W : World), x.length ≤ cap → cap ≤ maxLen → SlAt entC 13 W q x → Calls Try.prog 8 #[.slice q x.length cap] W fun e w' => e = .returned (.tuple #[.string c, .int .i64 0]) ∧ Below W.heap.size W w') := fun q cap W h1 h2 h3 => by
      have := print_any q x x.length cap W rfl h1 h2 h3 (printE_small hpe)
      rw [hpe, hpt, ← ba_eq rfl] at this
      exact this
    have he9 := fun W => eql9 c W
    clear hpe hpt HX
    go_enter Try.func4, Try.ntmps4
    go_wp2_with (first
      | (go_at_call 13; (refine (HP.out _).mono ?_); rintro e w1 ⟨hb1, v1, rfl, ho1⟩; obtain ⟨q1, cap1, rfl, hc1, hm1, hq1, hq1'⟩ := ho1.at entC_len; have HQ1 := Lib.hid hq1; clear ho1 hq1 hq1'; have HB1 := Lib.hid hb1; clear hb1)
      | (go_at_call 14; (refine (HR.out _).mono ?_); rintro e w2 ⟨hb2, v2, rfl, ho2⟩; obtain ⟨q2, cap2, hv2, hc2, hm2, hq2, hq2'⟩ := ho2.at rentC_len; rw [List.length_map] at hv2 hc2; subst hv2; have HQ2 := Lib.hid hq2; have HQ12 := Lib.hid (HQ1.out.below hb2); clear ho2 hq2 hq2'; have HB2 := Lib.hid (HB1.out.trans (hb2.mono HB1.out.size)); clear hb2)
      | (go_at_call 15; (refine (HSm.out _ _ _ _ _ hc1 hm1 hc2 hm2 HQ12.out HQ2.out).mono ?_); rintro e w3 ⟨rfl, hb3⟩; have HB3 := Lib.hid (HB2.out.trans (hb3.mono HB2.out.size)); have HQ13 := Lib.hid (HQ12.out.below hb3); clear hb3)
      | (go_at_call 8; (refine (HPr.out _ _ _ hc1 hm1 HQ13.out).mono ?_); rintro e w4 ⟨rfl, hb4⟩; have HB4 := Lib.hid (HB3.out.trans (hb4.mono HB3.out.size)); clear hb4)
      | (go_at_call 12; (refine (HK.out _).mono ?_); rintro e w5 ⟨rfl, hb5⟩; have HB5 := Lib.hid (HB4.out.trans (hb5.mono HB4.out.size)); clear hb5))
    go_ret
    exact ⟨rfl, HB5.out⟩
end Go.Proofs.Ytpnmficlebnajaa
