/- siftDown and heapSort at words. -/
import Derived.Test.YtmdhlpnieimdaaaZ1
namespace Go.Proofs.Ytmdhlpnieimdaaa
open Go.RowKit

theorem sift_end {hi first r : Nat} {d : Array Nat} (h : hi ≤ 2 * r + 1) : Sort.siftDown ltN hi first r d = d := by rw [Sort.siftDown, dif_pos h]
theorem sift_two {hi first r : Nat} {d : Array Nat} (h : ¬ hi ≤ 2 * r + 1) (h2 : 2 * r + 2 < hi ∧ ltN d[first + (2 * r + 1)]! d[first + (2 * r + 1) + 1]! = true) : Sort.siftDown ltN hi first r d = if !ltN d[first + r]! d[first + (2 * r + 2)]! then d else Sort.siftDown ltN hi first (2 * r + 2) (Sort.swp d (first + r) (first + (2 * r + 2))) := by
  rw [Sort.siftDown, dif_neg h, if_pos (by simp only [show 2 * r + 1 + 1 < hi from h2.1, decide_true, Bool.true_and]; exact h2.2)]
  split
  · rfl
  · rw [dif_pos h2.1]
theorem sift_one {hi first r : Nat} {d : Array Nat} (h : ¬ hi ≤ 2 * r + 1) (h2 : ¬ (2 * r + 2 < hi ∧ ltN d[first + (2 * r + 1)]! d[first + (2 * r + 1) + 1]! = true)) : Sort.siftDown ltN hi first r d = if !ltN d[first + r]! d[first + (2 * r + 1)]! then d else Sort.siftDown ltN hi first (2 * r + 1) (Sort.swp d (first + r) (first + (2 * r + 1))) := by
  rw [Sort.siftDown, dif_neg h, if_neg (by
    intro e
    simp only [Bool.and_eq_true, decide_eq_true_eq] at e
    exact h2 e)]
set_option maxRecDepth 100000 in
set_option maxHeartbeats 8000000 in
theorem sift_any (g n lo hi first cap : Nat) (d : Array Nat) (w : World) (h : SM w g d) (hn : d.size = n) (hf : first + hi ≤ n) (hlo : lo ≤ 1000) (hn2 : n ≤ 1000) :
    Calls Try.prog 39 #[.slice (some ⟨g, 0, none⟩) n cap, .int .i64 (lo : Int), .int .i64 (hi : Int), .int .i64 (first : Int)] w (SoP g (Sort.siftDown ltN hi first lo d) w) := by
  have H := Lib.hid h
  obtain ⟨R, hR⟩ : ∃ R, Sort.siftDown ltN hi first lo d = R := ⟨_, rfl⟩
  have HR : Hid (Sort.siftDown ltN hi first lo d = R) := hR
  rw [hR]
  have HN := Lib.hid hn
  clear h hR hn
  go_enter Try.func39, Try.ntmps39
  go_wp2_with fail
  go_loopw [8, 9] (fun rr cc wr => ∃ (r : Nat) (d2 : Array Nat), r ≤ 1000 ∧ rr = .int .i64 (r : Int) ∧ Hid (d2.size = n) ∧ Hid (Turn [g] w wr ∧ SM wr g d2) ∧ Hid (Sort.siftDown ltN hi first r d2 = R)) (fun rr _ _ => hi - (intOf rr).toNat)
  case atStart => exact ⟨lo, d, hlo, rfl, HN.out, ⟨Turn.refl _ _, H.out⟩, HR.out⟩
  case round =>
    obtain ⟨r, d2, hr, rfl, HN2, HM2, HE2⟩ := hrel
    clear H HR HN
    obtain ⟨c, hc⟩ : ∃ c, c = 2 * r + 1 := ⟨_, rfl⟩
    have hm1 : IntKind.i64.wrap (2 * (r : Int)) = (2 * (r : Int)) := by rw [IntWalk.i64_in _ (by omega)]; try omega
    have hm2 : IntKind.i64.wrap (2 * (r : Int) + 1) = ((c : Int)) := by rw [IntWalk.i64_in _ (by omega)]; try omega
    by_cases hch : hi ≤ c
    · have hchI : (hi : Int) ≤ (c : Int) := by omega
      have HS2 : Hid (Sort.siftDown ltN hi first r d2 = d2) := sift_end (by omega)
      clear hc
      go_wp2_with fail
      go_end0
      exact ⟨rfl, HM2.out.1, by have h := HE2.out; rw [HS2.out] at h; rw [← h]; exact HM2.out.2⟩
    · have hchI : ¬ (hi : Int) ≤ (c : Int) := by omega
      obtain ⟨e, he⟩ : ∃ e, e = 2 * r + 2 := ⟨_, rfl⟩
      obtain ⟨fr, hfrr⟩ : ∃ k, k = first + r := ⟨_, rfl⟩
      obtain ⟨fc, hfc⟩ : ∃ k, k = first + c := ⟨_, rfl⟩
      obtain ⟨fe, hfe⟩ : ∃ k, k = first + e := ⟨_, rfl⟩
      have hm3 : IntKind.i64.wrap ((c : Int) + 1) = ((e : Int)) := by rw [IntWalk.i64_in _ (by omega)]; try omega
      have hm4 : IntKind.i64.wrap ((first : Int) + (c : Int)) = ((fc : Int)) := by rw [IntWalk.i64_in _ (by omega)]; try omega
      have hm5 : IntKind.i64.wrap ((first : Int) + (r : Int)) = ((fr : Int)) := by rw [IntWalk.i64_in _ (by omega)]; try omega
      have hb1 : (fc : Int) < (n : Int) := by omega
      have hb2 : (fr : Int) < (n : Int) := by omega
      have hb3 : fc < n := by omega
      have hb4 : fr < n := by omega
      have hrc : r < c := by omega
      have hre : r < e := by omega
      have hc1 : c ≤ 1000 := by omega
      have hfr := HM2.out.2.f
      have hl := HM2.out.2.lt (by rw [HN2.out]; omega)
      have hcr := HM2.out.2.c fr (by rw [HN2.out]; omega)
      obtain ⟨x, hxr⟩ : ∃ x, d2[fr]! = x := ⟨_, rfl⟩
      have HXr := Lib.hid hxr
      rw [hxr] at hcr
      clear hxr hcr
      have hcc := HM2.out.2.c fc (by rw [HN2.out]; omega)
      obtain ⟨z, hxc⟩ : ∃ x, d2[fc]! = x := ⟨_, rfl⟩
      have HXc := Lib.hid hxc
      rw [hxc] at hcc
      by_cases hei : e < hi
      · have heiI : (e : Int) < (hi : Int) := by omega
        have he1 : e ≤ 1000 := by omega
        have hm6 : IntKind.i64.wrap ((fc : Int) + 1) = ((fe : Int)) := by rw [IntWalk.i64_in _ (by omega)]; try omega
        have hm7 : IntKind.i64.wrap ((first : Int) + (e : Int)) = ((fe : Int)) := by rw [IntWalk.i64_in _ (by omega)]; try omega
        have hb5 : (fe : Int) < (n : Int) := by omega
        have hb6 : fe < n := by omega
        have hce := HM2.out.2.c fe (by rw [HN2.out]; omega)
        obtain ⟨u, hxe⟩ : ∃ x, d2[fe]! = x := ⟨_, rfl⟩
        have HXe := Lib.hid hxe
        rw [hxe] at hce
        by_cases hzu : z < u
        · have hd0 : decide (z < u) = true := by simpa using hzu
          have HST0 : Hid (Sort.siftDown ltN hi first r d2 = if !ltN d2[fr]! d2[fe]! then d2 else Sort.siftDown ltN hi first e (Sort.swp d2 fr fe)) := by
            show _ = _
            rw [sift_two (by omega) ⟨by omega, by rw [show first + (2 * r + 1) = fc by omega, show fc + 1 = fe by omega, hxc, hxe]; simpa [ltN] using hzu⟩, ← hfrr, ← he, ← hfe]
          have HQ := Lib.hid (And.intro hc (And.intro he (And.intro hfrr (And.intro hfc hfe))))
          clear hc he hfrr hfc hfe hxc hxe
          obtain ⟨y, hy⟩ : ∃ y, y = u := ⟨_, rfl⟩
          subst hy
          go_wp2_with fail
          go_quiet ((go_at_call 34; refine Calls.quiet_of_same ((less_any _ _ _).mono fun _ _ h => ⟨h.1, h.2.symm⟩)))
          have HI2 : Hid (Turn [g] w (wr.drewN nq) ∧ SM (wr.drewN nq) g d2) := ⟨turn_drewN HM2.out.1 _, HM2.out.2.block rfl⟩
          clear hcc hce hfr hl HM2
          generalize wr.drewN nq = W at *
          clear hd0 hzu
          have HST : Hid (Sort.siftDown ltN hi first r d2 = if ltN x y = true then Sort.siftDown ltN hi first e (Sort.swp d2 fr fe) else d2) := by
            show _ = _
            rw [HST0.out]
            simp only [HXr.out, HXe.out]
            cases ltN x y <;> rfl
          have hfr := HI2.out.2.f
          have hl := HI2.out.2.lt (by rw [HN2.out]; omega)
          have hcr := HI2.out.2.c fr (by rw [HN2.out]; omega)
          have hcc := HI2.out.2.c fe (by rw [HN2.out]; omega)
          rw [HXr.out] at hcr
          rw [HXe.out] at hcc
          by_cases hxy : x < y
          · have hd : decide (x < y) = true := by simpa using hxy
            have HS2 : Hid (Sort.siftDown ltN hi first r d2 = Sort.siftDown ltN hi first e (Sort.swp d2 fr fe)) := by show _ = _; rw [HST.out, if_pos (show ltN x y = true by simpa [ltN] using hxy)]
            go_wp2_with fail
            go_quiet ((go_at_call 34; refine Calls.quiet_of_same ((less_any _ _ _).mono fun _ _ h => ⟨h.1, h.2.symm⟩)))
            have HI3 : Hid (Turn [g] w (W.drewN nq) ∧ SM (W.drewN nq) g d2) := ⟨turn_drewN HI2.out.1 _, HI2.out.2.block rfl⟩
            clear hcr hcc hfr hl HST HI2
            generalize W.drewN nq = W3 at *
            have hci := HI3.out.2.c fr (by rw [HN2.out]; omega)
            have hcj := HI3.out.2.c fe (by rw [HN2.out]; omega)
            rw [HXr.out] at hci
            rw [HXe.out] at hcj
            have hfr := HI3.out.2.f
            have hl := HI3.out.2.lt (by rw [HN2.out]; omega)
            obtain ⟨zm, hmid⟩ := HI3.out.2.mid fr fe y (by rw [HN2.out]; omega) (by rw [HN2.out]; omega)
            have HS : Hid (Turn [g] w ((((W3.setCell ⟨g, fr, none⟩ (.int .u64 (y : Int))).setCell ⟨g, fe, none⟩ (.int .u64 (x : Int)))).drew) ∧ SM ((((W3.setCell ⟨g, fr, none⟩ (.int .u64 (y : Int))).setCell ⟨g, fe, none⟩ (.int .u64 (x : Int)))).drew) g (Sort.swp d2 fr fe)) := by
              have h := HI3.out.2.swap fr fe (by rw [HN2.out]; omega) (by rw [HN2.out]; omega)
              rw [HXr.out, HXe.out] at h
              exact ⟨(HI3.out.1.trans ((Turn.setCell g fr _ _).trans (Turn.setCell g fe _ _))).trans ⟨rfl, rfl, rfl, Nat.le_refl _, fun _ _ _ => rfl⟩, h.block rfl⟩
            go_wp2_with fail
            go_region
            clear hci hcj hfr hl hmid HI3
            generalize (((W3.setCell ⟨g, fr, none⟩ (.int .u64 (y : Int))).setCell ⟨g, fe, none⟩ (.int .u64 (x : Int)))).drew = W9 at *
            go_wp2_with fail
            go_roundw
            case rel => exact ⟨e, Sort.swp d2 fr fe, by omega, rfl, by show _ = _; rw [swp_size]; exact HN2.out, HS.out, by rw [← HS2.out]; exact HE2.out⟩
            case measure => simp [intOf]; omega
          · have hd : decide (x < y) = false := by simpa using hxy
            have HS2 : Hid (Sort.siftDown ltN hi first r d2 = d2) := by show _ = _; rw [HST.out, if_neg (show ¬ ltN x y = true by simpa [ltN] using hxy)]
            go_wp2_with fail
            go_quiet ((go_at_call 34; refine Calls.quiet_of_same ((less_any _ _ _).mono fun _ _ h => ⟨h.1, h.2.symm⟩)))
            have HI3 : Hid (Turn [g] w (W.drewN nq) ∧ SM (W.drewN nq) g d2) := ⟨turn_drewN HI2.out.1 _, HI2.out.2.block rfl⟩
            clear hcr hcc hfr hl HST HI2
            generalize W.drewN nq = W3 at *
            go_wp2_with fail
            go_end0
            exact ⟨rfl, HI3.out.1, by have h := HE2.out; rw [HS2.out] at h; rw [← h]; exact HI3.out.2⟩
        · have hd0 : decide (z < u) = false := by simpa using hzu
          have HST0 : Hid (Sort.siftDown ltN hi first r d2 = if !ltN d2[fr]! d2[fc]! then d2 else Sort.siftDown ltN hi first c (Sort.swp d2 fr fc)) := by
            show _ = _
            rw [sift_one (by omega) (fun h => hzu (by have := h.2; rw [show first + (2 * r + 1) = fc by omega, show fc + 1 = fe by omega, hxc, hxe] at this; simpa [ltN] using this)), ← hfrr, ← hc, ← hfc]
          have HQ := Lib.hid (And.intro hc (And.intro he (And.intro hfrr (And.intro hfc hfe))))
          clear hc he hfrr hfc hfe hxc hxe
          obtain ⟨y, hy⟩ : ∃ y, y = z := ⟨_, rfl⟩
          subst hy
          go_wp2_with fail
          go_quiet ((go_at_call 34; refine Calls.quiet_of_same ((less_any _ _ _).mono fun _ _ h => ⟨h.1, h.2.symm⟩)))
          have HI2 : Hid (Turn [g] w (wr.drewN nq) ∧ SM (wr.drewN nq) g d2) := ⟨turn_drewN HM2.out.1 _, HM2.out.2.block rfl⟩
          clear hcc hce hfr hl HM2
          generalize wr.drewN nq = W at *
          clear hd0 hzu
          have HST : Hid (Sort.siftDown ltN hi first r d2 = if ltN x y = true then Sort.siftDown ltN hi first c (Sort.swp d2 fr fc) else d2) := by
            show _ = _
            rw [HST0.out]
            simp only [HXr.out, HXc.out]
            cases ltN x y <;> rfl
          have hfr := HI2.out.2.f
          have hl := HI2.out.2.lt (by rw [HN2.out]; omega)
          have hcr := HI2.out.2.c fr (by rw [HN2.out]; omega)
          have hcc := HI2.out.2.c fc (by rw [HN2.out]; omega)
          rw [HXr.out] at hcr
          rw [HXc.out] at hcc
          by_cases hxy : x < y
          · have hd : decide (x < y) = true := by simpa using hxy
            have HS2 : Hid (Sort.siftDown ltN hi first r d2 = Sort.siftDown ltN hi first c (Sort.swp d2 fr fc)) := by show _ = _; rw [HST.out, if_pos (show ltN x y = true by simpa [ltN] using hxy)]
            go_wp2_with fail
            go_quiet ((go_at_call 34; refine Calls.quiet_of_same ((less_any _ _ _).mono fun _ _ h => ⟨h.1, h.2.symm⟩)))
            have HI3 : Hid (Turn [g] w (W.drewN nq) ∧ SM (W.drewN nq) g d2) := ⟨turn_drewN HI2.out.1 _, HI2.out.2.block rfl⟩
            clear hcr hcc hfr hl HST HI2
            generalize W.drewN nq = W3 at *
            have hci := HI3.out.2.c fr (by rw [HN2.out]; omega)
            have hcj := HI3.out.2.c fc (by rw [HN2.out]; omega)
            rw [HXr.out] at hci
            rw [HXc.out] at hcj
            have hfr := HI3.out.2.f
            have hl := HI3.out.2.lt (by rw [HN2.out]; omega)
            obtain ⟨zm, hmid⟩ := HI3.out.2.mid fr fc y (by rw [HN2.out]; omega) (by rw [HN2.out]; omega)
            have HS : Hid (Turn [g] w ((((W3.setCell ⟨g, fr, none⟩ (.int .u64 (y : Int))).setCell ⟨g, fc, none⟩ (.int .u64 (x : Int)))).drew) ∧ SM ((((W3.setCell ⟨g, fr, none⟩ (.int .u64 (y : Int))).setCell ⟨g, fc, none⟩ (.int .u64 (x : Int)))).drew) g (Sort.swp d2 fr fc)) := by
              have h := HI3.out.2.swap fr fc (by rw [HN2.out]; omega) (by rw [HN2.out]; omega)
              rw [HXr.out, HXc.out] at h
              exact ⟨(HI3.out.1.trans ((Turn.setCell g fr _ _).trans (Turn.setCell g fc _ _))).trans ⟨rfl, rfl, rfl, Nat.le_refl _, fun _ _ _ => rfl⟩, h.block rfl⟩
            go_wp2_with fail
            go_region
            clear hci hcj hfr hl hmid HI3
            generalize (((W3.setCell ⟨g, fr, none⟩ (.int .u64 (y : Int))).setCell ⟨g, fc, none⟩ (.int .u64 (x : Int)))).drew = W9 at *
            go_wp2_with fail
            go_roundw
            case rel => exact ⟨c, Sort.swp d2 fr fc, by omega, rfl, by show _ = _; rw [swp_size]; exact HN2.out, HS.out, by rw [← HS2.out]; exact HE2.out⟩
            case measure => simp [intOf]; omega
          · have hd : decide (x < y) = false := by simpa using hxy
            have HS2 : Hid (Sort.siftDown ltN hi first r d2 = d2) := by show _ = _; rw [HST.out, if_neg (show ¬ ltN x y = true by simpa [ltN] using hxy)]
            go_wp2_with fail
            go_quiet ((go_at_call 34; refine Calls.quiet_of_same ((less_any _ _ _).mono fun _ _ h => ⟨h.1, h.2.symm⟩)))
            have HI3 : Hid (Turn [g] w (W.drewN nq) ∧ SM (W.drewN nq) g d2) := ⟨turn_drewN HI2.out.1 _, HI2.out.2.block rfl⟩
            clear hcr hcc hfr hl HST HI2
            generalize W.drewN nq = W3 at *
            go_wp2_with fail
            go_end0
            exact ⟨rfl, HI3.out.1, by have h := HE2.out; rw [HS2.out] at h; rw [← h]; exact HI3.out.2⟩
      · have heiI : ¬ (e : Int) < (hi : Int) := by omega
        have HST0 : Hid (Sort.siftDown ltN hi first r d2 = if !ltN d2[fr]! d2[fc]! then d2 else Sort.siftDown ltN hi first c (Sort.swp d2 fr fc)) := by
          show _ = _
          rw [sift_one (by omega) (fun h => hei (by omega)), ← hfrr, ← hc, ← hfc]
        have HQ := Lib.hid (And.intro hc (And.intro he (And.intro hfrr (And.intro hfc hfe))))
        clear hc he hfrr hfc hfe hxc
        obtain ⟨y, hy⟩ : ∃ y, y = z := ⟨_, rfl⟩
        subst hy
        go_wp2_with fail
        go_quiet ((go_at_call 34; refine Calls.quiet_of_same ((less_any _ _ _).mono fun _ _ h => ⟨h.1, h.2.symm⟩)))
        have HI2 : Hid (Turn [g] w (wr.drewN nq) ∧ SM (wr.drewN nq) g d2) := ⟨turn_drewN HM2.out.1 _, HM2.out.2.block rfl⟩
        clear hcc hfr hl HM2
        generalize wr.drewN nq = W at *
        have HST : Hid (Sort.siftDown ltN hi first r d2 = if ltN x y = true then Sort.siftDown ltN hi first c (Sort.swp d2 fr fc) else d2) := by
          show _ = _
          rw [HST0.out]
          simp only [HXr.out, HXc.out]
          cases ltN x y <;> rfl
        have hfr := HI2.out.2.f
        have hl := HI2.out.2.lt (by rw [HN2.out]; omega)
        have hcr := HI2.out.2.c fr (by rw [HN2.out]; omega)
        have hcc := HI2.out.2.c fc (by rw [HN2.out]; omega)
        rw [HXr.out] at hcr
        rw [HXc.out] at hcc
        by_cases hxy : x < y
        · have hd : decide (x < y) = true := by simpa using hxy
          have HS2 : Hid (Sort.siftDown ltN hi first r d2 = Sort.siftDown ltN hi first c (Sort.swp d2 fr fc)) := by show _ = _; rw [HST.out, if_pos (show ltN x y = true by simpa [ltN] using hxy)]
          go_wp2_with fail
          go_quiet ((go_at_call 34; refine Calls.quiet_of_same ((less_any _ _ _).mono fun _ _ h => ⟨h.1, h.2.symm⟩)))
          have HI3 : Hid (Turn [g] w (W.drewN nq) ∧ SM (W.drewN nq) g d2) := ⟨turn_drewN HI2.out.1 _, HI2.out.2.block rfl⟩
          clear hcr hcc hfr hl HST HI2
          generalize W.drewN nq = W3 at *
          have hci := HI3.out.2.c fr (by rw [HN2.out]; omega)
          have hcj := HI3.out.2.c fc (by rw [HN2.out]; omega)
          rw [HXr.out] at hci
          rw [HXc.out] at hcj
          have hfr := HI3.out.2.f
          have hl := HI3.out.2.lt (by rw [HN2.out]; omega)
          obtain ⟨zm, hmid⟩ := HI3.out.2.mid fr fc y (by rw [HN2.out]; omega) (by rw [HN2.out]; omega)
          have HS : Hid (Turn [g] w ((((W3.setCell ⟨g, fr, none⟩ (.int .u64 (y : Int))).setCell ⟨g, fc, none⟩ (.int .u64 (x : Int)))).drew) ∧ SM ((((W3.setCell ⟨g, fr, none⟩ (.int .u64 (y : Int))).setCell ⟨g, fc, none⟩ (.int .u64 (x : Int)))).drew) g (Sort.swp d2 fr fc)) := by
            have h := HI3.out.2.swap fr fc (by rw [HN2.out]; omega) (by rw [HN2.out]; omega)
            rw [HXr.out, HXc.out] at h
            exact ⟨(HI3.out.1.trans ((Turn.setCell g fr _ _).trans (Turn.setCell g fc _ _))).trans ⟨rfl, rfl, rfl, Nat.le_refl _, fun _ _ _ => rfl⟩, h.block rfl⟩
          go_wp2_with fail
          go_region
          clear hci hcj hfr hl hmid HI3
          generalize (((W3.setCell ⟨g, fr, none⟩ (.int .u64 (y : Int))).setCell ⟨g, fc, none⟩ (.int .u64 (x : Int)))).drew = W9 at *
          go_wp2_with fail
          go_roundw
          case rel => exact ⟨c, Sort.swp d2 fr fc, by omega, rfl, by show _ = _; rw [swp_size]; exact HN2.out, HS.out, by rw [← HS2.out]; exact HE2.out⟩
          case measure => simp [intOf]; omega
        · have hd : decide (x < y) = false := by simpa using hxy
          have HS2 : Hid (Sort.siftDown ltN hi first r d2 = d2) := by show _ = _; rw [HST.out, if_neg (show ¬ ltN x y = true by simpa [ltN] using hxy)]
          go_wp2_with fail
          go_quiet ((go_at_call 34; refine Calls.quiet_of_same ((less_any _ _ _).mono fun _ _ h => ⟨h.1, h.2.symm⟩)))
          have HI3 : Hid (Turn [g] w (W.drewN nq) ∧ SM (W.drewN nq) g d2) := ⟨turn_drewN HI2.out.1 _, HI2.out.2.block rfl⟩
          clear hcr hcc hfr hl HST HI2
          generalize W.drewN nq = W3 at *
          go_wp2_with fail
          go_end0
          exact ⟨rfl, HI3.out.1, by have h := HE2.out; rw [HS2.out] at h; rw [← h]; exact HI3.out.2⟩
end Go.Proofs.Ytmdhlpnieimdaaa
