/- partitionEqual at words. -/
import Derived.Test.YtmdhlpnieimdaaaZ4
namespace Go.Proofs.Ytmdhlpnieimdaaa
open Go.RowKit

theorem partEq_loop {a i j I J : Nat} {d : Array Nat} (hI : Sort.scanUp (fun x => !ltN d[a]! x) d j i = I) (hJ : Sort.scanDown (fun x => ltN d[a]! x) d I j = J) : Sort.partEqLoop ltN a i j d = if I > J then (I, d) else Sort.partEqLoop ltN a (I + 1) (J - 1) (Sort.swp d I J) := by
  have h1 := scanUp_bd (fun x => !ltN d[a]! x) d j i
  have h2 := scanDown_bd (fun x => ltN d[a]! x) d I j
  rw [hI] at h1
  rw [hJ] at h2
  rw [Sort.partEqLoop]
  simp only [hI, hJ]
  by_cases h : I > J
  · rw [if_pos h, if_pos h]
  · rw [if_neg h, if_neg h, dif_pos (by omega)]
set_option maxRecDepth 100000 in
set_option maxHeartbeats 16000000 in
theorem partEq_any (g n a b pv cap : Nat) (d : Array Nat) (w : World) (h : SM w g d) (hn : d.size = n) (hap : a ≤ pv) (hpb : pv < b) (hb : b ≤ n) (hn2 : n ≤ 900) :
    Calls Try.prog 35 #[.slice (some ⟨g, 0, none⟩) n cap, .int .i64 (a : Int), .int .i64 (b : Int), .int .i64 (pv : Int)] w fun e w' => e = .returned (.int .i64 ((Sort.partitionEqual ltN d a b pv).1 : Nat)) ∧ Turn [g] w w' ∧ SM w' g (Sort.partitionEqual ltN d a b pv).2 := by
  have HM2 : Hid (Turn [g] w w ∧ SM w g d) := ⟨Turn.refl _ _, h⟩
  have HN2 := Lib.hid hn
  obtain ⟨PL, hPL⟩ : ∃ R, Sort.partitionEqual ltN d a b pv = R := ⟨_, rfl⟩
  rw [hPL]
  have HPL : Hid (Sort.partEqLoop ltN a (a + 1) (b - 1) (Sort.swp d a pv) = PL) := hPL
  obtain ⟨b1, hb1⟩ : ∃ k, b - 1 = k := ⟨_, rfl⟩
  obtain ⟨a1, ha1⟩ : ∃ k, a + 1 = k := ⟨_, rfl⟩
  rw [hb1, ha1] at HPL
  have hs1 : IntKind.i64.wrap ((b : Int) - 1) = (b1 : Int) := by rw [IntWalk.i64_in _ (by omega)]; omega
  have hs2 : IntKind.i64.wrap ((a : Int) + 1) = (a1 : Int) := by rw [IntWalk.i64_in _ (by omega)]; omega
  have hq1 : (a : Int) < (n : Int) := by omega
  have hq2 : (pv : Int) < (n : Int) := by omega
  have hq3 : a < n := by omega
  have hq4 : pv < n := by omega
  have hbb : b1 < n ∧ a ≤ b1 := by omega
  have hab : a < a1 ∧ a1 ≤ b1 + 1 := by omega
  clear h hPL hn hb1 ha1
  go_enter Try.func35, Try.ntmps35
  go_upto_region 1 with fail
  have hca := HM2.out.2.c a (by rw [HN2.out]; omega)
  obtain ⟨x, hxa⟩ : ∃ x, d[a]! = x := ⟨_, rfl⟩
  have HXa := Lib.hid hxa
  rw [hxa] at hca
  clear hxa hca
  have hcb := HM2.out.2.c pv (by rw [HN2.out]; omega)
  obtain ⟨y, hxb⟩ : ∃ x, d[pv]! = x := ⟨_, rfl⟩
  have HXb := Lib.hid hxb
  rw [hxb] at hcb
  clear hxb hcb
  have hci := HM2.out.2.c a (by rw [HN2.out]; omega)
  have hcj := HM2.out.2.c pv (by rw [HN2.out]; omega)
  rw [HXa.out] at hci
  rw [HXb.out] at hcj
  have hfr := HM2.out.2.f
  have hl := HM2.out.2.lt (by rw [HN2.out]; omega)
  obtain ⟨zm, hmid⟩ := HM2.out.2.mid a pv y (by rw [HN2.out]; omega) (by rw [HN2.out]; omega)
  have HS : Hid (Turn [g] w ((((w.setCell ⟨g, a, none⟩ (.int .u64 (y : Int))).setCell ⟨g, pv, none⟩ (.int .u64 (x : Int)))).drew) ∧ SM ((((w.setCell ⟨g, a, none⟩ (.int .u64 (y : Int))).setCell ⟨g, pv, none⟩ (.int .u64 (x : Int)))).drew) g (Sort.swp d a pv)) := by
    have h := HM2.out.2.swap a pv (by rw [HN2.out]; omega) (by rw [HN2.out]; omega)
    rw [HXa.out, HXb.out] at h
    exact ⟨(HM2.out.1.trans ((Turn.setCell g a _ _).trans (Turn.setCell g pv _ _))).trans ⟨rfl, rfl, rfl, Nat.le_refl _, fun _ _ _ => rfl⟩, h.block rfl⟩
  go_wp2_with fail
  go_region
  clear hci hcj hfr hl hmid HM2
  generalize (((w.setCell ⟨g, a, none⟩ (.int .u64 (y : Int))).setCell ⟨g, pv, none⟩ (.int .u64 (x : Int)))).drew = W9 at *
  have HN4 : Hid ((Sort.swp d a pv).size = n) := by show _ = _; rw [swp_size]; exact HN2.out
  clear HN2 HXa HXb
  go_wp2_with fail
  go_loopw [9, 10] (fun ii jj wr => ∃ (i j : Nat) (d3 : Array Nat), ii = .int .i64 (i : Int) ∧ jj = .int .i64 (j : Int) ∧ a < i ∧ a ≤ j ∧ j < n ∧ i ≤ j + 2 ∧ Hid (d3.size = n) ∧ Hid (Turn [g] w wr ∧ SM wr g d3) ∧ Hid (Sort.partEqLoop ltN a i j d3 = PL)) (fun ii jj _ => (intOf jj).toNat + 1 - (intOf ii).toNat)
  case atStart => exact ⟨a1, b1, _, rfl, rfl, by omega, by omega, by omega, by omega, HN4.out, HS.out, HPL.out⟩
  case round =>
    obtain ⟨i, j, d3, rfl, rfl, hai, haj, hjn, hij2, HN5, HM6, HE6⟩ := hrel
    clear HS HN4 HPL
    go_upto_block 2 with fail
    obtain ⟨I2, hI2⟩ : ∃ zz, Sort.scanUp (fun x => !ltN d3[a]! x) d3 j i = zz := ⟨_, rfl⟩
    have HI2 : Hid (Sort.scanUp (fun x => !ltN d3[a]! x) d3 j i = I2) := hI2
    have hI2b : i ≤ I2 ∧ (I2 ≤ j + 1 ∨ I2 = i) := by rw [← hI2]; exact scanUp_bd _ _ _ _
    clear hI2
    go_cut [9] (fun s wx => s = .int .i64 (I2 : Int) ∧ Hid (Turn [g] w wx ∧ SM wx g d3))
    case first => as_aux_lemma =>
      go_wp2_with fail
      go_loopw [9] (fun ii wr => ∃ pq : Nat, ii = .int .i64 (pq : Int) ∧ a < pq + 1 ∧ pq < n + 2 ∧ Hid (Turn [g] w wr ∧ SM wr g d3) ∧ Hid (Sort.scanUp (fun x => !ltN d3[a]! x) d3 j pq = I2)) (fun ii _ => j + 1 - (intOf ii).toNat)
      case atStart => exact ⟨i, rfl, by omega, by omega, HM6.out, HI2.out⟩
      case round =>
        obtain ⟨pq, rfl, hva, hv1, HMv, HEv⟩ := hrel
        clear HM6 HI2
        by_cases hmv : pq ≤ j
        · have hmI : ((pq : Int) ≤ (j : Int)) := by omega
          have hvn : pq < n := by omega
          have hvI : (pq : Int) < (n : Int) := by omega
          have han : a < n := by omega
          have haI : (a : Int) < (n : Int) := by omega
          have hcv := HMv.out.2.c pq (by rw [HN5.out]; omega)
          have hca := HMv.out.2.c a (by rw [HN5.out]; omega)
          obtain ⟨x, hxv⟩ : ∃ x, d3[pq]! = x := ⟨_, rfl⟩
          obtain ⟨y, hya⟩ : ∃ y, d3[a]! = y := ⟨_, rfl⟩
          have HXv := Lib.hid hxv
          have HXa := Lib.hid hya
          rw [hxv] at hcv
          rw [hya] at hca
          clear hxv hya
          have hfr := HMv.out.2.f
          have hl := HMv.out.2.lt (by rw [HN5.out]; omega)
          by_cases hxy : y < x
          · have hd : decide (y < x) = true := by simpa using hxy
            have HST : Hid (Sort.scanUp (fun x => !ltN d3[a]! x) d3 j pq = pq) := scanUp_stop2 (P := fun x => !ltN d3[a]! x) (d := d3) (show (fun x => !ltN d3[a]! x) d3[pq]! = false by simp only [HXv.out, HXa.out, ltN]; simpa using hxy)
            have HEI : Hid (pq = I2) := by show _ = _; rw [← HST.out]; exact HEv.out
            go_wp2_with fail
            go_quiet ((go_at_call 34; refine Calls.quiet_of_same ((less_any _ _ _).mono fun _ _ h => ⟨h.1, h.2.symm⟩)))
            have HMw : Hid (Turn [g] w (wr.drewN nq) ∧ SM (wr.drewN nq) g d3) := ⟨turn_drewN HMv.out.1 _, HMv.out.2.block rfl⟩
            clear hcv hca hfr hl HMv
            generalize wr.drewN nq = Wv at *
            go_wp2_with fail
            go_meet
            case rel => exact ⟨by rw [HEI.out], HMw.out⟩
          · have hd : decide (y < x) = false := by simpa using hxy
            have HST : Hid (Sort.scanUp (fun x => !ltN d3[a]! x) d3 j pq = Sort.scanUp (fun x => !ltN d3[a]! x) d3 j (pq + 1)) := scanUp_go (P := fun x => !ltN d3[a]! x) (d := d3) hmv (show (fun x => !ltN d3[a]! x) d3[pq]! = true by simp only [HXv.out, HXa.out, ltN]; simpa using hxy)
            go_wp2_with fail
            go_quiet ((go_at_call 34; refine Calls.quiet_of_same ((less_any _ _ _).mono fun _ _ h => ⟨h.1, h.2.symm⟩)))
            have HMw : Hid (Turn [g] w (wr.drewN nq) ∧ SM (wr.drewN nq) g d3) := ⟨turn_drewN HMv.out.1 _, HMv.out.2.block rfl⟩
            clear hcv hca hfr hl HMv
            generalize wr.drewN nq = Wv at *
            go_wp2_with fail
            go_roundw
            case rel => exact ⟨pq + 1, by simp, by omega, by omega, HMw.out, by rw [← HST.out]; exact HEv.out⟩
            case measure => simp [intOf]; omega
        · have hmI : (¬ (pq : Int) ≤ (j : Int)) := by omega
          have HEI : Hid (pq = I2) := by show _ = _; rw [← scanUp_stop1 hmv (P := fun x => !ltN d3[a]! x) (d := d3)]; exact HEv.out
          go_wp2_with fail
          go_quiet ((go_at_call 34; refine Calls.quiet_of_same ((less_any _ _ _).mono fun _ _ h => ⟨h.1, h.2.symm⟩)))
          have HMw : Hid (Turn [g] w (wr.drewN nq) ∧ SM (wr.drewN nq) g d3) := ⟨turn_drewN HMv.out.1 _, HMv.out.2.block rfl⟩
          clear  HMv
          generalize wr.drewN nq = Wv at *
          go_wp2_with fail
          go_meet
          case rel => exact ⟨by rw [HEI.out], HMw.out⟩
    case rest =>
    obtain ⟨rfl, HM7⟩ := hcut
    generalize wc = Wc at *
    clear HM6
    go_upto_block 4 with fail
    obtain ⟨J2, hJ2⟩ : ∃ zz, Sort.scanDown (fun x => ltN d3[a]! x) d3 I2 j = zz := ⟨_, rfl⟩
    have HJ2 : Hid (Sort.scanDown (fun x => ltN d3[a]! x) d3 I2 j = J2) := hJ2
    have hJ2b : J2 ≤ j ∧ (I2 ≤ J2 + 1 ∨ J2 = j) := by rw [← hJ2]; exact scanDown_bd _ _ _ _
    clear hJ2
    go_cut [10] (fun s wx => s = .int .i64 (J2 : Int) ∧ Hid (Turn [g] w wx ∧ SM wx g d3))
    case first => as_aux_lemma =>
      go_wp2_with fail
      go_loopw [10] (fun ii wr => ∃ pq : Nat, ii = .int .i64 (pq : Int) ∧ a < pq + 1 ∧ pq ≤ j ∧ Hid (Turn [g] w wr ∧ SM wr g d3) ∧ Hid (Sort.scanDown (fun x => ltN d3[a]! x) d3 I2 pq = J2)) (fun ii _ => (intOf ii).toNat)
      case atStart => exact ⟨j, rfl, by omega, by omega, HM7.out, HJ2.out⟩
      case round =>
        obtain ⟨pq, rfl, hva, hv1, HMv, HEv⟩ := hrel
        clear HM7 HJ2
        by_cases hmv : I2 ≤ pq
        · have hmI : ((I2 : Int) ≤ (pq : Int)) := by omega
          have hvn : pq < n := by omega
          have hvI : (pq : Int) < (n : Int) := by omega
          have han : a < n := by omega
          have haI : (a : Int) < (n : Int) := by omega
          have hcv := HMv.out.2.c pq (by rw [HN5.out]; omega)
          have hca := HMv.out.2.c a (by rw [HN5.out]; omega)
          obtain ⟨x, hxv⟩ : ∃ x, d3[pq]! = x := ⟨_, rfl⟩
          obtain ⟨y, hya⟩ : ∃ y, d3[a]! = y := ⟨_, rfl⟩
          have HXv := Lib.hid hxv
          have HXa := Lib.hid hya
          rw [hxv] at hcv
          rw [hya] at hca
          clear hxv hya
          have hfr := HMv.out.2.f
          have hl := HMv.out.2.lt (by rw [HN5.out]; omega)
          obtain ⟨v1, hv1e⟩ : ∃ v1, pq = v1 + 1 := ⟨pq - 1, by omega⟩
          have hsub : IntKind.i64.wrap ((pq : Int) - 1) = (v1 : Int) := by rw [IntWalk.i64_in _ (by omega)]; omega
          have HV1 := Lib.hid hv1e
          clear hv1e
          by_cases hxy : y < x
          · have hd : decide (y < x) = true := by simpa using hxy
            have HST : Hid (Sort.scanDown (fun x => ltN d3[a]! x) d3 I2 pq = Sort.scanDown (fun x => ltN d3[a]! x) d3 I2 v1) := by show _ = _; have h := HV1.out; have hp : (fun x => ltN d3[a]! x) d3[pq]! = true := (show (fun x => ltN d3[a]! x) d3[pq]! = true by simp only [HXv.out, HXa.out, ltN]; simpa using hxy); rw [h] at hp ⊢; exact scanDown_go (P := fun x => ltN d3[a]! x) (d := d3) (by omega) hp
            go_wp2_with fail
            go_quiet ((go_at_call 34; refine Calls.quiet_of_same ((less_any _ _ _).mono fun _ _ h => ⟨h.1, h.2.symm⟩)))
            have HMw : Hid (Turn [g] w (wr.drewN nq) ∧ SM (wr.drewN nq) g d3) := ⟨turn_drewN HMv.out.1 _, HMv.out.2.block rfl⟩
            clear hcv hca hfr hl HMv
            generalize wr.drewN nq = Wv at *
            go_wp2_with fail
            go_roundw
            case rel => exact ⟨v1, by first | rfl | exact congrArg (Value.int .i64) hsub | simp [hsub], by have := HV1.out; omega, by have := HV1.out; omega, HMw.out, by rw [← HST.out]; exact HEv.out⟩
            case measure => have := HV1.out; simp [intOf, hsub] <;> omega
          · have hd : decide (y < x) = false := by simpa using hxy
            have HST : Hid (Sort.scanDown (fun x => ltN d3[a]! x) d3 I2 pq = pq) := scanDown_stop2 (P := fun x => ltN d3[a]! x) (d := d3) (show (fun x => ltN d3[a]! x) d3[pq]! = false by simp only [HXv.out, HXa.out, ltN]; simpa using hxy)
            have HEI : Hid (pq = J2) := by show _ = _; rw [← HST.out]; exact HEv.out
            go_wp2_with fail
            go_quiet ((go_at_call 34; refine Calls.quiet_of_same ((less_any _ _ _).mono fun _ _ h => ⟨h.1, h.2.symm⟩)))
            have HMw : Hid (Turn [g] w (wr.drewN nq) ∧ SM (wr.drewN nq) g d3) := ⟨turn_drewN HMv.out.1 _, HMv.out.2.block rfl⟩
            clear hcv hca hfr hl HMv
            generalize wr.drewN nq = Wv at *
            go_wp2_with fail
            go_meet
            case rel => exact ⟨by rw [HEI.out], HMw.out⟩
        · have hmI : (¬ (I2 : Int) ≤ (pq : Int)) := by omega
          have HEI : Hid (pq = J2) := by show _ = _; rw [← scanDown_stop1 hmv (P := fun x => ltN d3[a]! x) (d := d3)]; exact HEv.out
          go_wp2_with fail
          go_quiet ((go_at_call 34; refine Calls.quiet_of_same ((less_any _ _ _).mono fun _ _ h => ⟨h.1, h.2.symm⟩)))
          have HMw : Hid (Turn [g] w (wr.drewN nq) ∧ SM (wr.drewN nq) g d3) := ⟨turn_drewN HMv.out.1 _, HMv.out.2.block rfl⟩
          clear  HMv
          generalize wr.drewN nq = Wv at *
          go_wp2_with fail
          go_meet
          case rel => exact ⟨by rw [HEI.out], HMw.out⟩
    case rest =>
    obtain ⟨rfl, HM8⟩ := hcut
    generalize wc = Wd at *
    clear HM7
    have hJn2 : J2 < n := by omega
    have hJI2 : (J2 : Int) < (n : Int) := by omega
    by_cases hIJ2 : J2 < I2
    · have hIJI2 : (J2 : Int) < (I2 : Int) := by omega
      have HD : Hid (PL = (I2, d3)) := by show _ = _; rw [← HE6.out, partEq_loop HI2.out HJ2.out, if_pos hIJ2]
      clear HE6 HI2 HJ2
      go_wp2_with fail
      go_ret
      exact ⟨by rw [HD.out]; rfl, HM8.out.1, by rw [HD.out]; exact HM8.out.2⟩
    · have hIJI2 : ¬ (J2 : Int) < (I2 : Int) := by omega
      have HD : Hid (Sort.partEqLoop ltN a (I2 + 1) (J2 - 1) (Sort.swp d3 I2 J2) = PL) := by show _ = _; rw [← HE6.out, partEq_loop HI2.out HJ2.out, if_neg hIJ2]
      obtain ⟨J3, hJ3⟩ : ∃ k, J2 - 1 = k := ⟨_, rfl⟩
      rw [hJ3] at HD
      have hs4 : IntKind.i64.wrap ((J2 : Int) - 1) = (J3 : Int) := by rw [IntWalk.i64_in _ (by omega)]; omega
      have hI6 : (I2 : Int) < (n : Int) := by omega
      have hI7 : I2 < n := by omega
      have HJ3 := Lib.hid hJ3
      clear HE6 HI2 HJ2 hJ3
      go_upto_region 8 with fail
      have hca := HM8.out.2.c I2 (by rw [HN5.out]; omega)
      obtain ⟨x, hxa⟩ : ∃ x, d3[I2]! = x := ⟨_, rfl⟩
      have HXa := Lib.hid hxa
      rw [hxa] at hca
      clear hxa hca
      have hcb := HM8.out.2.c J2 (by rw [HN5.out]; omega)
      obtain ⟨y, hxb⟩ : ∃ x, d3[J2]! = x := ⟨_, rfl⟩
      have HXb := Lib.hid hxb
      rw [hxb] at hcb
      clear hxb hcb
      have hci := HM8.out.2.c I2 (by rw [HN5.out]; omega)
      have hcj := HM8.out.2.c J2 (by rw [HN5.out]; omega)
      rw [HXa.out] at hci
      rw [HXb.out] at hcj
      have hfr := HM8.out.2.f
      have hl := HM8.out.2.lt (by rw [HN5.out]; omega)
      obtain ⟨zm, hmid⟩ := HM8.out.2.mid I2 J2 y (by rw [HN5.out]; omega) (by rw [HN5.out]; omega)
      have HS : Hid (Turn [g] w ((((Wd.setCell ⟨g, I2, none⟩ (.int .u64 (y : Int))).setCell ⟨g, J2, none⟩ (.int .u64 (x : Int)))).drew) ∧ SM ((((Wd.setCell ⟨g, I2, none⟩ (.int .u64 (y : Int))).setCell ⟨g, J2, none⟩ (.int .u64 (x : Int)))).drew) g (Sort.swp d3 I2 J2)) := by
        have h := HM8.out.2.swap I2 J2 (by rw [HN5.out]; omega) (by rw [HN5.out]; omega)
        rw [HXa.out, HXb.out] at h
        exact ⟨(HM8.out.1.trans ((Turn.setCell g I2 _ _).trans (Turn.setCell g J2 _ _))).trans ⟨rfl, rfl, rfl, Nat.le_refl _, fun _ _ _ => rfl⟩, h.block rfl⟩
      go_wp2_with fail
      go_region
      clear hci hcj hfr hl hmid HM8
      generalize (((Wd.setCell ⟨g, I2, none⟩ (.int .u64 (y : Int))).setCell ⟨g, J2, none⟩ (.int .u64 (x : Int)))).drew = W9 at *
      go_wp2_with fail
      go_roundw
      case rel => exact ⟨I2 + 1, J3, _, by simp, by first | rfl | simp [hs4], by omega, by have := HJ3.out; omega, by have := HJ3.out; omega, by have := HJ3.out; omega, by show _ = _; rw [swp_size]; exact HN5.out, HS.out, HD.out⟩
      case measure => have := HJ3.out; simp [intOf, hs4]; omega
end Go.Proofs.Ytmdhlpnieimdaaa
