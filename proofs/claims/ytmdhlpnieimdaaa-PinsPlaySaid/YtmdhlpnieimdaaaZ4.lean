/- partition at words. -/
import Derived.Test.YtmdhlpnieimdaaaZ3
import Derived.Deep.CutBlock
import Derived.Deep.DeepCutAuto
namespace Go.Proofs.Ytmdhlpnieimdaaa
open Go.RowKit

section
variable {P : Nat → Bool} {d : Array Nat} {i j : Nat}
theorem scanUp_go (h : i ≤ j) (hp : P d[i]! = true) : Sort.scanUp P d j i = Sort.scanUp P d j (i + 1) := by rw [Sort.scanUp, if_pos (by simp only [h, decide_true, Bool.true_and]; exact hp)]
theorem scanUp_stop1 (h : ¬ i ≤ j) : Sort.scanUp P d j i = i := by rw [Sort.scanUp, if_neg (by simp only [h, decide_false, Bool.false_and]; decide)]
theorem scanUp_stop2 (hp : P d[i]! = false) : Sort.scanUp P d j i = i := by rw [Sort.scanUp, if_neg (by rw [hp, Bool.and_false]; decide)]
theorem scanDown_go {v : Nat} (h : i ≤ v + 1) (hp : P d[v + 1]! = true) : Sort.scanDown P d i (v + 1) = Sort.scanDown P d i v := by rw [Sort.scanDown, if_pos (by simp only [h, decide_true, Bool.true_and]; exact hp)]
theorem scanDown_stop1 (h : ¬ i ≤ j) : Sort.scanDown P d i j = j := by
  cases j with
  | zero => rfl
  | succ v => rw [Sort.scanDown, if_neg (by simp only [h, decide_false, Bool.false_and]; decide)]
theorem scanDown_stop2 (hp : P d[j]! = false) : Sort.scanDown P d i j = j := by
  cases j with
  | zero => rfl
  | succ v => rw [Sort.scanDown, if_neg (by rw [hp, Bool.and_false]; decide)]
end
theorem scanUp_bdk (P : Nat → Bool) (d : Array Nat) (j : Nat) : ∀ (m i : Nat), j + 1 - i ≤ m → i ≤ Sort.scanUp P d j i ∧ (Sort.scanUp P d j i ≤ j + 1 ∨ Sort.scanUp P d j i = i)
  | 0, i, h => by rw [scanUp_stop1 (by omega)]; exact ⟨Nat.le_refl _, .inr rfl⟩
  | m + 1, i, h => by
    by_cases h1 : i ≤ j
    · cases h2 : P d[i]! with
      | true =>
        rw [scanUp_go h1 h2]
        have := scanUp_bdk P d j m (i + 1) (by omega)
        omega
      | false => rw [scanUp_stop2 h2]; exact ⟨Nat.le_refl _, .inr rfl⟩
    · rw [scanUp_stop1 h1]; exact ⟨Nat.le_refl _, .inr rfl⟩
theorem scanUp_bd (P : Nat → Bool) (d : Array Nat) (j i : Nat) : i ≤ Sort.scanUp P d j i ∧ (Sort.scanUp P d j i ≤ j + 1 ∨ Sort.scanUp P d j i = i) := scanUp_bdk P d j _ i (Nat.le_refl _)
theorem scanDown_bd (P : Nat → Bool) (d : Array Nat) (i : Nat) : ∀ j, Sort.scanDown P d i j ≤ j ∧ (i ≤ Sort.scanDown P d i j + 1 ∨ Sort.scanDown P d i j = j)
  | 0 => ⟨Nat.le_refl _, .inr rfl⟩
  | v + 1 => by
    by_cases h1 : i ≤ v + 1
    · cases h2 : P d[v + 1]! with
      | true =>
        rw [scanDown_go h1 h2]
        have := scanDown_bd P d i v
        omega
      | false => rw [scanDown_stop2 h2]; exact ⟨Nat.le_refl _, .inr rfl⟩
    · rw [scanDown_stop1 h1]; exact ⟨Nat.le_refl _, .inr rfl⟩
theorem part_loop {a i j I J : Nat} {d : Array Nat} (hI : Sort.scanUp (fun x => ltN x d[a]!) d j i = I) (hJ : Sort.scanDown (fun x => !ltN x d[a]!) d I j = J) : Sort.partLoop ltN a i j d = if I > J then (J, d) else Sort.partLoop ltN a (I + 1) (J - 1) (Sort.swp d I J) := by
  have h1 := scanUp_bd (fun x => ltN x d[a]!) d j i
  have h2 := scanDown_bd (fun x => !ltN x d[a]!) d I j
  rw [hI] at h1
  rw [hJ] at h2
  rw [Sort.partLoop]
  simp only [hI, hJ]
  by_cases h : I > J
  · rw [if_pos h, if_pos h]
  · rw [if_neg h, if_neg h, dif_pos (by omega)]
set_option maxRecDepth 100000 in
set_option maxHeartbeats 16000000 in
theorem part_any (g n a b pv cap : Nat) (d : Array Nat) (w : World) (h : SM w g d) (hn : d.size = n) (hap : a ≤ pv) (hpb : pv < b) (hb : b ≤ n) (hn2 : n ≤ 900) :
    Calls Try.prog 36 #[.slice (some ⟨g, 0, none⟩) n cap, .int .i64 (a : Int), .int .i64 (b : Int), .int .i64 (pv : Int)] w fun e w' => e = .returned (.tuple #[.int .i64 ((Sort.partition ltN d a b pv).1 : Nat), .bool (Sort.partition ltN d a b pv).2.1]) ∧ Turn [g] w w' ∧ SM w' g (Sort.partition ltN d a b pv).2.2 := by
  have HM2 : Hid (Turn [g] w w ∧ SM w g d) := ⟨Turn.refl _ _, h⟩
  have HN2 := Lib.hid hn
  obtain ⟨R, hR⟩ : ∃ R, Sort.partition ltN d a b pv = R := ⟨_, rfl⟩
  rw [hR]
  have HR : Hid ((let i := Sort.scanUp (fun x => ltN x (Sort.swp d a pv)[a]!) (Sort.swp d a pv) (b - 1) (a + 1); let j := Sort.scanDown (fun x => !ltN x (Sort.swp d a pv)[a]!) (Sort.swp d a pv) i (b - 1); if i > j then (j, true, Sort.swp (Sort.swp d a pv) j a) else ((Sort.partLoop ltN a (i + 1) (j - 1) (Sort.swp (Sort.swp d a pv) i j)).1, false, Sort.swp (Sort.partLoop ltN a (i + 1) (j - 1) (Sort.swp (Sort.swp d a pv) i j)).2 (Sort.partLoop ltN a (i + 1) (j - 1) (Sort.swp (Sort.swp d a pv) i j)).1 a)) = R) := hR
  obtain ⟨b1, hb1⟩ : ∃ k, b - 1 = k := ⟨_, rfl⟩
  obtain ⟨a1, ha1⟩ : ∃ k, a + 1 = k := ⟨_, rfl⟩
  rw [hb1, ha1] at HR
  have hs1 : IntKind.i64.wrap ((b : Int) - 1) = (b1 : Int) := by rw [IntWalk.i64_in _ (by omega)]; omega
  have hs2 : IntKind.i64.wrap ((a : Int) + 1) = (a1 : Int) := by rw [IntWalk.i64_in _ (by omega)]; omega
  have hq1 : (a : Int) < (n : Int) := by omega
  have hq2 : (pv : Int) < (n : Int) := by omega
  have hq3 : a < n := by omega
  have hq4 : pv < n := by omega
  have hbb : b1 < n ∧ a ≤ b1 := by omega
  have hab : a < a1 ∧ a1 ≤ b1 + 1 := by omega
  have HA1 := Lib.hid ha1
  have HB1 := Lib.hid hb1
  clear h hR hn hb1 ha1
  go_enter Try.func36, Try.ntmps36
  go_upto_region 1 with fail
  have hca := HM2.out.2.c a (by rw [HN2.out]; omega)
  obtain ⟨x, hxa⟩ : ∃ x, d[a]! = x := ⟨_, rfl⟩
  have HXa := Lib.hid hxa
  rw [hxa] at hca
  clear hxa hca
  have hcb := HM2.out.2.c pv (by rw [HN2.out]; omega)
  obtain ⟨y, hxb⟩ : ∃ x, d[pv]! = x := ⟨_, rfl⟩
  have HXb := Lib.hid hxb
  rw [hxb] at hcb
  clear hxb hcb
  have hci := HM2.out.2.c a (by rw [HN2.out]; omega)
  have hcj := HM2.out.2.c pv (by rw [HN2.out]; omega)
  rw [HXa.out] at hci
  rw [HXb.out] at hcj
  have hfr := HM2.out.2.f
  have hl := HM2.out.2.lt (by rw [HN2.out]; omega)
  obtain ⟨zm, hmid⟩ := HM2.out.2.mid a pv y (by rw [HN2.out]; omega) (by rw [HN2.out]; omega)
  have HM3 : Hid (Turn [g] w ((((w.setCell ⟨g, a, none⟩ (.int .u64 (y : Int))).setCell ⟨g, pv, none⟩ (.int .u64 (x : Int)))).drew) ∧ SM ((((w.setCell ⟨g, a, none⟩ (.int .u64 (y : Int))).setCell ⟨g, pv, none⟩ (.int .u64 (x : Int)))).drew) g (Sort.swp d a pv)) := by
    have h := HM2.out.2.swap a pv (by rw [HN2.out]; omega) (by rw [HN2.out]; omega)
    rw [HXa.out, HXb.out] at h
    exact ⟨(HM2.out.1.trans ((Turn.setCell g a _ _).trans (Turn.setCell g pv _ _))).trans ⟨rfl, rfl, rfl, Nat.le_refl _, fun _ _ _ => rfl⟩, h.block rfl⟩
  go_wp2_with fail
  go_region
  clear hci hcj hfr hl hmid HM2
  generalize (((w.setCell ⟨g, a, none⟩ (.int .u64 (y : Int))).setCell ⟨g, pv, none⟩ (.int .u64 (x : Int)))).drew = W9 at *
  have HN3 : Hid ((Sort.swp d a pv).size = n) := by show _ = _; rw [swp_size]; exact HN2.out
  clear HN2 HXa HXb
  generalize Sort.swp d a pv = d2 at *
  go_upto_block 0 with fail
  obtain ⟨I, hI⟩ : ∃ zz, Sort.scanUp (fun x => ltN x d2[a]!) d2 b1 a1 = zz := ⟨_, rfl⟩
  have HI : Hid (Sort.scanUp (fun x => ltN x d2[a]!) d2 b1 a1 = I) := hI
  have hIb : a1 ≤ I ∧ (I ≤ b1 + 1 ∨ I = a1) := by rw [← hI]; exact scanUp_bd _ _ _ _
  clear hI
  go_cut [10] (fun s wx => s = .int .i64 (I : Int) ∧ Hid (Turn [g] w wx ∧ SM wx g d2))
  case first => as_aux_lemma =>
    go_wp2_with fail
    go_loopw [10] (fun ii wr => ∃ p : Nat, ii = .int .i64 (p : Int) ∧ a < p + 1 ∧ p < n + 2 ∧ Hid (Turn [g] w wr ∧ SM wr g d2) ∧ Hid (Sort.scanUp (fun x => ltN x d2[a]!) d2 b1 p = I)) (fun ii _ => b1 + 1 - (intOf ii).toNat)
    case atStart => exact ⟨a1, rfl, by omega, by omega, HM3.out, HI.out⟩
    case round =>
      obtain ⟨p, rfl, hva, hv1, HMv, HEv⟩ := hrel
      clear HM3 HI
      by_cases hmv : p ≤ b1
      · have hmI : ((p : Int) ≤ (b1 : Int)) := by omega
        have hvn : p < n := by omega
        have hvI : (p : Int) < (n : Int) := by omega
        have han : a < n := by omega
        have haI : (a : Int) < (n : Int) := by omega
        have hcv := HMv.out.2.c p (by rw [HN3.out]; omega)
        have hca := HMv.out.2.c a (by rw [HN3.out]; omega)
        obtain ⟨x, hxv⟩ : ∃ x, d2[p]! = x := ⟨_, rfl⟩
        obtain ⟨y, hya⟩ : ∃ y, d2[a]! = y := ⟨_, rfl⟩
        have HXv := Lib.hid hxv
        have HXa := Lib.hid hya
        rw [hxv] at hcv
        rw [hya] at hca
        clear hxv hya
        have hfr := HMv.out.2.f
        have hl := HMv.out.2.lt (by rw [HN3.out]; omega)
        by_cases hxy : x < y
        · have hd : decide (x < y) = true := by simpa using hxy
          have HST : Hid (Sort.scanUp (fun x => ltN x d2[a]!) d2 b1 p = Sort.scanUp (fun x => ltN x d2[a]!) d2 b1 (p + 1)) := scanUp_go (P := fun x => ltN x d2[a]!) (d := d2) hmv (show (fun x => ltN x d2[a]!) d2[p]! = true by simp only [HXv.out, HXa.out, ltN]; simpa using hxy)
          go_wp2_with fail
          go_quiet ((go_at_call 34; refine Calls.quiet_of_same ((less_any _ _ _).mono fun _ _ h => ⟨h.1, h.2.symm⟩)))
          have HMw : Hid (Turn [g] w (wr.drewN nq) ∧ SM (wr.drewN nq) g d2) := ⟨turn_drewN HMv.out.1 _, HMv.out.2.block rfl⟩
          clear hcv hca hfr hl HMv
          generalize wr.drewN nq = Wv at *
          go_wp2_with fail
          go_roundw
          case rel => exact ⟨p + 1, by simp, by omega, by omega, HMw.out, by rw [← HST.out]; exact HEv.out⟩
          case measure => simp [intOf]; omega
        · have hd : decide (x < y) = false := by simpa using hxy
          have HST : Hid (Sort.scanUp (fun x => ltN x d2[a]!) d2 b1 p = p) := scanUp_stop2 (P := fun x => ltN x d2[a]!) (d := d2) (show (fun x => ltN x d2[a]!) d2[p]! = false by simp only [HXv.out, HXa.out, ltN]; simpa using hxy)
          have HEI : Hid (p = I) := by show _ = _; rw [← HST.out]; exact HEv.out
          go_wp2_with fail
          go_quiet ((go_at_call 34; refine Calls.quiet_of_same ((less_any _ _ _).mono fun _ _ h => ⟨h.1, h.2.symm⟩)))
          have HMw : Hid (Turn [g] w (wr.drewN nq) ∧ SM (wr.drewN nq) g d2) := ⟨turn_drewN HMv.out.1 _, HMv.out.2.block rfl⟩
          clear hcv hca hfr hl HMv
          generalize wr.drewN nq = Wv at *
          go_wp2_with fail
          go_meet
          case rel => exact ⟨by rw [HEI.out], HMw.out⟩
      · have hmI : (¬ (p : Int) ≤ (b1 : Int)) := by omega
        have HEI : Hid (p = I) := by show _ = _; rw [← scanUp_stop1 hmv (P := fun x => ltN x d2[a]!) (d := d2)]; exact HEv.out
        go_wp2_with fail
        go_quiet ((go_at_call 34; refine Calls.quiet_of_same ((less_any _ _ _).mono fun _ _ h => ⟨h.1, h.2.symm⟩)))
        have HMw : Hid (Turn [g] w (wr.drewN nq) ∧ SM (wr.drewN nq) g d2) := ⟨turn_drewN HMv.out.1 _, HMv.out.2.block rfl⟩
        clear  HMv
        generalize wr.drewN nq = Wv at *
        go_wp2_with fail
        go_meet
        case rel => exact ⟨by rw [HEI.out], HMw.out⟩
  case rest =>
  obtain ⟨rfl, HM4⟩ := hcut
  generalize wc = Wa at *
  clear HM3
  go_upto_block 2 with fail
  obtain ⟨J, hJ⟩ : ∃ zz, Sort.scanDown (fun x => !ltN x d2[a]!) d2 I b1 = zz := ⟨_, rfl⟩
  have HJ : Hid (Sort.scanDown (fun x => !ltN x d2[a]!) d2 I b1 = J) := hJ
  have hJb : J ≤ b1 ∧ (I ≤ J + 1 ∨ J = b1) := by rw [← hJ]; exact scanDown_bd _ _ _ _
  clear hJ
  go_cut [11] (fun s wx => s = .int .i64 (J : Int) ∧ Hid (Turn [g] w wx ∧ SM wx g d2))
  case first => as_aux_lemma =>
    go_wp2_with fail
    go_loopw [11] (fun ii wr => ∃ p : Nat, ii = .int .i64 (p : Int) ∧ a < p + 1 ∧ p ≤ b1 ∧ Hid (Turn [g] w wr ∧ SM wr g d2) ∧ Hid (Sort.scanDown (fun x => !ltN x d2[a]!) d2 I p = J)) (fun ii _ => (intOf ii).toNat)
    case atStart => exact ⟨b1, rfl, by omega, by omega, HM4.out, HJ.out⟩
    case round =>
      obtain ⟨p, rfl, hva, hv1, HMv, HEv⟩ := hrel
      clear HM4 HJ
      by_cases hmv : I ≤ p
      · have hmI : ((I : Int) ≤ (p : Int)) := by omega
        have hvn : p < n := by omega
        have hvI : (p : Int) < (n : Int) := by omega
        have han : a < n := by omega
        have haI : (a : Int) < (n : Int) := by omega
        have hcv := HMv.out.2.c p (by rw [HN3.out]; omega)
        have hca := HMv.out.2.c a (by rw [HN3.out]; omega)
        obtain ⟨x, hxv⟩ : ∃ x, d2[p]! = x := ⟨_, rfl⟩
        obtain ⟨y, hya⟩ : ∃ y, d2[a]! = y := ⟨_, rfl⟩
        have HXv := Lib.hid hxv
        have HXa := Lib.hid hya
        rw [hxv] at hcv
        rw [hya] at hca
        clear hxv hya
        have hfr := HMv.out.2.f
        have hl := HMv.out.2.lt (by rw [HN3.out]; omega)
        obtain ⟨v1, hv1e⟩ : ∃ v1, p = v1 + 1 := ⟨p - 1, by omega⟩
        have hsub : IntKind.i64.wrap ((p : Int) - 1) = (v1 : Int) := by rw [IntWalk.i64_in _ (by omega)]; omega
        have HV1 := Lib.hid hv1e
        clear hv1e
        by_cases hxy : x < y
        · have hd : decide (x < y) = true := by simpa using hxy
          have HST : Hid (Sort.scanDown (fun x => !ltN x d2[a]!) d2 I p = p) := scanDown_stop2 (P := fun x => !ltN x d2[a]!) (d := d2) (show (fun x => !ltN x d2[a]!) d2[p]! = false by simp only [HXv.out, HXa.out, ltN]; simpa using hxy)
          have HEI : Hid (p = J) := by show _ = _; rw [← HST.out]; exact HEv.out
          go_wp2_with fail
          go_quiet ((go_at_call 34; refine Calls.quiet_of_same ((less_any _ _ _).mono fun _ _ h => ⟨h.1, h.2.symm⟩)))
          have HMw : Hid (Turn [g] w (wr.drewN nq) ∧ SM (wr.drewN nq) g d2) := ⟨turn_drewN HMv.out.1 _, HMv.out.2.block rfl⟩
          clear hcv hca hfr hl HMv
          generalize wr.drewN nq = Wv at *
          go_wp2_with fail
          go_meet
          case rel => exact ⟨by rw [HEI.out], HMw.out⟩
        · have hd : decide (x < y) = false := by simpa using hxy
          have HST : Hid (Sort.scanDown (fun x => !ltN x d2[a]!) d2 I p = Sort.scanDown (fun x => !ltN x d2[a]!) d2 I v1) := by show _ = _; have h := HV1.out; have hp : (fun x => !ltN x d2[a]!) d2[p]! = true := (show (fun x => !ltN x d2[a]!) d2[p]! = true by simp only [HXv.out, HXa.out, ltN]; simpa using hxy); rw [h] at hp ⊢; exact scanDown_go (P := fun x => !ltN x d2[a]!) (d := d2) (by omega) hp
          go_wp2_with fail
          go_quiet ((go_at_call 34; refine Calls.quiet_of_same ((less_any _ _ _).mono fun _ _ h => ⟨h.1, h.2.symm⟩)))
          have HMw : Hid (Turn [g] w (wr.drewN nq) ∧ SM (wr.drewN nq) g d2) := ⟨turn_drewN HMv.out.1 _, HMv.out.2.block rfl⟩
          clear hcv hca hfr hl HMv
          generalize wr.drewN nq = Wv at *
          go_wp2_with fail
          go_roundw
          case rel => exact ⟨v1, by first | rfl | exact congrArg (Value.int .i64) hsub | simp [hsub], by have := HV1.out; omega, by have := HV1.out; omega, HMw.out, by rw [← HST.out]; exact HEv.out⟩
          case measure => have := HV1.out; simp [intOf, hsub] <;> omega
      · have hmI : (¬ (I : Int) ≤ (p : Int)) := by omega
        have HEI : Hid (p = J) := by show _ = _; rw [← scanDown_stop1 hmv (P := fun x => !ltN x d2[a]!) (d := d2)]; exact HEv.out
        go_wp2_with fail
        go_quiet ((go_at_call 34; refine Calls.quiet_of_same ((less_any _ _ _).mono fun _ _ h => ⟨h.1, h.2.symm⟩)))
        have HMw : Hid (Turn [g] w (wr.drewN nq) ∧ SM (wr.drewN nq) g d2) := ⟨turn_drewN HMv.out.1 _, HMv.out.2.block rfl⟩
        clear  HMv
        generalize wr.drewN nq = Wv at *
        go_wp2_with fail
        go_meet
        case rel => exact ⟨by rw [HEI.out], HMw.out⟩
  case rest =>
  obtain ⟨rfl, HM5⟩ := hcut
  generalize wc = Wb at *
  clear HM4
  have hJn : J < n := by omega
  have hJI : (J : Int) < (n : Int) := by omega
  by_cases hIJ : J < I
  · have hIJI : (J : Int) < (I : Int) := by omega
    have HRR : Hid ((J, true, Sort.swp d2 J a) = R) := by
      show _ = _
      have h := HR.out
      simp only [HI.out, HJ.out] at h
      rwa [if_pos hIJ] at h
    clear HR HI HJ
    go_upto_region 8 with fail
    have hca := HM5.out.2.c J (by rw [HN3.out]; omega)
    obtain ⟨x, hxa⟩ : ∃ x, d2[J]! = x := ⟨_, rfl⟩
    have HXa := Lib.hid hxa
    rw [hxa] at hca
    clear hxa hca
    have hcb := HM5.out.2.c a (by rw [HN3.out]; omega)
    obtain ⟨y, hxb⟩ : ∃ x, d2[a]! = x := ⟨_, rfl⟩
    have HXb := Lib.hid hxb
    rw [hxb] at hcb
    clear hxb hcb
    have hci := HM5.out.2.c J (by rw [HN3.out]; omega)
    have hcj := HM5.out.2.c a (by rw [HN3.out]; omega)
    rw [HXa.out] at hci
    rw [HXb.out] at hcj
    have hfr := HM5.out.2.f
    have hl := HM5.out.2.lt (by rw [HN3.out]; omega)
    obtain ⟨zm, hmid⟩ := HM5.out.2.mid J a y (by rw [HN3.out]; omega) (by rw [HN3.out]; omega)
    have HS : Hid (Turn [g] w ((((Wb.setCell ⟨g, J, none⟩ (.int .u64 (y : Int))).setCell ⟨g, a, none⟩ (.int .u64 (x : Int)))).drew) ∧ SM ((((Wb.setCell ⟨g, J, none⟩ (.int .u64 (y : Int))).setCell ⟨g, a, none⟩ (.int .u64 (x : Int)))).drew) g (Sort.swp d2 J a)) := by
      have h := HM5.out.2.swap J a (by rw [HN3.out]; omega) (by rw [HN3.out]; omega)
      rw [HXa.out, HXb.out] at h
      exact ⟨(HM5.out.1.trans ((Turn.setCell g J _ _).trans (Turn.setCell g a _ _))).trans ⟨rfl, rfl, rfl, Nat.le_refl _, fun _ _ _ => rfl⟩, h.block rfl⟩
    go_wp2_with fail
    go_region
    clear hci hcj hfr hl hmid HM5
    generalize (((Wb.setCell ⟨g, J, none⟩ (.int .u64 (y : Int))).setCell ⟨g, a, none⟩ (.int .u64 (x : Int)))).drew = W9 at *
    go_wp2_with fail
    refine bodyPost_ret (results_tmp2 rfl _ _ _) rfl ?_
    exact ⟨by rw [← HRR.out]; rfl, HS.out.1, by rw [← HRR.out]; exact HS.out.2⟩
  · have hIJI : ¬ (J : Int) < (I : Int) := by omega
    obtain ⟨PL, hPL⟩ : ∃ PL, Sort.partLoop ltN a (I + 1) (J - 1) (Sort.swp d2 I J) = PL := ⟨_, rfl⟩
    have HRR : Hid ((PL.1, false, Sort.swp PL.2 PL.1 a) = R) := by
      show _ = _
      have h := HR.out
      simp only [HI.out, HJ.out] at h
      rw [if_neg hIJ, hPL] at h
      exact h
    obtain ⟨J1, hJ1⟩ : ∃ k, J - 1 = k := ⟨_, rfl⟩
    rw [hJ1] at hPL
    have HPL := Lib.hid hPL
    have hs3 : IntKind.i64.wrap ((J : Int) - 1) = (J1 : Int) := by rw [IntWalk.i64_in _ (by omega)]; omega
    have hI4 : (I : Int) < (n : Int) := by omega
    have hI5 : I < n := by omega
    have HJ1 := Lib.hid hJ1
    clear HR HI HJ hPL hJ1
    go_upto_region 10 with fail
    have hca := HM5.out.2.c I (by rw [HN3.out]; omega)
    obtain ⟨x, hxa⟩ : ∃ x, d2[I]! = x := ⟨_, rfl⟩
    have HXa := Lib.hid hxa
    rw [hxa] at hca
    clear hxa hca
    have hcb := HM5.out.2.c J (by rw [HN3.out]; omega)
    obtain ⟨y, hxb⟩ : ∃ x, d2[J]! = x := ⟨_, rfl⟩
    have HXb := Lib.hid hxb
    rw [hxb] at hcb
    clear hxb hcb
    have hci := HM5.out.2.c I (by rw [HN3.out]; omega)
    have hcj := HM5.out.2.c J (by rw [HN3.out]; omega)
    rw [HXa.out] at hci
    rw [HXb.out] at hcj
    have hfr := HM5.out.2.f
    have hl := HM5.out.2.lt (by rw [HN3.out]; omega)
    obtain ⟨zm, hmid⟩ := HM5.out.2.mid I J y (by rw [HN3.out]; omega) (by rw [HN3.out]; omega)
    have HS : Hid (Turn [g] w ((((Wb.setCell ⟨g, I, none⟩ (.int .u64 (y : Int))).setCell ⟨g, J, none⟩ (.int .u64 (x : Int)))).drew) ∧ SM ((((Wb.setCell ⟨g, I, none⟩ (.int .u64 (y : Int))).setCell ⟨g, J, none⟩ (.int .u64 (x : Int)))).drew) g (Sort.swp d2 I J)) := by
      have h := HM5.out.2.swap I J (by rw [HN3.out]; omega) (by rw [HN3.out]; omega)
      rw [HXa.out, HXb.out] at h
      exact ⟨(HM5.out.1.trans ((Turn.setCell g I _ _).trans (Turn.setCell g J _ _))).trans ⟨rfl, rfl, rfl, Nat.le_refl _, fun _ _ _ => rfl⟩, h.block rfl⟩
    go_wp2_with fail
    go_region
    clear hci hcj hfr hl hmid HM5
    generalize (((Wb.setCell ⟨g, I, none⟩ (.int .u64 (y : Int))).setCell ⟨g, J, none⟩ (.int .u64 (x : Int)))).drew = W9 at *
    have HN4 : Hid ((Sort.swp d2 I J).size = n) := by show _ = _; rw [swp_size]; exact HN3.out
    clear HXa HXb HN3
    go_wp2_with fail
    go_loopw [10, 11] (fun ii jj wr => ∃ (i j : Nat) (d3 : Array Nat), ii = .int .i64 (i : Int) ∧ jj = .int .i64 (j : Int) ∧ a < i ∧ a ≤ j ∧ j < n ∧ i ≤ j + 2 ∧ Hid (d3.size = n) ∧ Hid (Turn [g] w wr ∧ SM wr g d3) ∧ Hid (Sort.partLoop ltN a i j d3 = PL)) (fun ii jj _ => (intOf jj).toNat + 1 - (intOf ii).toNat)
    case atStart => exact ⟨I + 1, J1, _, by simp, by first | rfl | simp [hs3], by omega, by have := HJ1.out; omega, by have := HJ1.out; omega, by have := HJ1.out; omega, HN4.out, HS.out, HPL.out⟩
    case round =>
      obtain ⟨i, j, d3, rfl, rfl, hai, haj, hjn, hij2, HN5, HM6, HE6⟩ := hrel
      clear HS HN4 HPL
      go_upto_block 6 with fail
      obtain ⟨I2, hI2⟩ : ∃ zz, Sort.scanUp (fun x => ltN x d3[a]!) d3 j i = zz := ⟨_, rfl⟩
      have HI2 : Hid (Sort.scanUp (fun x => ltN x d3[a]!) d3 j i = I2) := hI2
      have hI2b : i ≤ I2 ∧ (I2 ≤ j + 1 ∨ I2 = i) := by rw [← hI2]; exact scanUp_bd _ _ _ _
      clear hI2
      go_cut [10] (fun s wx => s = .int .i64 (I2 : Int) ∧ Hid (Turn [g] w wx ∧ SM wx g d3))
      case first => as_aux_lemma =>
        go_wp2_with fail
        go_loopw [10] (fun ii wr => ∃ pq : Nat, ii = .int .i64 (pq : Int) ∧ a < pq + 1 ∧ pq < n + 2 ∧ Hid (Turn [g] w wr ∧ SM wr g d3) ∧ Hid (Sort.scanUp (fun x => ltN x d3[a]!) d3 j pq = I2)) (fun ii _ => j + 1 - (intOf ii).toNat)
        case atStart => exact ⟨i, rfl, by omega, by omega, HM6.out, HI2.out⟩
        case round =>
          obtain ⟨pq, rfl, hva, hv1, HMv, HEv⟩ := hrel
          clear HM6 HI2
          by_cases hmv : pq ≤ j
          · have hmI : ((pq : Int) ≤ (j : Int)) := by omega
            have hvn : pq < n := by omega
            have hvI : (pq : Int) < (n : Int) := by omega
            have han : a < n := by omega
            have haI : (a : Int) < (n : Int) := by omega
            have hcv := HMv.out.2.c pq (by rw [HN5.out]; omega)
            have hca := HMv.out.2.c a (by rw [HN5.out]; omega)
            obtain ⟨x, hxv⟩ : ∃ x, d3[pq]! = x := ⟨_, rfl⟩
            obtain ⟨y, hya⟩ : ∃ y, d3[a]! = y := ⟨_, rfl⟩
            have HXv := Lib.hid hxv
            have HXa := Lib.hid hya
            rw [hxv] at hcv
            rw [hya] at hca
            clear hxv hya
            have hfr := HMv.out.2.f
            have hl := HMv.out.2.lt (by rw [HN5.out]; omega)
            by_cases hxy : x < y
            · have hd : decide (x < y) = true := by simpa using hxy
              have HST : Hid (Sort.scanUp (fun x => ltN x d3[a]!) d3 j pq = Sort.scanUp (fun x => ltN x d3[a]!) d3 j (pq + 1)) := scanUp_go (P := fun x => ltN x d3[a]!) (d := d3) hmv (show (fun x => ltN x d3[a]!) d3[pq]! = true by simp only [HXv.out, HXa.out, ltN]; simpa using hxy)
              go_wp2_with fail
              go_quiet ((go_at_call 34; refine Calls.quiet_of_same ((less_any _ _ _).mono fun _ _ h => ⟨h.1, h.2.symm⟩)))
              have HMw : Hid (Turn [g] w (wr.drewN nq) ∧ SM (wr.drewN nq) g d3) := ⟨turn_drewN HMv.out.1 _, HMv.out.2.block rfl⟩
              clear hcv hca hfr hl HMv
              generalize wr.drewN nq = Wv at *
              go_wp2_with fail
              go_roundw
              case rel => exact ⟨pq + 1, by simp, by omega, by omega, HMw.out, by rw [← HST.out]; exact HEv.out⟩
              case measure => simp [intOf]; omega
            · have hd : decide (x < y) = false := by simpa using hxy
              have HST : Hid (Sort.scanUp (fun x => ltN x d3[a]!) d3 j pq = pq) := scanUp_stop2 (P := fun x => ltN x d3[a]!) (d := d3) (show (fun x => ltN x d3[a]!) d3[pq]! = false by simp only [HXv.out, HXa.out, ltN]; simpa using hxy)
              have HEI : Hid (pq = I2) := by show _ = _; rw [← HST.out]; exact HEv.out
              go_wp2_with fail
              go_quiet ((go_at_call 34; refine Calls.quiet_of_same ((less_any _ _ _).mono fun _ _ h => ⟨h.1, h.2.symm⟩)))
              have HMw : Hid (Turn [g] w (wr.drewN nq) ∧ SM (wr.drewN nq) g d3) := ⟨turn_drewN HMv.out.1 _, HMv.out.2.block rfl⟩
              clear hcv hca hfr hl HMv
              generalize wr.drewN nq = Wv at *
              go_wp2_with fail
              go_meet
              case rel => exact ⟨by rw [HEI.out], HMw.out⟩
          · have hmI : (¬ (pq : Int) ≤ (j : Int)) := by omega
            have HEI : Hid (pq = I2) := by show _ = _; rw [← scanUp_stop1 hmv (P := fun x => ltN x d3[a]!) (d := d3)]; exact HEv.out
            go_wp2_with fail
            go_quiet ((go_at_call 34; refine Calls.quiet_of_same ((less_any _ _ _).mono fun _ _ h => ⟨h.1, h.2.symm⟩)))
            have HMw : Hid (Turn [g] w (wr.drewN nq) ∧ SM (wr.drewN nq) g d3) := ⟨turn_drewN HMv.out.1 _, HMv.out.2.block rfl⟩
            clear  HMv
            generalize wr.drewN nq = Wv at *
            go_wp2_with fail
            go_meet
            case rel => exact ⟨by rw [HEI.out], HMw.out⟩
      case rest =>
      obtain ⟨rfl, HM7⟩ := hcut
      generalize wc = Wc at *
      clear HM6
      go_upto_block 8 with fail
      obtain ⟨J2, hJ2⟩ : ∃ zz, Sort.scanDown (fun x => !ltN x d3[a]!) d3 I2 j = zz := ⟨_, rfl⟩
      have HJ2 : Hid (Sort.scanDown (fun x => !ltN x d3[a]!) d3 I2 j = J2) := hJ2
      have hJ2b : J2 ≤ j ∧ (I2 ≤ J2 + 1 ∨ J2 = j) := by rw [← hJ2]; exact scanDown_bd _ _ _ _
      clear hJ2
      go_cut [11] (fun s wx => s = .int .i64 (J2 : Int) ∧ Hid (Turn [g] w wx ∧ SM wx g d3))
      case first => as_aux_lemma =>
        go_wp2_with fail
        go_loopw [11] (fun ii wr => ∃ pq : Nat, ii = .int .i64 (pq : Int) ∧ a < pq + 1 ∧ pq ≤ j ∧ Hid (Turn [g] w wr ∧ SM wr g d3) ∧ Hid (Sort.scanDown (fun x => !ltN x d3[a]!) d3 I2 pq = J2)) (fun ii _ => (intOf ii).toNat)
        case atStart => exact ⟨j, rfl, by omega, by omega, HM7.out, HJ2.out⟩
        case round =>
          obtain ⟨pq, rfl, hva, hv1, HMv, HEv⟩ := hrel
          clear HM7 HJ2
          by_cases hmv : I2 ≤ pq
          · have hmI : ((I2 : Int) ≤ (pq : Int)) := by omega
            have hvn : pq < n := by omega
            have hvI : (pq : Int) < (n : Int) := by omega
            have han : a < n := by omega
            have haI : (a : Int) < (n : Int) := by omega
            have hcv := HMv.out.2.c pq (by rw [HN5.out]; omega)
            have hca := HMv.out.2.c a (by rw [HN5.out]; omega)
            obtain ⟨x, hxv⟩ : ∃ x, d3[pq]! = x := ⟨_, rfl⟩
            obtain ⟨y, hya⟩ : ∃ y, d3[a]! = y := ⟨_, rfl⟩
            have HXv := Lib.hid hxv
            have HXa := Lib.hid hya
            rw [hxv] at hcv
            rw [hya] at hca
            clear hxv hya
            have hfr := HMv.out.2.f
            have hl := HMv.out.2.lt (by rw [HN5.out]; omega)
            obtain ⟨v1, hv1e⟩ : ∃ v1, pq = v1 + 1 := ⟨pq - 1, by omega⟩
            have hsub : IntKind.i64.wrap ((pq : Int) - 1) = (v1 : Int) := by rw [IntWalk.i64_in _ (by omega)]; omega
            have HV1 := Lib.hid hv1e
            clear hv1e
            by_cases hxy : x < y
            · have hd : decide (x < y) = true := by simpa using hxy
              have HST : Hid (Sort.scanDown (fun x => !ltN x d3[a]!) d3 I2 pq = pq) := scanDown_stop2 (P := fun x => !ltN x d3[a]!) (d := d3) (show (fun x => !ltN x d3[a]!) d3[pq]! = false by simp only [HXv.out, HXa.out, ltN]; simpa using hxy)
              have HEI : Hid (pq = J2) := by show _ = _; rw [← HST.out]; exact HEv.out
              go_wp2_with fail
              go_quiet ((go_at_call 34; refine Calls.quiet_of_same ((less_any _ _ _).mono fun _ _ h => ⟨h.1, h.2.symm⟩)))
              have HMw : Hid (Turn [g] w (wr.drewN nq) ∧ SM (wr.drewN nq) g d3) := ⟨turn_drewN HMv.out.1 _, HMv.out.2.block rfl⟩
              clear hcv hca hfr hl HMv
              generalize wr.drewN nq = Wv at *
              go_wp2_with fail
              go_meet
              case rel => exact ⟨by rw [HEI.out], HMw.out⟩
            · have hd : decide (x < y) = false := by simpa using hxy
              have HST : Hid (Sort.scanDown (fun x => !ltN x d3[a]!) d3 I2 pq = Sort.scanDown (fun x => !ltN x d3[a]!) d3 I2 v1) := by show _ = _; have h := HV1.out; have hp : (fun x => !ltN x d3[a]!) d3[pq]! = true := (show (fun x => !ltN x d3[a]!) d3[pq]! = true by simp only [HXv.out, HXa.out, ltN]; simpa using hxy); rw [h] at hp ⊢; exact scanDown_go (P := fun x => !ltN x d3[a]!) (d := d3) (by omega) hp
              go_wp2_with fail
              go_quiet ((go_at_call 34; refine Calls.quiet_of_same ((less_any _ _ _).mono fun _ _ h => ⟨h.1, h.2.symm⟩)))
              have HMw : Hid (Turn [g] w (wr.drewN nq) ∧ SM (wr.drewN nq) g d3) := ⟨turn_drewN HMv.out.1 _, HMv.out.2.block rfl⟩
              clear hcv hca hfr hl HMv
              generalize wr.drewN nq = Wv at *
              go_wp2_with fail
              go_roundw
              case rel => exact ⟨v1, by first | rfl | exact congrArg (Value.int .i64) hsub | simp [hsub], by have := HV1.out; omega, by have := HV1.out; omega, HMw.out, by rw [← HST.out]; exact HEv.out⟩
              case measure => have := HV1.out; simp [intOf, hsub] <;> omega
          · have hmI : (¬ (I2 : Int) ≤ (pq : Int)) := by omega
            have HEI : Hid (pq = J2) := by show _ = _; rw [← scanDown_stop1 hmv (P := fun x => !ltN x d3[a]!) (d := d3)]; exact HEv.out
            go_wp2_with fail
            go_quiet ((go_at_call 34; refine Calls.quiet_of_same ((less_any _ _ _).mono fun _ _ h => ⟨h.1, h.2.symm⟩)))
            have HMw : Hid (Turn [g] w (wr.drewN nq) ∧ SM (wr.drewN nq) g d3) := ⟨turn_drewN HMv.out.1 _, HMv.out.2.block rfl⟩
            clear  HMv
            generalize wr.drewN nq = Wv at *
            go_wp2_with fail
            go_meet
            case rel => exact ⟨by rw [HEI.out], HMw.out⟩
      case rest =>
      obtain ⟨rfl, HM8⟩ := hcut
      generalize wc = Wd at *
      clear HM7
      have hJn2 : J2 < n := by omega
      have hJI2 : (J2 : Int) < (n : Int) := by omega
      by_cases hIJ2 : J2 < I2
      · have hIJI2 : (J2 : Int) < (I2 : Int) := by omega
        have HD : Hid (PL = (J2, d3)) := by show _ = _; rw [← HE6.out, part_loop HI2.out HJ2.out, if_pos hIJ2]
        clear HE6 HI2 HJ2
        go_upto_region 21 with fail
        have hca := HM8.out.2.c J2 (by rw [HN5.out]; omega)
        obtain ⟨x, hxa⟩ : ∃ x, d3[J2]! = x := ⟨_, rfl⟩
        have HXa := Lib.hid hxa
        rw [hxa] at hca
        clear hxa hca
        have hcb := HM8.out.2.c a (by rw [HN5.out]; omega)
        obtain ⟨y, hxb⟩ : ∃ x, d3[a]! = x := ⟨_, rfl⟩
        have HXb := Lib.hid hxb
        rw [hxb] at hcb
        clear hxb hcb
        have hci := HM8.out.2.c J2 (by rw [HN5.out]; omega)
        have hcj := HM8.out.2.c a (by rw [HN5.out]; omega)
        rw [HXa.out] at hci
        rw [HXb.out] at hcj
        have hfr := HM8.out.2.f
        have hl := HM8.out.2.lt (by rw [HN5.out]; omega)
        obtain ⟨zm, hmid⟩ := HM8.out.2.mid J2 a y (by rw [HN5.out]; omega) (by rw [HN5.out]; omega)
        have HS : Hid (Turn [g] w ((((Wd.setCell ⟨g, J2, none⟩ (.int .u64 (y : Int))).setCell ⟨g, a, none⟩ (.int .u64 (x : Int)))).drew) ∧ SM ((((Wd.setCell ⟨g, J2, none⟩ (.int .u64 (y : Int))).setCell ⟨g, a, none⟩ (.int .u64 (x : Int)))).drew) g (Sort.swp d3 J2 a)) := by
          have h := HM8.out.2.swap J2 a (by rw [HN5.out]; omega) (by rw [HN5.out]; omega)
          rw [HXa.out, HXb.out] at h
          exact ⟨(HM8.out.1.trans ((Turn.setCell g J2 _ _).trans (Turn.setCell g a _ _))).trans ⟨rfl, rfl, rfl, Nat.le_refl _, fun _ _ _ => rfl⟩, h.block rfl⟩
        go_wp2_with fail
        go_region
        clear hci hcj hfr hl hmid HM8
        generalize (((Wd.setCell ⟨g, J2, none⟩ (.int .u64 (y : Int))).setCell ⟨g, a, none⟩ (.int .u64 (x : Int)))).drew = W9 at *
        go_wp2_with fail
        refine bodyPost_ret (results_tmp2 rfl _ _ _) rfl ?_
        have h := HRR.out
        rw [HD.out] at h
        exact ⟨by rw [← h]; rfl, HS.out.1, by rw [← h]; exact HS.out.2⟩
      · have hIJI2 : ¬ (J2 : Int) < (I2 : Int) := by omega
        have HD : Hid (Sort.partLoop ltN a (I2 + 1) (J2 - 1) (Sort.swp d3 I2 J2) = PL) := by show _ = _; rw [← HE6.out, part_loop HI2.out HJ2.out, if_neg hIJ2]
        obtain ⟨J3, hJ3⟩ : ∃ k, J2 - 1 = k := ⟨_, rfl⟩
        rw [hJ3] at HD
        have hs4 : IntKind.i64.wrap ((J2 : Int) - 1) = (J3 : Int) := by rw [IntWalk.i64_in _ (by omega)]; omega
        have hI6 : (I2 : Int) < (n : Int) := by omega
        have hI7 : I2 < n := by omega
        have HJ3 := Lib.hid hJ3
        clear HE6 HI2 HJ2 hJ3
        go_upto_region 18 with fail
        have hca := HM8.out.2.c I2 (by rw [HN5.out]; omega)
        obtain ⟨x, hxa⟩ : ∃ x, d3[I2]! = x := ⟨_, rfl⟩
        have HXa := Lib.hid hxa
        rw [hxa] at hca
        clear hxa hca
        have hcb := HM8.out.2.c J2 (by rw [HN5.out]; omega)
        obtain ⟨y, hxb⟩ : ∃ x, d3[J2]! = x := ⟨_, rfl⟩
        have HXb := Lib.hid hxb
        rw [hxb] at hcb
        clear hxb hcb
        have hci := HM8.out.2.c I2 (by rw [HN5.out]; omega)
        have hcj := HM8.out.2.c J2 (by rw [HN5.out]; omega)
        rw [HXa.out] at hci
        rw [HXb.out] at hcj
        have hfr := HM8.out.2.f
        have hl := HM8.out.2.lt (by rw [HN5.out]; omega)
        obtain ⟨zm, hmid⟩ := HM8.out.2.mid I2 J2 y (by rw [HN5.out]; omega) (by rw [HN5.out]; omega)
        have HS : Hid (Turn [g] w ((((Wd.setCell ⟨g, I2, none⟩ (.int .u64 (y : Int))).setCell ⟨g, J2, none⟩ (.int .u64 (x : Int)))).drew) ∧ SM ((((Wd.setCell ⟨g, I2, none⟩ (.int .u64 (y : Int))).setCell ⟨g, J2, none⟩ (.int .u64 (x : Int)))).drew) g (Sort.swp d3 I2 J2)) := by
          have h := HM8.out.2.swap I2 J2 (by rw [HN5.out]; omega) (by rw [HN5.out]; omega)
          rw [HXa.out, HXb.out] at h
          exact ⟨(HM8.out.1.trans ((Turn.setCell g I2 _ _).trans (Turn.setCell g J2 _ _))).trans ⟨rfl, rfl, rfl, Nat.le_refl _, fun _ _ _ => rfl⟩, h.block rfl⟩
        go_wp2_with fail
        go_region
        clear hci hcj hfr hl hmid HM8
        generalize (((Wd.setCell ⟨g, I2, none⟩ (.int .u64 (y : Int))).setCell ⟨g, J2, none⟩ (.int .u64 (x : Int)))).drew = W9 at *
        go_wp2_with fail
        go_roundw
        case rel => exact ⟨I2 + 1, J3, _, by simp, by first | rfl | simp [hs4], by omega, by have := HJ3.out; omega, by have := HJ3.out; omega, by have := HJ3.out; omega, by show _ = _; rw [swp_size]; exact HN5.out, HS.out, HD.out⟩
        case measure => have := HJ3.out; simp [intOf, hs4]; omega
end Go.Proofs.Ytmdhlpnieimdaaa
