/- partialInsertionSort at words. -/
import Derived.Test.YtmdhlpnieimdaaaZ5
namespace Go.Proofs.Ytmdhlpnieimdaaa
open Go.RowKit

theorem scanS_go {d : Array Nat} {b i : Nat} (h : i < b) (hp : ltN d[i]! d[i - 1]! = false) : Sort.scanSorted ltN d b i = Sort.scanSorted ltN d b (i + 1) := by rw [Sort.scanSorted, if_pos (by simp only [h, decide_true, Bool.true_and, hp]; rfl)]
theorem scanS_stop1 {d : Array Nat} {b i : Nat} (h : ¬ i < b) : Sort.scanSorted ltN d b i = i := by rw [Sort.scanSorted, if_neg (by simp only [h, decide_false, Bool.false_and]; decide)]
theorem scanS_stop2 {d : Array Nat} {b i : Nat} (hp : ltN d[i]! d[i - 1]! = true) : Sort.scanSorted ltN d b i = i := by rw [Sort.scanSorted, if_neg (by rw [hp]; simp)]
theorem scanS_bd (d : Array Nat) (b : Nat) : ∀ (m i : Nat), b - i ≤ m → i ≤ b → i ≤ Sort.scanSorted ltN d b i ∧ Sort.scanSorted ltN d b i ≤ b
  | 0, i, h, hb => by rw [scanS_stop1 (by omega)]; omega
  | m + 1, i, h, hb => by
    by_cases h1 : i < b
    · cases h2 : ltN d[i]! d[i - 1]! with
      | false =>
        rw [scanS_go h1 h2]
        have := scanS_bd d b m (i + 1) (by omega) (by omega)
        omega
      | true => rw [scanS_stop2 h2]; omega
    · rw [scanS_stop1 h1]; omega
theorem shiftDown_size : ∀ (j : Nat) (d : Array Nat), (Sort.shiftDown ltN j d).size = d.size
  | 0, _ => rfl
  | j + 1, d => by
    rw [Sort.shiftDown]
    split
    · rfl
    · rw [shiftDown_size j, swp_size]
theorem shiftUp_size (b : Nat) : ∀ (m j : Nat) (d : Array Nat), b - j ≤ m → (Sort.shiftUp ltN b j d).size = d.size
  | 0, j, d, h => by rw [Sort.shiftUp, if_neg (by omega)]
  | m + 1, j, d, h => by
    rw [Sort.shiftUp]
    split
    · split
      · rfl
      · rw [shiftUp_size b m (j + 1) _ (by omega), swp_size]
    · rfl
set_option maxRecDepth 100000 in
set_option maxHeartbeats 16000000 in
theorem pins_any (g n a b cap : Nat) (d : Array Nat) (w : World) (h : SM w g d) (hn : d.size = n) (hab : a < b) (hb : b ≤ n) (hn2 : n ≤ 900) :
    Calls Try.prog 33 #[.slice (some ⟨g, 0, none⟩) n cap, .int .i64 (a : Int), .int .i64 (b : Int)] w fun e w' => e = .returned (.bool (Sort.partialInsertionSort ltN d a b).2) ∧ Turn [g] w w' ∧ SM w' g (Sort.partialInsertionSort ltN d a b).1 := by
  have H := Lib.hid h
  obtain ⟨R, hR⟩ : ∃ R, Sort.partialInsertionSort ltN d a b = R := ⟨_, rfl⟩
  have HR : Hid (Sort.partialIns ltN a b 5 (a + 1) d = R) := hR
  rw [hR]
  have HN := Lib.hid hn
  have hsba : IntKind.i64.wrap ((b : Int) - (a : Int)) = ((b - a : Nat) : Int) := by rw [IntWalk.i64_in _ (by omega)]; omega
  clear h hR hn
  go_enter Try.func33, Try.ntmps33
  go_wp2_with fail
  go_loopw [7, 8, 9, 10] (fun ii jj s9 s10 wr => ∃ (i s : Nat) (d2 : Array Nat), ii = .int .i64 (i : Int) ∧ jj = .int .i64 ((5 - s : Nat) : Int) ∧ s ≤ 5 ∧ a < i ∧ i ≤ b ∧ Hid (d2.size = n) ∧ Hid (Turn [g] w wr ∧ SM wr g d2) ∧ Hid (Sort.partialIns ltN a b s i d2 = R)) (fun _ jj _ _ _ => 5 - (intOf jj).toNat)
  case atStart => exact ⟨a + 1, 5, d, by simp, rfl, by omega, by omega, by omega, HN.out, ⟨Turn.refl _ _, H.out⟩, HR.out⟩
  case round =>
    obtain ⟨i, s, d2, rfl, rfl, hs5, hai, hib, HN2, HM2, HE2⟩ := hrel
    clear H HN HR
    obtain ⟨js, hjs⟩ : ∃ k, 5 - s = k := ⟨_, rfl⟩
    rw [hjs]
    cases s with
    | zero =>
      have hjI : ¬ (js : Int) < 5 := by omega
      have HD : Hid (R = (d2, false)) := HE2.out.symm
      go_wp2_with fail
      go_ret
      exact ⟨by rw [HD.out]; rfl, HM2.out.1, by rw [HD.out]; exact HM2.out.2⟩
    | succ s =>
      have hjI : (js : Int) < 5 := by omega
      have HJS := Lib.hid hjs
      clear hjs
      go_upto_block 2 with fail
      obtain ⟨I, hI⟩ : ∃ zz, Sort.scanSorted ltN d2 b i = zz := ⟨_, rfl⟩
      have HI : Hid (Sort.scanSorted ltN d2 b i = I) := hI
      have hIb : i ≤ I ∧ I ≤ b := by rw [← hI]; exact scanS_bd d2 b _ i (Nat.le_refl _) hib
      clear hI
      go_cut [7] (fun s wx => s = .int .i64 (I : Int) ∧ Hid (Turn [g] w wx ∧ SM wx g d2))
      case first => as_aux_lemma =>
        go_wp2_with fail
        go_loopw [7] (fun ii wr => ∃ v : Nat, ii = .int .i64 (v : Int) ∧ a < v ∧ v ≤ b ∧ Hid (Turn [g] w wr ∧ SM wr g d2) ∧ Hid (Sort.scanSorted ltN d2 b v = I)) (fun ii _ => b - (intOf ii).toNat)
        case atStart => exact ⟨i, rfl, hai, hib, HM2.out, HI.out⟩
        case round =>
          obtain ⟨v, rfl, hva, hvb, HMv, HEv⟩ := hrel
          clear HM2 HI
          by_cases hmv : v < b
          · have hmI : (v : Int) < (b : Int) := by omega
            obtain ⟨p, hp⟩ : ∃ p, v - 1 = p := ⟨_, rfl⟩
            have hsub : IntKind.i64.wrap ((v : Int) - 1) = (p : Int) := by rw [IntWalk.i64_in _ (by omega)]; omega
            have hvn : v < n := by omega
            have hvI : (v : Int) < (n : Int) := by omega
            have hpn : p < n := by omega
            have hpI : (p : Int) < (n : Int) := by omega
            have HP := Lib.hid hp
            have hcv := HMv.out.2.c v (by rw [HN2.out]; omega)
            have hcp := HMv.out.2.c p (by rw [HN2.out]; omega)
            obtain ⟨x, hxv⟩ : ∃ x, d2[v]! = x := ⟨_, rfl⟩
            obtain ⟨y, hyp⟩ : ∃ y, d2[p]! = y := ⟨_, rfl⟩
            have HXa := Lib.hid hxv
            have HXb := Lib.hid hyp
            rw [hxv] at hcv
            rw [hyp] at hcp
            clear hxv hyp
            have hfr := HMv.out.2.f
            have hl := HMv.out.2.lt (by rw [HN2.out]; omega)
            clear hp
            by_cases hxy : x < y
            · have hd : decide (x < y) = true := by simpa using hxy
              have HST : Hid (Sort.scanSorted ltN d2 b v = v) := scanS_stop2 (by rw [HP.out]; exact (show ltN d2[v]! d2[p]! = true by simp only [HXa.out, HXb.out, ltN]; simpa using hxy))
              have HEI : Hid (v = I) := by show _ = _; rw [← HST.out]; exact HEv.out
              go_wp2_with fail
              go_quiet ((go_at_call 34; refine Calls.quiet_of_same ((less_any _ _ _).mono fun _ _ h => ⟨h.1, h.2.symm⟩)))
              have HMw : Hid (Turn [g] w (wr.drewN nq) ∧ SM (wr.drewN nq) g d2) := ⟨turn_drewN HMv.out.1 _, HMv.out.2.block rfl⟩
              clear hcv hcp hfr hl HMv
              generalize wr.drewN nq = Wv at *
              go_wp2_with fail
              go_meet
              case rel => exact ⟨by rw [HEI.out], HMw.out⟩
            · have hd : decide (x < y) = false := by simpa using hxy
              have HST : Hid (Sort.scanSorted ltN d2 b v = Sort.scanSorted ltN d2 b (v + 1)) := scanS_go hmv (by rw [HP.out]; exact (show ltN d2[v]! d2[p]! = false by simp only [HXa.out, HXb.out, ltN]; simpa using hxy))
              go_wp2_with fail
              go_quiet ((go_at_call 34; refine Calls.quiet_of_same ((less_any _ _ _).mono fun _ _ h => ⟨h.1, h.2.symm⟩)))
              have HMw : Hid (Turn [g] w (wr.drewN nq) ∧ SM (wr.drewN nq) g d2) := ⟨turn_drewN HMv.out.1 _, HMv.out.2.block rfl⟩
              clear hcv hcp hfr hl HMv
              generalize wr.drewN nq = Wv at *
              go_wp2_with fail
              go_roundw
              case rel => exact ⟨v + 1, by simp, by omega, by omega, HMw.out, by rw [← HST.out]; exact HEv.out⟩
              case measure => simp [intOf]; omega
          · have hmI : ¬ (v : Int) < (b : Int) := by omega
            have HEI : Hid (v = I) := by show _ = _; rw [← scanS_stop1 (d := d2) hmv]; exact HEv.out
            go_wp2_with fail
            go_quiet ((go_at_call 34; refine Calls.quiet_of_same ((less_any _ _ _).mono fun _ _ h => ⟨h.1, h.2.symm⟩)))
            have HMw : Hid (Turn [g] w (wr.drewN nq) ∧ SM (wr.drewN nq) g d2) := ⟨turn_drewN HMv.out.1 _, HMv.out.2.block rfl⟩
            clear  HMv
            generalize wr.drewN nq = Wv at *
            go_wp2_with fail
            go_meet
            case rel => exact ⟨by rw [HEI.out], HMw.out⟩
      case rest =>
      obtain ⟨rfl, HM3⟩ := hcut
      generalize wc = Wa at *
      clear HM2
      have HE3 : Hid ((if I = b then (d2, true) else if b - a < 50 then (d2, false) else Sort.partialIns ltN a b s I (if b - I ≥ 2 then Sort.shiftUp ltN b (I + 1) (if I - a ≥ 2 then Sort.shiftDown ltN (I - 1) (Sort.swp d2 I (I - 1)) else Sort.swp d2 I (I - 1)) else (if I - a ≥ 2 then Sort.shiftDown ltN (I - 1) (Sort.swp d2 I (I - 1)) else Sort.swp d2 I (I - 1)))) = R) := by
        show _ = _
        have h := HE2.out
        rw [Sort.partialIns] at h
        simp only [HI.out] at h
        exact h
      clear HE2 HI
      by_cases hIb2 : I = b
      · have hIbI : ((I : Int) == (b : Int)) = true := by simp [hIb2]
        have HD : Hid (R = (d2, true)) := by show _ = _; rw [← HE3.out, if_pos hIb2]
        have HIB := Lib.hid hIb2
        clear hIb2
        go_wp2_with fail
        go_ret
        exact ⟨by rw [HD.out]; rfl, HM3.out.1, by rw [HD.out]; exact HM3.out.2⟩
      · have hIbI : ((I : Int) == (b : Int)) = false := by simp; omega
        by_cases h50 : b - a < 50
        · have h50I : ((b - a : Nat) : Int) < 50 := by omega
          have HD : Hid (R = (d2, false)) := by show _ = _; rw [← HE3.out, if_neg hIb2, if_pos h50]
          go_wp2_with fail
          go_ret
          exact ⟨by rw [HD.out]; rfl, HM3.out.1, by rw [HD.out]; exact HM3.out.2⟩
        · have h50I : ¬ ((b - a : Nat) : Int) < 50 := by omega
          obtain ⟨I1, hI1⟩ : ∃ k, I - 1 = k := ⟨_, rfl⟩
          have HE4 : Hid (Sort.partialIns ltN a b s I (if b - I ≥ 2 then Sort.shiftUp ltN b (I + 1) (if I - a ≥ 2 then Sort.shiftDown ltN I1 (Sort.swp d2 I I1) else Sort.swp d2 I I1) else (if I - a ≥ 2 then Sort.shiftDown ltN I1 (Sort.swp d2 I I1) else Sort.swp d2 I I1)) = R) := by
            show _ = _
            have h := HE3.out
            rw [if_neg hIb2, if_neg h50, hI1] at h
            exact h
          have hsub : IntKind.i64.wrap ((I : Int) - 1) = (I1 : Int) := by rw [IntWalk.i64_in _ (by omega)]; omega
          have hsia : IntKind.i64.wrap ((I : Int) - (a : Int)) = ((I - a : Nat) : Int) := by rw [IntWalk.i64_in _ (by omega)]; omega
          have hsbi : IntKind.i64.wrap ((b : Int) - (I : Int)) = ((b - I : Nat) : Int) := by rw [IntWalk.i64_in _ (by omega)]; omega
          have hq1 : (I : Int) < (n : Int) := by omega
          have hq2 : (I1 : Int) < (n : Int) := by omega
          have hq3 : I < n := by omega
          have hq4 : I1 < n := by omega
          have HII := Lib.hid hI1
          clear HE3 hI1
          go_upto_region 11 with fail
          have hca := HM3.out.2.c I (by rw [HN2.out]; omega)
          obtain ⟨x, hxa⟩ : ∃ x, d2[I]! = x := ⟨_, rfl⟩
          have HXa := Lib.hid hxa
          rw [hxa] at hca
          clear hxa hca
          have hcb := HM3.out.2.c I1 (by rw [HN2.out]; omega)
          obtain ⟨y, hxb⟩ : ∃ x, d2[I1]! = x := ⟨_, rfl⟩
          have HXb := Lib.hid hxb
          rw [hxb] at hcb
          clear hxb hcb
          have hci := HM3.out.2.c I (by rw [HN2.out]; omega)
          have hcj := HM3.out.2.c I1 (by rw [HN2.out]; omega)
          rw [HXa.out] at hci
          rw [HXb.out] at hcj
          have hfr := HM3.out.2.f
          have hl := HM3.out.2.lt (by rw [HN2.out]; omega)
          obtain ⟨zm, hmid⟩ := HM3.out.2.mid I I1 y (by rw [HN2.out]; omega) (by rw [HN2.out]; omega)
          have HS : Hid (Turn [g] w ((((Wa.setCell ⟨g, I, none⟩ (.int .u64 (y : Int))).setCell ⟨g, I1, none⟩ (.int .u64 (x : Int)))).drew) ∧ SM ((((Wa.setCell ⟨g, I, none⟩ (.int .u64 (y : Int))).setCell ⟨g, I1, none⟩ (.int .u64 (x : Int)))).drew) g (Sort.swp d2 I I1)) := by
            have h := HM3.out.2.swap I I1 (by rw [HN2.out]; omega) (by rw [HN2.out]; omega)
            rw [HXa.out, HXb.out] at h
            exact ⟨(HM3.out.1.trans ((Turn.setCell g I _ _).trans (Turn.setCell g I1 _ _))).trans ⟨rfl, rfl, rfl, Nat.le_refl _, fun _ _ _ => rfl⟩, h.block rfl⟩
          go_wp2_with fail
          go_region
          clear hci hcj hfr hl hmid HM3
          generalize (((Wa.setCell ⟨g, I, none⟩ (.int .u64 (y : Int))).setCell ⟨g, I1, none⟩ (.int .u64 (x : Int)))).drew = W9 at *
          have HN3 : Hid ((Sort.swp d2 I I1).size = n) := by show _ = _; rw [swp_size]; exact HN2.out
          clear HXa HXb HN2
          generalize Sort.swp d2 I I1 = d3 at *
          go_upto_if 61 with fail
          obtain ⟨d4, hd4⟩ : ∃ zz, (if I - a ≥ 2 then Sort.shiftDown ltN I1 d3 else d3) = zz := ⟨_, rfl⟩
          have HD4 := Lib.hid hd4
          have HN4 : Hid (d4.size = n) := by show _ = _; rw [← hd4]; split; (rw [shiftDown_size]; exact HN3.out); exact HN3.out
          clear hd4
          go_cut [9] (fun s wx => (∃ u : Value, s = u) ∧ Hid (Turn [g] w wx ∧ SM wx g d4))
          case first => as_aux_lemma =>
            by_cases hia : 2 ≤ I - a
            · have hiaI : (2 : Int) ≤ ((I - a : Nat) : Int) := by omega
              have HD5 : Hid (Sort.shiftDown ltN I1 d3 = d4) := by show _ = _; rw [← HD4.out, if_pos hia]
              clear HD4
              go_wp2_with fail
              go_loopw [9] (fun jj wr => ∃ (j : Nat) (d5 : Array Nat), jj = .int .i64 (j : Int) ∧ j < n ∧ Hid (d5.size = n) ∧ Hid (Turn [g] w wr ∧ SM wr g d5) ∧ Hid (Sort.shiftDown ltN j d5 = d4)) (fun jj _ => (intOf jj).toNat)
              case atStart => exact ⟨I1, d3, rfl, by omega, HN3.out, HS.out, HD5.out⟩
              case round =>
                obtain ⟨j, d5, rfl, hjn, HN5, HMv, HEv⟩ := hrel
                clear HS HD5
                by_cases hj1 : 1 ≤ j
                · have hj1I : (1 : Int) ≤ (j : Int) := by omega
                  obtain ⟨p, hp⟩ : ∃ p, j = p + 1 := ⟨j - 1, by omega⟩
                  have hsub : IntKind.i64.wrap ((j : Int) - 1) = (p : Int) := by rw [IntWalk.i64_in _ (by omega)]; omega
                  have hjI : (j : Int) < (n : Int) := by omega
                  have hpn : p < n := by omega
                  have hpI : (p : Int) < (n : Int) := by omega
                  have HP := Lib.hid hp
                  have hcv := HMv.out.2.c j (by rw [HN5.out]; omega)
                  have hcp := HMv.out.2.c p (by rw [HN5.out]; omega)
                  obtain ⟨x, hxv⟩ : ∃ x, d5[j]! = x := ⟨_, rfl⟩
                  obtain ⟨y, hyp⟩ : ∃ y, d5[p]! = y := ⟨_, rfl⟩
                  have HXa := Lib.hid hxv
                  have HXb := Lib.hid hyp
                  rw [hxv] at hcv
                  rw [hyp] at hcp
                  clear hxv hyp
                  have hfr := HMv.out.2.f
                  have hl := HMv.out.2.lt (by rw [HN5.out]; omega)
                  clear hp
                  by_cases hxy : x < y
                  · have hd : decide (x < y) = true := by simpa using hxy
                    have HST : Hid (Sort.shiftDown ltN j d5 = Sort.shiftDown ltN p (Sort.swp d5 j p)) := by show _ = _; have hl := (show ltN d5[j]! d5[p]! = true by simp only [HXa.out, HXb.out, ltN]; simpa using hxy); have h := HP.out; rw [h] at hl ⊢; rw [Sort.shiftDown, hl]; rfl
                    go_wp2_with fail
                    go_quiet ((go_at_call 34; refine Calls.quiet_of_same ((less_any _ _ _).mono fun _ _ h => ⟨h.1, h.2.symm⟩)))
                    have HMw : Hid (Turn [g] w (wr.drewN nq) ∧ SM (wr.drewN nq) g d5) := ⟨turn_drewN HMv.out.1 _, HMv.out.2.block rfl⟩
                    clear hcv hcp hfr hl HMv
                    generalize wr.drewN nq = Wv at *
                    have hci := HMw.out.2.c j (by rw [HN5.out]; omega)
                    have hcj := HMw.out.2.c p (by rw [HN5.out]; omega)
                    rw [HXa.out] at hci
                    rw [HXb.out] at hcj
                    have hfr := HMw.out.2.f
                    have hl := HMw.out.2.lt (by rw [HN5.out]; omega)
                    obtain ⟨zm, hmid⟩ := HMw.out.2.mid j p y (by rw [HN5.out]; omega) (by rw [HN5.out]; omega)
                    have HSv : Hid (Turn [g] w ((((Wv.setCell ⟨g, j, none⟩ (.int .u64 (y : Int))).setCell ⟨g, p, none⟩ (.int .u64 (x : Int)))).drew) ∧ SM ((((Wv.setCell ⟨g, j, none⟩ (.int .u64 (y : Int))).setCell ⟨g, p, none⟩ (.int .u64 (x : Int)))).drew) g (Sort.swp d5 j p)) := by
                      have h := HMw.out.2.swap j p (by rw [HN5.out]; omega) (by rw [HN5.out]; omega)
                      rw [HXa.out, HXb.out] at h
                      exact ⟨(HMw.out.1.trans ((Turn.setCell g j _ _).trans (Turn.setCell g p _ _))).trans ⟨rfl, rfl, rfl, Nat.le_refl _, fun _ _ _ => rfl⟩, h.block rfl⟩
                    go_wp2_with fail
                    go_region
                    clear hci hcj hfr hl hmid HMw
                    generalize (((Wv.setCell ⟨g, j, none⟩ (.int .u64 (y : Int))).setCell ⟨g, p, none⟩ (.int .u64 (x : Int)))).drew = W9 at *
                    go_wp2_with fail
                    go_roundw
                    case rel => exact ⟨p, Sort.swp d5 j p, by first | rfl | exact congrArg (Value.int .i64) hsub | simp [hsub], by omega, by show _ = _; rw [swp_size]; exact HN5.out, HSv.out, by rw [← HST.out]; exact HEv.out⟩
                    case measure => have := HP.out; simp [intOf, hsub]; omega
                  · have hd : decide (x < y) = false := by simpa using hxy
                    have HST : Hid (Sort.shiftDown ltN j d5 = d5) := by show _ = _; have hl := (show ltN d5[j]! d5[p]! = false by simp only [HXa.out, HXb.out, ltN]; simpa using hxy); have h := HP.out; rw [h] at hl ⊢; rw [Sort.shiftDown, hl]; rfl
                    have HEI : Hid (d5 = d4) := by show _ = _; rw [← HST.out]; exact HEv.out
                    go_wp2_with fail
                    go_quiet ((go_at_call 34; refine Calls.quiet_of_same ((less_any _ _ _).mono fun _ _ h => ⟨h.1, h.2.symm⟩)))
                    have HMw : Hid (Turn [g] w (wr.drewN nq) ∧ SM (wr.drewN nq) g d5) := ⟨turn_drewN HMv.out.1 _, HMv.out.2.block rfl⟩
                    clear hcv hcp hfr hl HMv
                    generalize wr.drewN nq = Wv at *
                    go_wp2_with fail
                    go_meet
                    case rel => exact ⟨⟨_, rfl⟩, by rw [← HEI.out]; exact HMw.out⟩
                · have hj1I : ¬ (1 : Int) ≤ (j : Int) := by omega
                  have HEI : Hid (d5 = d4) := by show _ = _; have h : j = 0 := by omega
                                                 subst h; exact HEv.out
                  go_wp2_with fail
                  go_meet
                  case rel => exact ⟨⟨_, rfl⟩, by rw [← HEI.out]; exact HMv.out⟩
            · have hiaI : ¬ (2 : Int) ≤ ((I - a : Nat) : Int) := by omega
              have HD5 : Hid (d3 = d4) := by show _ = _; rw [← HD4.out, if_neg hia]
              go_wp2_with fail
              go_meet
              case rel => exact ⟨⟨_, rfl⟩, by rw [← HD5.out]; exact HS.out⟩
          case rest =>
          obtain ⟨⟨s9, rfl⟩, HM4⟩ := hcut
          generalize wc = Wb at *
          clear HS
          go_upto_if 98 with fail
          obtain ⟨d6, hd6⟩ : ∃ zz, (if b - I ≥ 2 then Sort.shiftUp ltN b (I + 1) d4 else d4) = zz := ⟨_, rfl⟩
          have HD6 := Lib.hid hd6
          have HN6 : Hid (d6.size = n) := by show _ = _; rw [← hd6]; split; (rw [shiftUp_size b _ _ _ (Nat.le_refl _)]; exact HN4.out); exact HN4.out
          have HEF : Hid (Sort.partialIns ltN a b s I d6 = R) := by show _ = _; rw [← HD6.out, ← HD4.out]; exact HE4.out
          clear hd6
          by_cases hib2 : 2 ≤ b - I
          · have hibI : (2 : Int) ≤ ((b - I : Nat) : Int) := by omega
            have HD7 : Hid (Sort.shiftUp ltN b (I + 1) d4 = d6) := by show _ = _; rw [← HD6.out, if_pos hib2]
            clear HD6
            go_wp2_with fail
            go_loopw [10] (fun jj wr => ∃ (j : Nat) (d5 : Array Nat), jj = .int .i64 (j : Int) ∧ 1 ≤ j ∧ j ≤ n ∧ Hid (d5.size = n) ∧ Hid (Turn [g] w wr ∧ SM wr g d5) ∧ Hid (Sort.shiftUp ltN b j d5 = d6)) (fun jj _ => b - (intOf jj).toNat)
            case atStart => exact ⟨I + 1, d4, by simp, by omega, by omega, HN4.out, HM4.out, HD7.out⟩
            case round =>
              obtain ⟨j, d5, rfl, hj1, hjn, HN5, HMv, HEv⟩ := hrel
              clear HM4 HD7
              by_cases hjb : j < b
              · have hjbI : (j : Int) < (b : Int) := by omega
                obtain ⟨p, hp⟩ : ∃ p, j - 1 = p := ⟨_, rfl⟩
                have hsub : IntKind.i64.wrap ((j : Int) - 1) = (p : Int) := by rw [IntWalk.i64_in _ (by omega)]; omega
                have hjI : (j : Int) < (n : Int) := by omega
                have hjn2 : j < n := by omega
                have hpn : p < n := by omega
                have hpI : (p : Int) < (n : Int) := by omega
                have HP := Lib.hid hp
                have hcv := HMv.out.2.c j (by rw [HN5.out]; omega)
                have hcp := HMv.out.2.c p (by rw [HN5.out]; omega)
                obtain ⟨x, hxv⟩ : ∃ x, d5[j]! = x := ⟨_, rfl⟩
                obtain ⟨y, hyp⟩ : ∃ y, d5[p]! = y := ⟨_, rfl⟩
                have HXa := Lib.hid hxv
                have HXb := Lib.hid hyp
                rw [hxv] at hcv
                rw [hyp] at hcp
                clear hxv hyp
                have hfr := HMv.out.2.f
                have hl := HMv.out.2.lt (by rw [HN5.out]; omega)
                clear hp
                by_cases hxy : x < y
                · have hd : decide (x < y) = true := by simpa using hxy
                  have HST : Hid (Sort.shiftUp ltN b j d5 = Sort.shiftUp ltN b (j + 1) (Sort.swp d5 j p)) := by show _ = _; rw [Sort.shiftUp, if_pos hjb, HP.out, (show ltN d5[j]! d5[p]! = true by simp only [HXa.out, HXb.out, ltN]; simpa using hxy)]; rfl
                  go_wp2_with fail
                  go_quiet ((go_at_call 34; refine Calls.quiet_of_same ((less_any _ _ _).mono fun _ _ h => ⟨h.1, h.2.symm⟩)))
                  have HMw : Hid (Turn [g] w (wr.drewN nq) ∧ SM (wr.drewN nq) g d5) := ⟨turn_drewN HMv.out.1 _, HMv.out.2.block rfl⟩
                  clear hcv hcp hfr hl HMv
                  generalize wr.drewN nq = Wv at *
                  have hci := HMw.out.2.c j (by rw [HN5.out]; omega)
                  have hcj := HMw.out.2.c p (by rw [HN5.out]; omega)
                  rw [HXa.out] at hci
                  rw [HXb.out] at hcj
                  have hfr := HMw.out.2.f
                  have hl := HMw.out.2.lt (by rw [HN5.out]; omega)
                  obtain ⟨zm, hmid⟩ := HMw.out.2.mid j p y (by rw [HN5.out]; omega) (by rw [HN5.out]; omega)
                  have HSv : Hid (Turn [g] w ((((Wv.setCell ⟨g, j, none⟩ (.int .u64 (y : Int))).setCell ⟨g, p, none⟩ (.int .u64 (x : Int)))).drew) ∧ SM ((((Wv.setCell ⟨g, j, none⟩ (.int .u64 (y : Int))).setCell ⟨g, p, none⟩ (.int .u64 (x : Int)))).drew) g (Sort.swp d5 j p)) := by
                    have h := HMw.out.2.swap j p (by rw [HN5.out]; omega) (by rw [HN5.out]; omega)
                    rw [HXa.out, HXb.out] at h
                    exact ⟨(HMw.out.1.trans ((Turn.setCell g j _ _).trans (Turn.setCell g p _ _))).trans ⟨rfl, rfl, rfl, Nat.le_refl _, fun _ _ _ => rfl⟩, h.block rfl⟩
                  go_wp2_with fail
                  go_region
                  clear hci hcj hfr hl hmid HMw
                  generalize (((Wv.setCell ⟨g, j, none⟩ (.int .u64 (y : Int))).setCell ⟨g, p, none⟩ (.int .u64 (x : Int)))).drew = W9 at *
                  go_wp2_with fail
                  go_roundw
                  case rel => exact ⟨j + 1, Sort.swp d5 j p, by simp, by omega, by omega, by show _ = _; rw [swp_size]; exact HN5.out, HSv.out, by rw [← HST.out]; exact HEv.out⟩
                  case measure => simp [intOf]; omega
                · have hd : decide (x < y) = false := by simpa using hxy
                  have HST : Hid (Sort.shiftUp ltN b j d5 = d5) := by show _ = _; rw [Sort.shiftUp, if_pos hjb, HP.out, (show ltN d5[j]! d5[p]! = false by simp only [HXa.out, HXb.out, ltN]; simpa using hxy)]; rfl
                  have HEI : Hid (d5 = d6) := by show _ = _; rw [← HST.out]; exact HEv.out
                  go_wp2_with fail
                  go_quiet ((go_at_call 34; refine Calls.quiet_of_same ((less_any _ _ _).mono fun _ _ h => ⟨h.1, h.2.symm⟩)))
                  have HMw : Hid (Turn [g] w (wr.drewN nq) ∧ SM (wr.drewN nq) g d5) := ⟨turn_drewN HMv.out.1 _, HMv.out.2.block rfl⟩
                  clear hcv hcp hfr hl HMv
                  generalize wr.drewN nq = Wv at *
                  go_wp2_with fail
                  go_roundw
                  case rel => exact ⟨I, s, d6, rfl, by have := HJS.out; show Value.int .i64 _ = _; congr 1; first | omega | (simp; omega), by omega, by omega, by omega, HN6.out, by rw [← HEI.out]; exact HMw.out, HEF.out⟩
                  case measure => have := HJS.out; simp [intOf]; omega
              · have hjbI : ¬ (j : Int) < (b : Int) := by omega
                have HEI : Hid (d5 = d6) := by show _ = _; have h := HEv.out; rw [Sort.shiftUp, if_neg hjb] at h; exact h
                go_wp2_with fail
                go_roundw
                case rel => exact ⟨I, s, d6, rfl, by have := HJS.out; show Value.int .i64 _ = _; congr 1; first | omega | (simp; omega), by omega, by omega, by omega, HN6.out, by rw [← HEI.out]; exact HMv.out, HEF.out⟩
                case measure => have := HJS.out; simp [intOf]; omega
          · have hibI : ¬ (2 : Int) ≤ ((b - I : Nat) : Int) := by omega
            have HD7 : Hid (d4 = d6) := by show _ = _; rw [← HD6.out, if_neg hib2]
            go_wp2_with fail
            go_roundw
            case rel => exact ⟨I, s, d6, rfl, by have := HJS.out; show Value.int .i64 _ = _; congr 1; first | omega | (simp; omega), by omega, by omega, by omega, HN6.out, by rw [← HD7.out]; exact HM4.out, HEF.out⟩
            case measure => have := HJS.out; simp [intOf]; omega
end Go.Proofs.Ytmdhlpnieimdaaa
