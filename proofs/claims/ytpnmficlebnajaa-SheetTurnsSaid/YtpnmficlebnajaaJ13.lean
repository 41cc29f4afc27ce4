/- SheetTurns, walked. -/
import Derived.Test.YtpnmficlebnajaaJ11
namespace Go.Proofs.Ytpnmficlebnajaa
open Go.RowKit

theorem TwoS.turned {w : World} {x y : List Ent} {nx ny : Nat} {q1 q2 qd : Option Addr} {c1 c2 nd cd : Nat} (h : TwoS w x y nx ny q1 c1 q2 c2) (hn : (diffL x y).length = nd) (hd : SlAt chC 15 w qd (diffL x y)) :
    Calls Try.prog 24 #[.slice q1 nx c1, .slice qd nd cd] w fun e w' => Below w.heap.size w w' ∧ ∃ q c, e = .returned (.tuple #[.slice q ny c, .int .i64 0]) ∧ ny ≤ c ∧ c ≤ maxLen ∧ SlAt entC 13 w' q y := by
  have hle := diff_le x y
  have := apply_any q1 x nx c1 qd (diffL x y) nd cd w h.lx h.hx.1 h.hx.2 h.ax hn hd h.gx.upR (diff_right h.gx.upR h.gy.upR) (by have := h.nx16; omega) (by have := h.nx16; have := h.ny16; have := h.lx; have := h.ly; omega)
  obtain ⟨e1, e2⟩ := apply_diff h.gx.upR h.gy.upR
  rw [e1, e2] at this
  refine this.mono ?_
  rintro e w' ⟨hb, v', rfl, ho⟩
  obtain ⟨q, c, rfl, hc, hm, hq, _⟩ := ho.at entC_len
  rw [h.ly] at hc ⊢
  exact ⟨hb, q, c, rfl, hc, hm, hq⟩
theorem flt_snoc (y x : List Ent) (k : Nat) (h : k < x.length) : ((x.take (k + 1)).filter fun e => (getR y e.n).isNone).length = ((x.take k).filter fun e => (getR y e.n).isNone).length + if (getR y x[k].n).isNone then 1 else 0 := by
  rw [List.take_succ_eq_append_getElem h, List.filter_append, List.length_append]
  cases hr : (getR y x[k].n).isNone <;> simp [hr]

set_option maxRecDepth 100000 in
set_option maxHeartbeats 8000000 in
theorem SheetTurns_walkS (qa : Option Addr) (a : List Ent) (na ca : Nat) (qb : Option Addr) (b : List Ent) (nb cb : Nat) (w : World)
    (hna : a.length = na) (hca : na ≤ ca) (hma : ca ≤ maxLen) (hqa : SlAt entC 13 w qa a) (hsa : ∀ x ∈ a, x.t.size ≤ maxLen)
    (hnb : b.length = nb) (hcb : nb ≤ cb) (hmb : cb ≤ maxLen) (hqb : SlAt entC 13 w qb b) (hsb : ∀ x ∈ b, x.t.size ≤ maxLen) :
    Calls Try.prog 7 #[.slice qa na ca, .slice qb nb cb] w fun e w' => e = .returned (.bool true) ∧ Below w.heap.size w w' := by
  have KA := Lib.hid (sheet_any qa a na ca w hna hca hma hqa hsa)
  have KB : Hid (∀ W, Below w.heap.size w W → Calls Try.prog 16 #[.slice qb nb cb] W fun e w' => Below W.heap.size W w' ∧ ∃ v', e = .returned v' ∧ OwnE entC 44 13 w' W.heap.size v' (sheetL b)) := fun W h => sheet_any qb b nb cb W hnb hcb hmb (hqb.below h) hsb
  have HGA := Lib.hid (sheetL_good a)
  have HGB := Lib.hid (sheetL_good b)
  clear hna hca hma hqa hsa hnb hcb hmb hqb hsb
  generalize sheetL a = x at *
  generalize sheetL b = y at *
  go_enter Try.func7, Try.ntmps7
  go_upto_region 2 with (first
    | (go_at_call 16; (with_reducible refine KA.out.mono ?_); rintro e w1 ⟨hb1, v1, rfl, ho1⟩; obtain ⟨q1, cap1, rfl, hc1, hm1, hq1, hq1'⟩ := ho1.at entC_len; have HB1 := Lib.hid hb1; have HQ1 := Lib.hid hq1; have HC1 : Hid (x.length ≤ cap1 ∧ cap1 ≤ maxLen) := ⟨hc1, hm1⟩; clear hb1 ho1 hq1 hq1' hc1 hm1)
    | (go_at_call 16; (with_reducible refine (KB.out _ HB1.out).mono ?_); rintro e w2 ⟨hb2, v2, rfl, ho2⟩; obtain ⟨q2, cap2, rfl, hc2, hm2, hq2, hq2'⟩ := ho2.at entC_len; have HB2 := Lib.hid hb2; have HQ2 := Lib.hid hq2; have HC2 : Hid (y.length ≤ cap2 ∧ cap2 ≤ maxLen) := ⟨hc2, hm2⟩; clear hb2 ho2 hq2 hq2' hc2 hm2))
  obtain ⟨nx, hnx⟩ : ∃ nx, x.length = nx := ⟨_, rfl⟩
  obtain ⟨ny, hny⟩ : ∃ ny, y.length = ny := ⟨_, rfl⟩
  rw [hnx] at HC1 ⊢
  rw [hny] at HC2 ⊢
  have HS : Hid (TwoS w2 x y nx ny q1 cap1 q2 cap2) := ⟨HGA.out, HGB.out, hnx, hny, HC1.out, HC2.out, HQ1.out.below HB2.out, HQ2.out⟩
  have HW2 : Hid (Below w.heap.size w w2) := HB1.out.trans (HB2.out.mono HB1.out.size)
  have HNX := Lib.hid hnx
  have HNY := Lib.hid hny
  obtain ⟨nd, hnd⟩ : ∃ nd, Hid ((diffL x y).length = nd) := ⟨_, rfl⟩
  obtain ⟨ne, hne⟩ : ∃ ne, Hid ((diffL y x).length = ne) := ⟨_, rfl⟩
  obtain ⟨no, hno⟩ : ∃ no, Hid ((overL x y).length = no) := ⟨_, rfl⟩
  have hx16 := HS.out.nx16
  have hy16 := HS.out.ny16
  have hno32 : no ≤ 32 := by have := over_le x y; have := hno.out; omega
  clear KA KB HB1 HB2 HC1 HC2 HQ1 HQ2 hnx hny
  have KD := Lib.hid (HS.out.diff nd hnd.out)
  go_upto_region 3 with (first
    | (go_at_call 18; (with_reducible refine KD.out.mono ?_); rintro e w3 ⟨hb3, qd, cd, rfl, hcd, hmd, hqd⟩; have HB3 := Lib.hid hb3; have HQD := Lib.hid hqd; clear hb3 hqd hcd hmd)
    | (go_at_call 24; (with_reducible refine ((HS.out.below HB3.out).turned hnd.out HQD.out).mono ?_); rintro e w4 ⟨hb4, ql, cl, rfl, hcl, hml, hql⟩; have HB4 := Lib.hid (HB3.out.trans (hb4.mono HB3.out.size)); have HQL := Lib.hid hql; have HCL : Hid (ny ≤ cl ∧ cl ≤ maxLen) := ⟨hcl, hml⟩; clear hb4 hql hcl hml))
  have HS4 := Lib.hid (HS.out.below HB4.out)
  have HW4 : Hid (Below w.heap.size w w4) := HW2.out.trans (HB4.out.mono HW2.out.size)
  clear KD HB3 HQD HB4 HS HW2
  have KD := Lib.hid (HS4.out.turn.diff ne hne.out)
  go_upto_region 4 with (first
    | (go_at_call 18; (with_reducible refine KD.out.mono ?_); rintro e w5 ⟨hb5, qd, cd, rfl, hcd, hmd, hqd⟩; have HB5 := Lib.hid hb5; have HQD := Lib.hid hqd; clear hb5 hqd hcd hmd)
    | (go_at_call 24; (with_reducible refine ((HS4.out.turn.below HB5.out).turned hne.out HQD.out).mono ?_); rintro e w6 ⟨hb6, qm, cm, rfl, hcm, hmm, hqm⟩; have HB6 := Lib.hid (HB5.out.trans (hb6.mono HB5.out.size)); have HQM := Lib.hid hqm; have HCM : Hid (nx ≤ cm ∧ cm ≤ maxLen) := ⟨hcm, hmm⟩; clear hb6 hqm hcm hmm))
  have HS6 := Lib.hid (HS4.out.below HB6.out)
  have HQL6 := Lib.hid (HQL.out.below HB6.out)
  have HW6 : Hid (Below w.heap.size w w6) := HW4.out.trans (HB6.out.mono HW4.out.size)
  clear KD HB5 HQD HB6 HS4 HW4 HQL
  have KY := Lib.hid HS6.out.turn.of
  have KX : Hid (∀ W, Below w6.heap.size w6 W → Calls Try.prog 11 #[.slice q1 nx cap1] W fun e w' => Below W.heap.size W w' ∧ ∃ q c, e = .returned (.slice q nx c) ∧ nx ≤ c ∧ c ≤ maxLen ∧ SlAt rentC 2 w' q (x.map toR)) := fun W h => (HS6.out.below h).of
  go_upto_region 6 with (first
    | (go_at_call 11; (with_reducible refine KY.out.mono ?_); rintro e w7 ⟨hb7, q7, c7, rfl, hc7, hm7, hq7⟩; have HB7 := Lib.hid hb7; have HQ7 := Lib.hid hq7; have HC7 : Hid (ny ≤ c7 ∧ c7 ≤ maxLen) := ⟨hc7, hm7⟩; clear hb7 hq7 hc7 hm7)
    | (go_at_call 15; (with_reducible refine (same_any ql q7 y ny cl c7 w7 HNY.out HCL.out.1 HCL.out.2 HC7.out.1 HC7.out.2 (HQL6.out.below HB7.out) HQ7.out).mono ?_); rintro e w8 ⟨rfl, hb8⟩; have HB8 := Lib.hid (HB7.out.trans (hb8.mono HB7.out.size)); clear hb8)
    | (go_at_call 11; (with_reducible refine (KX.out _ HB8.out).mono ?_); rintro e w9 ⟨hb9, q9, c9, rfl, hc9, hm9, hq9⟩; have HB9 := Lib.hid (HB8.out.trans (hb9.mono HB8.out.size)); have HQ9 := Lib.hid hq9; have HC9 : Hid (nx ≤ c9 ∧ c9 ≤ maxLen) := ⟨hc9, hm9⟩; clear hb9 hq9 hc9 hm9)
    | (go_at_call 15; (with_reducible refine (same_any qm q9 x nx cm c9 w9 HNX.out HCM.out.1 HCM.out.2 HC9.out.1 HC9.out.2 (HQM.out.below HB9.out) HQ9.out).mono ?_); rintro e w10 ⟨rfl, hb10⟩; have HB10 := Lib.hid (HB9.out.trans (hb10.mono HB9.out.size)); clear hb10))
  have HS10 := Lib.hid (HS6.out.below HB10.out)
  have HW10 : Hid (Below w.heap.size w w10) := HW6.out.trans (HB10.out.mono HW6.out.size)
  clear KX KY HB7 HB8 HB9 HB10 HS6 HW6 HQ7 HQ9 HQL6 HQM HC7 HC9 HCL HCM
  have KO := Lib.hid (HS10.out.over no hno.out)
  go_wp2_with (go_at_call 20; (with_reducible refine KO.out.mono ?_); rintro e w11 ⟨hb11, qo, co, rfl, hco, hmo, hqo⟩; have HB11 := Lib.hid hb11; have HQO := Lib.hid hqo; clear hb11 hqo)
  have HS11 := Lib.hid (HS10.out.below HB11.out)
  have HW11 : Hid (Below w.heap.size w w11) := HW10.out.trans (HB11.out.mono HW10.out.size)
  clear KO HB11 HS10 HW10
  have KGY : Hid (∀ W nm, Below w11.heap.size w11 W → nm.length = 12 → Calls Try.prog 17 #[.slice q2 ny cap2, .agg (bC nm)] W fun e w' => e = .returned (.tuple #[.string (getT y nm), .bool (getB y nm)]) ∧ Below W.heap.size W w') := fun W nm h h12 => get_any q2 y ny cap2 nm W HNY.out HS11.out.hy.1 HS11.out.hy.2 (HS11.out.ay.below h) h12
  have KGO : Hid (∀ W nm, Below w11.heap.size w11 W → nm.length = 12 → Calls Try.prog 17 #[.slice qo no co, .agg (bC nm)] W fun e w' => e = .returned (.tuple #[.string (getT (overL x y) nm), .bool (getB (overL x y) nm)]) ∧ Below W.heap.size W w') := fun W nm h h12 => get_any qo (overL x y) no co nm W hno.out hco hmo (HQO.out.below h) h12
  have HGO : Hid (∀ n, n.length = 12 → getR (overL x y) n = (getR y n).or (getR x n)) := fun n h => getR_over HGA.out.upR HGB.out.upR n h
  have HLO : Hid (no = ny + (x.filter fun e => (getR y e.n).isNone).length) := by
    have := over_len HGA.out.upR HGB.out.upR
    rw [hno.out, HNY.out] at this
    exact this
  have HGX := Lib.hid HGA.out.upR.get
  have HGY := Lib.hid HGB.out.upR.get
  clear hco hmo HQO
  go_loopw [12, 13] (fun v i wr => ∃ k : Nat, k ≤ nx ∧ i = .int .i64 k ∧ v = .int .i64 ((ny + ((x.take k).filter fun e => (getR y e.n).isNone).length : Nat) : Int) ∧ Hid (Below w11.heap.size w11 wr)) (fun _ i _ => nx - (intOf i).toNat)
  case atStart => exact ⟨0, Nat.zero_le _, rfl, rfl, Below.refl _ _⟩
  case round =>
    obtain ⟨k, hk, rfl, rfl, HV⟩ := hrel
    by_cases hlt : k < nx
    · have hlt' : (k : Int) < nx := by omega
      have hk0 : (0 : Int) ≤ (k : Int) := by omega
      have hk2 : k < x.length := by rw [HNX.out]; exact hlt
      obtain ⟨bx, ox, rfl, hb, hr⟩ := HS11.out.ax k hk2
      have HR : Hid (∀ W, Below w11.heap.size w11 W → W.rangeAt bx (ox + k * 13) (entC x[k])) := fun W h => range_of_block hr (h.block bx hb)
      have HFS := Lib.hid (flt_snoc y x k hk2)
      have hfl : ((x.take k).filter fun e => (getR y e.n).isNone).length ≤ 16 := Nat.le_trans (List.length_filter_le _ _) (by rw [List.length_take]; omega)
      have HX12 : Hid (x[k].n.length = 12) := x[k].hn
      have KY := Lib.hid (KGY.out wr x[k].n HV.out x[k].hn)
      have HRn : Hid (wr.rangeAt bx (ox + k * 13) (bC x[k].n).toList) := ent_name (HR.out wr HV.out)
      have HO1 := Lib.hid (HGO.out x[k].n x[k].hn)
      rw [HGX.out _ (List.getElem_mem hk2)] at HO1
      have KO : Hid (∀ W, Below w11.heap.size w11 W → Calls Try.prog 17 #[.slice qo no co, .agg (bC x[k].n)] W fun e w' => e = .returned (.tuple #[.string ((getR (overL x y) x[k].n).getD ⟨#[]⟩), .bool (getR (overL x y) x[k].n).isSome]) ∧ Below W.heap.size W w') := fun W h => KGO.out W x[k].n h x[k].hn
      unfold getT getB at KY
      rw [HO1.out] at KO
      clear hr HO1
      generalize x[k] = z at *
      generalize ((x.take k).filter fun e => (getR y e.n).isNone).length = fl at *
      cases hg : getR y z.n with
      | some t =>
        rw [hg] at KY HFS
        simp only [Option.getD_some, Option.isSome_some, Option.isNone_some, Bool.false_eq_true, if_false, Nat.add_zero] at KY HFS
        clear hg
        go_wp2_with (first
          | (with_reducible refine ld_N rfl _ rfl bx (ox + k * 13) z.n HX12.out rfl HRn.out ?_)
          | (go_at_call 17; (with_reducible refine KY.out.mono ?_); rintro e w12 ⟨rfl, hb12⟩))
        have hb13 := HV.out.trans (hb12.mono HV.out.size)
        go_roundw
        case rel => exact ⟨k + 1, by omega, by go_num, by rw [HFS.out]; go_num, hb13⟩
        case measure => simp [intOf]; omega
      | none =>
        rw [hg] at KY HFS KO
        simp only [Option.getD_none, Option.isSome_none, Option.isNone_none, if_true, Option.none_or, Option.getD_some, Option.isSome_some] at KY HFS KO
        clear hg
        go_upto_region 13 with (first
          | (with_reducible refine ld_N rfl _ rfl bx (ox + k * 13) z.n HX12.out rfl HRn.out ?_)
          | (go_at_call 17; (with_reducible refine KY.out.mono ?_); rintro e w12 ⟨rfl, hb12⟩; have HV12 : Hid (Below w11.heap.size w11 w12) := HV.out.trans (hb12.mono HV.out.size); clear hb12))
        have HRn2 : Hid (w12.rangeAt bx (ox + k * 13) (bC z.n).toList) := ent_name (HR.out w12 HV12.out)
        have KO2 := Lib.hid (KO.out w12 HV12.out)
        go_upto_region 15 with (first
          | (with_reducible refine ld_N rfl _ rfl bx (ox + k * 13) z.n HX12.out rfl HRn2.out ?_)
          | (go_at_call 17; (with_reducible refine KO2.out.mono ?_); rintro e w13 ⟨rfl, hb13⟩; have HV13 : Hid (Below w11.heap.size w11 w13) := HV12.out.trans (hb13.mono HV12.out.size); clear hb13))
        have hct : w13.cell? ⟨bx, ox + k * 13 + 12, none⟩ = some (.string z.t) := ent_text (HR.out w13 HV13.out)
        go_wp2_with fail
        go_roundw
        case rel => exact ⟨k + 1, by omega, by go_num, by rw [HFS.out]; go_num, HV13.out⟩
        case measure => simp [intOf]; omega
    · obtain rfl : k = nx := by omega
      rw [List.take_of_length_le (by rw [HNX.out]; omega), ← HLO.out]
      have HS13 := Lib.hid (HS11.out.below HV.out)
      have HW13 : Hid (Below w.heap.size w wr) := HW11.out.trans (HV.out.mono HW11.out.size)
      have KGO : Hid (∀ W nm, Below wr.heap.size wr W → nm.length = 12 → Calls Try.prog 17 #[.slice qo no co, .agg (bC nm)] W fun e w' => e = .returned (.tuple #[.string (getT (overL x y) nm), .bool (getB (overL x y) nm)]) ∧ Below W.heap.size W w') := fun W nm h h12 => KGO.out W nm (HV.out.trans (h.mono HV.out.size)) h12
      clear HS11 HW11 HV HLO KGY HGX
      generalize hw13 : wr = w13 at *
      clear hw13
      go_wp2_with fail
      go_loopw [18] (fun i wr => ∃ k : Nat, k ≤ ny ∧ i = .int .i64 k ∧ Hid (Below w13.heap.size w13 wr)) (fun i _ => ny - (intOf i).toNat)
      case atStart => exact ⟨0, Nat.zero_le _, rfl, Below.refl _ _⟩
      case round =>
        obtain ⟨j, hj, rfl, HV⟩ := hrel
        by_cases hlt : j < ny
        · have hlt' : (j : Int) < ny := by omega
          have hk0 : (0 : Int) ≤ (j : Int) := by omega
          have hk2 : j < y.length := by rw [HNY.out]; exact hlt
          obtain ⟨bx, ox, rfl, hb, hr⟩ := HS13.out.ay j hk2
          have HR : Hid (∀ W, Below w13.heap.size w13 W → W.rangeAt bx (ox + j * 13) (entC y[j])) := fun W h => range_of_block hr (h.block bx hb)
          have HX12 : Hid (y[j].n.length = 12) := y[j].hn
          have HRn : Hid (wr.rangeAt bx (ox + j * 13) (bC y[j].n).toList) := ent_name (HR.out wr HV.out)
          have HO1 := Lib.hid (HGO.out y[j].n y[j].hn)
          rw [HGY.out _ (List.getElem_mem hk2)] at HO1
          have KO : Hid (Calls Try.prog 17 #[.slice qo no co, .agg (bC y[j].n)] wr fun e w' => e = .returned (.tuple #[.string ((getR (overL x y) y[j].n).getD ⟨#[]⟩), .bool (getR (overL x y) y[j].n).isSome]) ∧ Below wr.heap.size wr w') := KGO.out wr y[j].n HV.out y[j].hn
          rw [HO1.out] at KO
          simp only [Option.some_or, Option.getD_some, Option.isSome_some] at KO
          clear hr HO1
          generalize y[j] = z at *
          go_upto_region 21 with (first
            | (with_reducible refine ld_N rfl _ rfl bx (ox + j * 13) z.n HX12.out rfl HRn.out ?_)
            | (go_at_call 17; (with_reducible refine KO.out.mono ?_); rintro e w14 ⟨rfl, hb14⟩; have HV14 : Hid (Below w13.heap.size w13 w14) := HV.out.trans (hb14.mono HV.out.size); clear hb14))
          have hct : w14.cell? ⟨bx, ox + j * 13 + 12, none⟩ = some (.string z.t) := ent_text (HR.out w14 HV14.out)
          go_wp2_with fail
          go_roundw
          case rel => exact ⟨j + 1, by omega, by go_num, HV14.out⟩
          case measure => simp [intOf]; omega
        · obtain rfl : j = ny := by omega
          have HSf := Lib.hid (HS13.out.below HV.out)
          have HWf : Hid (Below w.heap.size w wr) := HW13.out.trans (HV.out.mono HW13.out.size)
          have HK := Lib.hid known_any
          have KD : Hid (∀ W, Below wr.heap.size wr W → Calls Try.prog 18 #[.slice q1 k cap1, .slice q1 k cap1] W fun e w' => Below W.heap.size W w' ∧ ∃ q c, e = .returned (.slice q 0 c) ∧ 0 ≤ c ∧ c ≤ maxLen ∧ SlAt chC 15 w' q (diffL x x)) := fun W h =>
            have hs := HSf.out.below h
            TwoS.diff (x := x) (y := x) ⟨hs.gx, hs.gx, hs.lx, hs.lx, hs.hx, hs.hx, hs.ax, hs.ax⟩ 0 (by rw [diff_same]; rfl)
          clear HS13 HW13 HV HSf
          go_wp2_with (first
            | (go_at_call 12; (with_reducible refine (HK.out _).mono ?_); rintro e we ⟨rfl, hbe⟩; have HBE := Lib.hid hbe; clear hbe)
            | (go_at_call 18; (with_reducible refine (KD.out _ HBE.out).mono ?_); rintro e wf ⟨hbf, qf, cf, rfl, _, _, _⟩; have HBF := Lib.hid (HBE.out.trans (hbf.mono HBE.out.size)); clear hbf))
          go_ret
          exact ⟨rfl, HWf.out.trans (HBF.out.mono HWf.out.size)⟩
end Go.Proofs.Ytpnmficlebnajaa
