/- How many acts of each kind; lists that are the same. -/
import Derived.Test.YtmbbhnbfgcmkgaaDoorCT
import Derived.Test.YtmbbhnbfgcmkgaaDoorO5
namespace Go.Proofs.YtmbbhnbfgcmkgaaDoor
open Go.RowKit Go.Maps

theorem wl_lenG {ops : Array Oper} {rest : List Oper} {o : Oper} {a : Act} {w : World} {Q : Exit → Act → World → Prop} (hw : Region.wanted o (yielded ops a.tmps) = true) (m : Operand) (t : TypeId) (hop : o.op = Op.call { callee := Callee.builtin Builtin.len, args := #[m], argTypes := #[t] })
    (k e : TypeId) (ht : Tryd.prog.underlying t = some (.map k e)) (R : Value → Option (DataW Unit × List MemPlace)) (b n : Nat) (D : DataW Unit) (hm : a.eval m = .map (some b)) (hown : w.ownsMap Tryd.prog k R b n D)
    (hK : wpList Tryd.prog ops Q rest (a.put o.dst (.int .i64 (Maps.size D))) w) : wpList Tryd.prog ops Q (o :: rest) a w :=
  wpList_step fun _ hK' => by
    rw [if_pos hw]
    unfold Oper.wp
    simp [execOp, hop, resolve, invoke, builtin, hm, hown.len ht o.type, Result.andThen]
    exact hK' _ _ hK
def kinN (f : Int → Nat) : Nat → Nat
  | 0 => 0
  | j + 1 => kinN f j + one (f ((j : Int) + 1))
theorem kinN_all (f : Int → Nat) : kinN f 6 = kindsN f := by
  unfold kindsN
  simp [kinN]
theorem kinN_le (f : Int → Nat) : ∀ j, kinN f j ≤ j
  | 0 => Nat.le_refl _
  | j + 1 => by have := kinN_le f j; unfold kinN one; split <;> omega
set_option maxRecDepth 100000 in
set_option maxHeartbeats 16000000 in
theorem ScriptCounts_walkI (q : Option Addr) (xs : List A4) (n cap : Nat) (p : Option Addr) (ys : List A4) (m cp : Nat) (w : World) (hn : xs.length = n) (hc : n ≤ cap) (hm : cap ≤ maxLen) (hA : Acts w q xs) (hn2 : ys.length = m) (hc2 : m ≤ cp) (hm2 : cp ≤ maxLen) (hA2 : Acts w p ys) (hmx : MX w) (ht : TB w) :
    Calls Tryd.prog 6 #[.slice q n cap, .slice p m cp] w fun e w' => e = .returned (.bool true) ∧ Below w.heap.size w w' := by
  have HC := Lib.hid (cut_any q xs n cap w hn hc hm hA)
  have HC2 : Hid (∀ W, Below w.heap.size w W → Calls Tryd.prog 7 #[.slice p m cp] W fun e w' => ∃ v, e = .returned v ∧ OwnE a4C 36 4 w' W.heap.size v (cutL ys) ∧ Below W.heap.size W w') := fun W hW => cut_any p ys m cp W hn2 hc2 hm2 (hA2.below hW)
  have HOK := Lib.hid (cutL_ok hA)
  have HOK2 := Lib.hid (cutL_ok hA2)
  have hcl := cutL_len xs
  have hcl2 := cutL_len ys
  have HMX := Lib.hid hmx
  have HTB := Lib.hid ht
  clear hn hc hm hA hn2 hc2 hm2 hA2 hmx ht
  generalize cutL xs = c at *
  generalize cutL ys = d at *
  have KK : Hid (∀ W, Below w.heap.size w W → Calls Tryd.prog 16 #[] W fun e w' => e = .returned (.bool true) ∧ Below W.heap.size W w') := fun W hW => known_any W (HMX.out.below hW) (HTB.out.below hW)
  have KC1 : Hid (Calls Tryd.prog 7 #[.slice q n cap] w fun e w' => ∃ q1 cap1, e = .returned (.slice q1 c.length cap1) ∧ Acts w' q1 c ∧ Below w.heap.size w w') := by
    refine HC.out.mono ?_
    rintro e w1 ⟨v, rfl, hown, hb1⟩
    obtain ⟨q1, cap1, rfl, -, -, hsl, -⟩ := hown.at a4C_len
    exact ⟨q1, cap1, rfl, ⟨hsl, fun x hx => (HOK.out x hx).below hb1⟩, hb1⟩
  have KC2 : Hid (∀ W, Below w.heap.size w W → Calls Tryd.prog 7 #[.slice p m cp] W fun e w' => ∃ q1 cap1, e = .returned (.slice q1 d.length cap1) ∧ Acts w' q1 d ∧ Below W.heap.size W w') := fun W hW => by
    refine (HC2.out W hW).mono ?_
    rintro e w1 ⟨v, rfl, hown, hb1⟩
    obtain ⟨q1, cap1, rfl, -, -, hsl, -⟩ := hown.at a4C_len
    exact ⟨q1, cap1, rfl, ⟨hsl, fun x hx => ((HOK2.out x hx).below hW).below hb1⟩, hb1⟩
  clear HC HC2 HOK HOK2
  generalize hcn : c.length = cn at *
  generalize hdn : d.length = dn at *
  have HCn := Lib.hid hcn
  have HDn := Lib.hid hdn
  clear hcn hdn
  go_enter Tryd.func6, Tryd.ntmps6
  go_upto_region 2 with (first
    | (go_at_call 7; (refine KC1.out.mono ?_); rintro e w1 ⟨q1, cap1, rfl, hA1, hb1⟩; have HA1 := Lib.hid hA1; have HB1 := Lib.hid hb1; clear hA1 hb1 KC1)
    | (go_at_call 7; (refine (KC2.out _ HB1.out).mono ?_); rintro e w2 ⟨q2, cap2, rfl, hA2, hb2⟩; have HD2 := Lib.hid hA2; have HA2 := ka HA1 hb2; have HB2 := bt HB1 hb2; clear hA2 hb2 KC2 HA1 HB1))
  go_upto_region 3 with (go_at_call 20; (refine (count_any q1 c cn cap1 w2 HCn.out (by omega) HA2.out).mono ?_); rintro e w3 ⟨rfl, hM3, hb3⟩)
  have HA3 := ka HA2 hb3
  have HD3 := ka HD2 hb3
  have HB3 := bt HB2 hb3
  clear HA2 HD2 HB2 hb3
  obtain ⟨D, hown, hcnt⟩ := hM3
  have HO3 := Lib.hid hown
  have HCt := Lib.hid hcnt
  clear hown hcnt
  generalize w2.heap.size = B at *
  go_wp2_with fail
  go_loopw [6, 7] (fun s i wr => wr = w3 ∧ ∃ j : Nat, j ≤ 6 ∧ i = .int .i64 ((j : Int) + 1) ∧ s = .int .i64 (kinN (cntK c) j : Nat)) (fun _ i _ => 7 - (intOf i).toNat)
  case atStart => exact ⟨rfl, 0, by omega, rfl, rfl⟩
  case round =>
    obtain ⟨rfl, j, hj, rfl, rfl⟩ := hrel
    by_cases hlt : j < 6
    · have hli : (j : Int) + 1 ≤ 6 := by omega
      obtain ⟨κ, hκ⟩ : ∃ κ : Int, κ = (j : Int) + 1 := ⟨_, rfl⟩
      have hκ1 : 1 ≤ κ := by omega
      have hκ2 : κ ≤ 6 := by omega
      rw [← hκ]
      rw [← hκ] at hli
      have hkey : keyOf Tryd.prog 3 (.int .i64 κ) = some (kk κ) := keyOf_int_mk Tryd.underlying3 (WalkArith.wf_i64 (by omega))
      obtain ⟨cc, hrun, hat, -⟩ := HO3.out.lookup_int lawI Tryd.underlying49 Tryd.underlying3 (zeroI _) hkey
      obtain rfl : cc = (cntK c κ : Nat) := by
        have := (HCt.out.at_ κ hκ1 hκ2).symm.trans hat
        simpa [kk] using this.symm
      have hcl3 : cntK c κ ≤ 1000 := by have := cnt_le c κ; have := HCn.out; omega
      have hkl := kinN_le (cntK c) j
      have HKs : Hid (kinN (cntK c) (j + 1) = kinN (cntK c) j + one (cntK c κ)) := by show _ = _; rw [hκ]; rfl
      have HK1 := Lib.hid hκ
      clear hat hkey hκ
      go_wp2_with fail
      go_loopw [8, 9] (fun s i wr2 => wr2 = wr ∧ ∃ k : Nat, k ≤ cn ∧ i = .int .i64 k ∧ s = .int .i64 (cntK (c.take k) κ : Nat)) (fun _ i _ => cn - (intOf i).toNat)
      case atStart => exact ⟨rfl, 0, Nat.zero_le _, rfl, rfl⟩
      case round =>
        obtain ⟨rfl, k, hk, rfl, rfl⟩ := hrel
        by_cases hltk : k < cn
        · have hlik : (k : Int) < cn := by omega
          have hkx : k < c.length := by rw [HCn.out]; exact hltk
          obtain ⟨b, f, rfl, hb, hr⟩ := HA3.out.row k hkx
          have hc0 : wr.cell? ⟨b, f + k * 4, none⟩ = some (.int .i64 c[k].kind) := by have := hr 0 _ rfl; simpa using this
          have HT : Hid (c.take (k + 1) = c.take k ++ [c[k]]) := List.take_succ_eq_append_getElem hkx
          have HS := Lib.hid (cnt_snoc (c.take k) c[k] κ)
          have hct : cntK (c.take k) κ ≤ 1000 := by have := cnt_le (c.take k) κ; have := List.length_take_le k c; omega
          clear hb hr
          generalize c.take k = cs at *
          generalize c[k] = x at *
          generalize cntK cs κ = cz at *
          by_cases he : x.kind = κ
          · have HS2 : Hid (cntK (cs ++ [x]) κ = cz + 1) := by show _ = _; rw [HS.out, if_pos he]
            have e1 : (x.kind == κ) = true := by simpa using he
            clear he HS
            generalize x.kind = xk at *
            go_wp2_with (refine wl_ix rfl 22 36 _ _ rfl Tryd.underlying22 4 sizA4 b f cn cap1 k rfl rfl hltk ?_)
            go_roundw
            case rel => exact ⟨trivial, k + 1, by omega, by go_num, by rw [HT.out, HS2.out]; go_num⟩
            case measure => simp [intOf]; omega
          · have HS2 : Hid (cntK (cs ++ [x]) κ = cz) := by show _ = _; rw [HS.out, if_neg he]; rfl
            have e1 : (x.kind == κ) = false := by simpa using he
            clear he HS
            generalize x.kind = xk at *
            go_wp2_with (refine wl_ix rfl 22 36 _ _ rfl Tryd.underlying22 4 sizA4 b f cn cap1 k rfl rfl hltk ?_)
            go_roundw
            case rel => exact ⟨trivial, k + 1, by omega, by go_num, by rw [HT.out, HS2.out]⟩
            case measure => simp [intOf]; omega
        · obtain rfl : k = cn := by omega
          have hlik : ¬ (k : Int) < k := by omega
          rw [List.take_of_length_le (Nat.le_of_eq HCn.out)]
          by_cases h0 : 0 < cntK c κ
          · have h0i : (0 : Int) < cntK c κ := by omega
            have HKs2 : Hid (kinN (cntK c) (j + 1) = kinN (cntK c) j + 1) := by show _ = _; rw [HKs.out]; unfold one; rw [if_pos h0]
            clear HKs
            generalize kinN (cntK c) j = kn at *
            generalize cntK c κ = cz at *
            go_wp2_with fail
            go_roundw
            case rel => exact ⟨trivial, j + 1, by omega, by rw [HK1.out]; go_num, by rw [HKs2.out]; go_num⟩
            case measure => rw [HK1.out]; simp [intOf]; omega
          · have h0i : ¬ (0 : Int) < cntK c κ := by omega
            have HKs2 : Hid (kinN (cntK c) (j + 1) = kinN (cntK c) j) := by show _ = _; rw [HKs.out]; unfold one; rw [if_neg h0]; rfl
            clear HKs
            generalize kinN (cntK c) j = kn at *
            generalize cntK c κ = cz at *
            go_wp2_with fail
            go_roundw
            case rel => exact ⟨trivial, j + 1, by omega, by rw [HK1.out]; go_num, by rw [HKs2.out]⟩
            case measure => rw [HK1.out]; simp [intOf]; omega
    · obtain rfl : j = 6 := by omega
      rw [kinN_all]
      have HSz := Lib.hid HCt.out.size_
      have KSm : Hid (∀ W, Below wr.heap.size wr W → Calls Tryd.prog 21 #[.slice q1 cn cap1, .slice q2 dn cap2] W fun e w' => e = .returned (.bool (decide (c.map A4.d = d.map A4.d))) ∧ Below W.heap.size W w') := fun W hW => sameP_any q1 c cn cap1 q2 d dn cap2 W HCn.out HDn.out (by omega) (HA3.out.below hW) (HD3.out.below hW)
      have KSs : Hid (∀ W, Below wr.heap.size wr W → Calls Tryd.prog 21 #[.slice q1 cn cap1, .slice q1 cn cap1] W fun e w' => e = .returned (.bool true) ∧ Below W.heap.size W w') := fun W hW => by
        have := sameP_any q1 c cn cap1 q1 c cn cap1 W HCn.out HCn.out (by omega) (HA3.out.below hW) (HA3.out.below hW)
        rwa [decide_eq_true (show c.map A4.d = c.map A4.d from rfl)] at this
      have KOf : Hid (∀ W, Below wr.heap.size wr W → Calls Tryd.prog 10 #[.slice q2 dn cap2] W fun e w' => ∃ q5 cap5, e = .returned (.slice q5 dn cap5) ∧ SlAt d4C 4 w' q5 (d.map A4.d) ∧ Below W.heap.size W w') := fun W hW => by
        refine (ofs_any q2 d dn cap2 W HDn.out (by omega) (HD3.out.below hW)).mono ?_
        rintro e w5 ⟨v2, rfl, hown2, hb5⟩
        obtain ⟨q5, cap5, hv2, -, -, hsl5, -⟩ := hown2.at d4C_len
        rw [List.length_map, HDn.out] at hv2
        exact ⟨q5, cap5, by rw [hv2], hsl5, hb5⟩
      have KSd : Hid (∀ W q5 cap5, Below wr.heap.size wr W → SlAt d4C 4 W q5 (d.map A4.d) → Calls Tryd.prog 19 #[.slice q1 cn cap1, .slice q5 dn cap5] W fun e w' => e = .returned (.bool (decide (c.map A4.d = d.map A4.d))) ∧ Below W.heap.size W w') := fun W q5 cap5 hW hs => same_any q1 c cn cap1 q5 (d.map A4.d) dn cap5 W HCn.out (by rw [List.length_map, HDn.out]) (by omega) (HA3.out.below hW) hs
      have HBr : Hid (Below wr.heap.size wr wr) := Below.refl _ _
      generalize decide (c.map A4.d = d.map A4.d) = sb at *
      have hsb : (sb == sb) = true := by simp
      rw [← HSz.out]
      generalize hsz : Maps.size D = sz at *
      have HSz2 := Lib.hid hsz
      clear hsz HSz
      go_wp2_with (first
        | (go_at_call 16; (refine (KK.out _ HB3.out).mono ?_); rintro e w5 ⟨rfl, hb5⟩; have HB5 := Lib.hid hb5; have HO5 := Lib.hid (own_below HO3.out hb5); clear hb5)
        | (refine wl_lenG rfl _ 49 rfl 3 3 Tryd.underlying49 _ B cn D rfl HO5.out ?_; rw [HSz2.out])
        | (go_at_call 21; (refine (KSm.out _ HB5.out).mono ?_); rintro e w6 ⟨rfl, hb6⟩; have HB6 := bt HB5 hb6; clear hb6 KSm)
        | (go_at_call 10; (refine (KOf.out _ HB6.out).mono ?_); rintro e w7 ⟨q5, cap5, rfl, hs7, hb7⟩; have HB7 := bt HB6 hb7; have HS7 := Lib.hid hs7; clear hb7 hs7)
        | (go_at_call 19; (refine (KSd.out _ _ _ HB7.out HS7.out).mono ?_); rintro e w8 ⟨rfl, hb8⟩; have HB8 := bt HB7 hb8; clear hb8)
        | (go_at_call 21; (refine (KSs.out _ HB8.out).mono ?_); rintro e w9 ⟨rfl, hb9⟩; have HB9 := bt HB8 hb9; clear hb9))
      go_ret
      exact ⟨rfl, HB3.out.trans (HB9.out.mono HB3.out.size)⟩
end Go.Proofs.YtmbbhnbfgcmkgaaDoor
