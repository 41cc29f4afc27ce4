/- What was printed is parsed as it was. -/
import Derived.Test.YtmbbhnbfgcmkgaaDoorLAw
namespace Go.Proofs.YtmbbhnbfgcmkgaaDoor
open Go.RowKit
theorem lineD_len2 {x : D4} (hb : x.b.length ≤ 1300) : (lineD x).length ≤ 4000 := by
  unfold lineD
  rw [List.length_append, List.length_append, List.length_singleton]
  have h1 := wordL_len x.kind
  have h2 := dec_len x.who
  have h3 := dec_len x.n
  have h4 := hexD_len x.b
  rcases uses_cases x.kind with ⟨hu, -⟩ | ⟨hu, -⟩ | ⟨hu, -⟩ | ⟨hu, -⟩
  · rw [hu, flat1]; simp; omega
  · rw [hu, flat2]; simp; omega
  · rw [hu, flat3]; simp; omega
  · rw [hu]; simp; omega
theorem print_len2 : ∀ (xs : List D4) (k : Nat) (acc : List UInt8), k ≤ 200 → acc.length ≤ k * 4000 → (printF k acc xs).1.length ≤ 800000
  | [], k, acc, hk, h => by rw [printF]; simp only; have : k * 4000 ≤ 200 * 4000 := Nat.mul_le_mul_right _ hk; omega
  | x :: xs, k, acc, hk, h => by
    rw [printF]
    split
    · simp
    · rename_i h2
      split
      · simp
      · rename_i h3
        have he : errD (bareD x) = 0 := Decidable.not_not.1 h3
        have := lineD_len2 (err_ok he).2.2.2.2.2.2
        exact print_len2 xs (k + 1) _ (by omega) (by rw [List.length_append]; omega)
set_option maxRecDepth 100000 in
set_option maxHeartbeats 16000000 in
theorem ScriptBack_walkI (q : Option Addr) (xs : List A4) (n cap : Nat) (w : World) (hn : xs.length = n) (hc : n ≤ cap) (hm : cap ≤ maxLen) (hA : Acts w q xs) (hmx : MX w) (ht : TB w) :
    Calls Tryd.prog 5 #[.slice q n cap] w fun e w' => e = .returned (.bool true) ∧ Below w.heap.size w w' := by
  have HC := Lib.hid (cut_any q xs n cap w hn hc hm hA)
  have HOK := Lib.hid (cutL_ok hA)
  have HBy : Hid (∀ x ∈ cutL xs, x.b.length ≤ 1310) := cutL_b
  have hcl := cutL_len xs
  have HMX := Lib.hid hmx
  have HTB := Lib.hid ht
  clear hn hc hm hA hmx ht
  generalize cutL xs = c at *
  have KK : Hid (∀ W, Below w.heap.size w W → Calls Tryd.prog 16 #[] W fun e w' => e = .returned (.bool true) ∧ Below W.heap.size W w') := fun W hW => known_any W (HMX.out.below hW) (HTB.out.below hW)
  go_enter Tryd.func5, Tryd.ntmps5
  go_upto_region 2 with (go_at_call 7; (refine HC.out.mono ?_); rintro e w1 ⟨v, rfl, hown, hb1⟩)
  obtain ⟨q1, cap1, rfl, hc1, hm1, hsl, -⟩ := hown.at a4C_len
  have HA : Hid (Acts w1 q1 c) := ⟨hsl, fun x hx => (HOK.out x hx).below hb1⟩
  have HB := Lib.hid hb1
  clear hown hsl hb1 HC HOK hc1 hm1
  generalize hcn : c.length = cn at *
  have HCn := Lib.hid hcn
  clear hcn
  go_upto_region 3 with (go_at_call 8; (refine (print_any q1 c cn cap1 w1 HCn.out (by omega) HA.out (fun x hx => by have := HBy.out x hx; omega) (HTB.out.below HB.out)).mono ?_); rintro e w2 ⟨rfl, hb2⟩; have HA2 := ka HA hb2; have HB2 := bt HB hb2; clear hb2)
  clear HA HB
  have HPE : Hid ((printF 0 [] (c.map A4.d)).2 ≠ 0 → (printF 0 [] (c.map A4.d)).1 = []) := print_err _ _ _
  have HPB : Hid ((printF 0 [] (c.map A4.d)).2 = 0 → parseL (printF 0 [] (c.map A4.d)).1 = ((c.map A4.d).map bareD, 0, 0)) := back_parse
  have hpl := print_len2 (c.map A4.d) 0 [] (by omega) (by simp)
  generalize printF 0 [] (c.map A4.d) = P at *
  obtain ⟨ps, pe⟩ := P
  simp only at HPE HPB hpl ⊢
  by_cases hpe : pe = 0
  case neg =>
    have e1 : (pe == 0) = false := by simpa using hpe
    have e2 : (pe != 0) = true := by simpa using hpe
    obtain rfl := HPE.out hpe
    clear hpe HPE HPB hpl
    go_wp2_with (go_at_call 16; (refine (KK.out _ HB2.out).mono ?_); rintro e w5 ⟨rfl, hb5⟩; have HB5 := bt HB2 hb5; clear hb5)
    go_ret
    exact ⟨rfl, HB5.out⟩
  case pos =>
  subst hpe
  have HP2 := Lib.hid (HPB.out rfl)
  have KP : Hid (∀ W, Below w.heap.size w W → Calls Tryd.prog 17 #[.string ⟨ps.toArray⟩] W fun e w' => ∃ (q3 : Option Addr) (ys : List A4) (cap3 : Nat), e = .returned (.tuple #[.slice q3 cn cap3, .int .i64 0, .int .i64 0]) ∧ ys.length = cn ∧ ys.map A4.d = (c.map A4.d).map bareD ∧ Acts w' q3 ys ∧ Below W.heap.size W w') := fun W hW => by
    refine (parse_any ps W (by omega) (HMX.out.below hW)).mono fun e w' h => ?_
    obtain ⟨q3, ys, cap3, rfl, hy, hA3, hb3⟩ := h.out
    rw [HP2.out] at hy ⊢
    have hyl : ys.length = cn := by have := congrArg List.length hy; simpa [HCn.out] using this
    exact ⟨q3, ys, cap3, by rw [hyl]; rfl, hyl, hy, hA3, hb3⟩
  clear HPE HPB HP2 hpl
  go_upto_region 6 with (go_at_call 17; (refine (KP.out _ HB2.out).mono ?_); rintro e w3 ⟨q3, ys, cap3, rfl, hyl, hy, hA3, hb3⟩)
  have HA3 := ka HA2 hb3
  have HB3 := bt HB2 hb3
  have HY3 := Lib.hid hA3
  have HYl := Lib.hid hyl
  have HYd := Lib.hid hy
  clear HA2 HB2 hb3 hA3 hyl hy KP
  go_wp2_with fail
  go_loopw [8] (fun i wr => ∃ k : Nat, k ≤ cn ∧ i = .int .i64 k ∧ Hid (Below w.heap.size w wr) ∧ Hid (Acts wr q1 c) ∧ Hid (Acts wr q3 ys)) (fun i _ => cn - (intOf i).toNat)
  case atStart => exact ⟨0, Nat.zero_le _, rfl, HB3.out, HA3.out, HY3.out⟩
  case round =>
    obtain ⟨k, hk, rfl, HB, HA, HY⟩ := hrel
    clear HB3 HA3 HY3
    by_cases hlt : k < cn
    · have hli : (k : Int) < cn := by omega
      have hkx : k < c.length := by rw [HCn.out]; exact hlt
      have hky : k < ys.length := by rw [HYl.out]; exact hlt
      obtain ⟨b, f, rfl, hb, hr⟩ := HA.out.row k hkx
      have HR := Lib.hid (InRow.mk hb hr)
      obtain ⟨b2, f2, rfl, hb2, hr2⟩ := HY.out.row k hky
      have HR2 := Lib.hid (InRow.mk hb2 hr2)
      have HX := Lib.hid (HA.out.ok _ (List.getElem_mem hkx))
      have HZ := Lib.hid (HY.out.ok _ (List.getElem_mem hky))
      have HXY : Hid (ys[k].d = bareD c[k].d) := by
        show _ = _
        have := congrArg (fun l => l[k]?) HYd.out
        simpa [hkx, hky] using this
      have hbl := HBy.out _ (List.getElem_mem hkx)
      clear hb hr hb2 hr2
      generalize c[k] = x at *
      generalize ys[k] = z at *
      go_upto_region 11 with fail
      refine wp_region_held_drew (S := fun w' => Below wr.heap.size wr w') (by kernel_rfl) (Below.refl _ _).drew (fun hH => ?_)
      show wpAnyH Tryd.prog Region.Mode.any _ _ _ 12 #[false, false, false, false, false, false, false, false, false, false, false, false] _ _
      refine takeD (i := 0) (v := .slice (some ⟨b2, f2, none⟩) cn cap3) 48 rfl rfl (by kernel_rfl) (by kernel_rfl) (by kernel_rfl) (fun _ _ _ h => h) (Or.inl ⟨rfl, fun w' hS => rfl⟩) hH ?_
      simp only [Act.put, List.setIfInBounds_toArray, List.set_cons_zero, List.set_cons_succ]
      refine takeD (i := 1) (v := .int .i64 (k : Int)) 49 rfl rfl (by kernel_rfl) (by kernel_rfl) (by kernel_rfl) (fun _ _ _ h => h) (Or.inl ⟨rfl, fun w' hS => rfl⟩) hH ?_
      simp only [Act.put, List.setIfInBounds_toArray, List.set_cons_zero, List.set_cons_succ]
      refine takeD (i := 2) (v := .pointer (some ⟨b2, f2 + k * 4, none⟩)) 50 rfl rfl (by kernel_rfl) (by kernel_rfl) (by kernel_rfl) (fun _ _ _ h => h) (Or.inl ⟨rfl, fun w' hS => y_ix 22 36 _ _ rfl Tryd.underlying22 4 sizA4 b2 f2 cn cap3 k rfl rfl hlt⟩) hH ?_
      simp only [Act.put, List.setIfInBounds_toArray, List.set_cons_zero, List.set_cons_succ]
      refine takeD (i := 3) (v := .agg (a4C z).toArray) 51 rfl rfl (by kernel_rfl) (by kernel_rfl) (by kernel_rfl) (fun _ _ _ h => h) (Or.inl ⟨rfl, fun w' hS => y_A4 _ rfl b2 (f2 + k * 4) z rfl (range_of_block HR2.out.row (hS.block _ HR2.out.lt))⟩) hH ?_
      simp only [Act.put, List.setIfInBounds_toArray, List.set_cons_zero, List.set_cons_succ]
      refine takeD (i := 5) (v := .slice (some ⟨b, f, none⟩) cn cap1) 53 rfl rfl (by kernel_rfl) (by kernel_rfl) (by kernel_rfl) (fun _ _ _ h => h) (Or.inl ⟨rfl, fun w' hS => rfl⟩) hH ?_
      simp only [Act.put, List.setIfInBounds_toArray, List.set_cons_zero, List.set_cons_succ]
      refine takeD (i := 6) (v := .int .i64 (k : Int)) 54 rfl rfl (by kernel_rfl) (by kernel_rfl) (by kernel_rfl) (fun _ _ _ h => h) (Or.inl ⟨rfl, fun w' hS => rfl⟩) hH ?_
      simp only [Act.put, List.setIfInBounds_toArray, List.set_cons_zero, List.set_cons_succ]
      refine takeD (i := 7) (v := .pointer (some ⟨b, f + k * 4, none⟩)) 55 rfl rfl (by kernel_rfl) (by kernel_rfl) (by kernel_rfl) (fun _ _ _ h => h) (Or.inl ⟨rfl, fun w' hS => y_ix 22 36 _ _ rfl Tryd.underlying22 4 sizA4 b f cn cap1 k rfl rfl hlt⟩) hH ?_
      simp only [Act.put, List.setIfInBounds_toArray, List.set_cons_zero, List.set_cons_succ]
      refine takeD (i := 8) (v := .agg (a4C x).toArray) 56 rfl rfl (by kernel_rfl) (by kernel_rfl) (by kernel_rfl) (fun _ _ _ h => h) (Or.inl ⟨rfl, fun w' hS => y_A4 _ rfl b (f + k * 4) x rfl (range_of_block HR.out.row (hS.block _ HR.out.lt))⟩) hH ?_
      simp only [Act.put, List.setIfInBounds_toArray, List.set_cons_zero, List.set_cons_succ]
      refine wpAnyH_ready (rs := [4]) (by kernel_rfl) (by simp) ?_
      refine AllReadyH.cons rfl (fun K hK => ?_) AllReadyH.nil
      refine stG rfl ?_
      go_wp2_with (go_at_call 11; (refine (of_any z _ (HZ.out.below hH)).mono ?_); rintro e w6 ⟨rfl, hbn⟩)
      have hHn : Below wr.heap.size wr w6 := hH.trans (hbn.mono hH.size)
      refine hK.out _ _ hHn (fun hHx => ?_)
      clear hK K hH hbn hHx
      have hH := hHn
      clear hHn
      simp only [List.setIfInBounds_toArray, List.set_cons_zero, List.set_cons_succ]
      refine wpAnyH_ready (rs := [9]) (by kernel_rfl) (by simp) ?_
      refine AllReadyH.cons rfl (fun K hK => ?_) AllReadyH.nil
      refine stG rfl ?_
      go_wp2_with (go_at_call 12; (refine (bare_any x _ (HX.out.below hH) (by omega)).mono ?_); rintro e w7 ⟨y, rfl, hyd, hyo, -, hbn⟩)
      have hHn : Below wr.heap.size wr w7 := hH.trans (hbn.mono hH.size)
      refine hK.out _ _ hHn (fun hHx => ?_)
      clear hK K hH hbn hHx
      have hH := hHn
      clear hHn
      simp only [List.setIfInBounds_toArray, List.set_cons_zero, List.set_cons_succ]
      refine wpAnyH_ready (rs := [10]) (by kernel_rfl) (by simp) ?_
      refine AllReadyH.cons rfl (fun K hK => ?_) AllReadyH.nil
      refine stG rfl ?_
      go_wp2_with (go_at_call 11; (refine (of_any y _ hyo).mono ?_); rintro e w8 ⟨rfl, hbn⟩)
      have hHn : Below wr.heap.size wr w8 := hH.trans (hbn.mono hH.size)
      refine hK.out _ _ hHn (fun hHx => ?_)
      clear hK K hH hbn hHx
      have hH := hHn
      clear hHn
      simp only [List.setIfInBounds_toArray, List.set_cons_zero, List.set_cons_succ]
      refine takeD (i := 11) (v := .bool false) 59 rfl rfl (by kernel_rfl) (by kernel_rfl) (by kernel_rfl) (fun _ _ _ h => h) (Or.inl ⟨rfl, fun w' hS => y_neDf _ _ rfl (bareD x.d) (by show Value.agg (d4C z.d).toArray = _; rw [HXY.out]) rfl⟩) hH ?_
      simp only [Act.put, List.setIfInBounds_toArray, List.set_cons_zero, List.set_cons_succ]
      refine ⟨by kernel_rfl, ?_⟩
      have HA2 := ka HA hH
      have HY2 := ka HY hH
      have HB2 := bt HB hH
      clear hH
      go_wp2_with fail
      go_roundw
      case rel => exact ⟨k + 1, by omega, by go_num, HB2.out, HA2.out, HY2.out⟩
      case measure => simp [intOf]; omega
    · obtain rfl : k = cn := by omega
      have hli : ¬ (k : Int) < k := by omega
      go_wp2_with (go_at_call 16; (refine (KK.out _ HB.out).mono ?_); rintro e w5 ⟨rfl, hb5⟩)
      go_ret
      exact ⟨rfl, HB.out.trans (hb5.mono HB.out.size)⟩
end Go.Proofs.YtmbbhnbfgcmkgaaDoor
