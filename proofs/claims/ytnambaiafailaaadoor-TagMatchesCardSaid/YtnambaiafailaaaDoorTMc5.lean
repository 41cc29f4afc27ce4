/- TagMatches: the walk where both texts are tags. -/
import Derived.Test.YtnambaiafailaaaDoorPM5
import Derived.Test.YtnambaiafailaaaDoorTMb5
import Derived.Test.YtnambaiafailaaaDoorMT5
namespace Go.Proofs.YtnambaiafailaaaDoor
open Go.RowKit

theorem ko {α : Type} {enc : α → List Value} {k : Nat} {E : TypeId} {base : Nat} {v : Value} {xs : List α} {W W' : World} (h : Hid (OwnE enc E k W base v xs)) (hb : Below W.heap.size W W') : Hid (OwnE enc E k W' base v xs) := h.out.below hb
theorem wl_e3 {ops : Array Oper} {rest : List Oper} {o : Oper} {a : Act} {w : World} {Q : Exit → Act → World → Prop} (hw : Region.wanted o (yielded ops a.tmps) = true) (x : Operand) (ho : o.op = .load 23 x) (b f : Nat) (u : T3) (hx : a.eval x = .pointer (some ⟨b, f, none⟩)) (hc : w.rangeAt b f (e3 u))
    (h : wpList Tryd.prog ops Q rest (a.put o.dst (.agg (tC u))) w) : wpList Tryd.prog ops Q (o :: rest) a w :=
  wl_ldr hw _ x ho b f (e3 u) _ Tryd.underlying23 rfl (by rw [siz23]; rfl) hx hc (by simpa [e3] using h)

set_option maxRecDepth 100000 in
set_option maxHeartbeats 16000000 in
theorem TagMatches_main (x y : B10) (ws vs : T3) (c d : List T3) (hs : List B10) (s t : ByteArray) (ms mt mh n cap : Nat) (q : Option Addr) (m1 m2 : Int) (mb : Bool) (mr cr : List UInt8) (w : World)
    (hs1 : s.size ≤ 9223372036854775807) (ht1 : t.size ≤ 9223372036854775807) (hmin1 : min (s.size : Int) 30 = (ms : Int)) (hmin2 : min (t.size : Int) 30 = (mt : Int)) (hmin3 : min (n : Int) 20 = (mh : Int)) (hnc : n ≤ cap) (hcm : cap ≤ 9223372036854775807)
    (HLh : Hid (hs.length = mh)) (HSh : Hid (SlAt encB 10 w q hs)) (hmx : MX w)
    (HKn : Hid (∀ W, Below w.heap.size w W → Calls Tryd.prog 13 #[] W fun e w' => e = .returned (.bool true) ∧ Below W.heap.size W w'))
    (HPa : Hid (∀ W, Below w.heap.size w W → Calls Tryd.prog 12 #[.string (s.extract 0 ms)] W fun e w' => e = .returned (.tuple #[.agg (bC x.1), .int .i64 0]) ∧ Below W.heap.size W w'))
    (HPb : Hid (∀ W, Below w.heap.size w W → Calls Tryd.prog 12 #[.string (t.extract 0 mt)] W fun e w' => e = .returned (.tuple #[.agg (bC y.1), .int .i64 0]) ∧ Below W.heap.size W w'))
    (HRa : Hid (∀ W, Below w.heap.size w W → Calls Tryd.prog 11 #[.string (s.extract 0 ms)] W fun e w' => e = .returned (.tuple #[.agg (tC ws), .bool true]) ∧ Below W.heap.size W w'))
    (HRb : Hid (∀ W, Below w.heap.size w W → Calls Tryd.prog 11 #[.string (t.extract 0 mt)] W fun e w' => e = .returned (.tuple #[.agg (tC vs), .bool true]) ∧ Below W.heap.size W w'))
    (HCa : Hid (∀ W, Below w.heap.size w W → Calls Tryd.prog 24 #[.agg (tC ws)] W fun e w' => ∃ q cap, e = .returned (.slice q c.length cap) ∧ SlAt e3 3 w' q c ∧ Below W.heap.size W w'))
    (HCb : Hid (∀ W, Below w.heap.size w W → Calls Tryd.prog 24 #[.agg (tC vs)] W fun e w' => ∃ q cap, e = .returned (.slice q d.length cap) ∧ SlAt e3 3 w' q d ∧ Below W.heap.size W w'))
    (HRw : Hid (∀ h : B10, ∀ W, Below w.heap.size w W → Calls Tryd.prog 21 #[.agg (bC h.1)] W fun e w' => e = .returned (.agg (bC h.1)) ∧ Below W.heap.size W w'))
    (HOf : Hid (∀ h : B10, ∀ W, Below w.heap.size w W → Calls Tryd.prog 18 #[.agg (bC h.1)] W fun e w' => e = .returned (.tuple #[.agg (tC (oR h.1)), .bool (oB h.1)]) ∧ Below W.heap.size W w'))
    (HTo : Hid (∀ u ∈ c, ∀ W, Below w.heap.size w W → Calls Tryd.prog 14 #[.agg (tC u)] W fun e w' => e = .returned (.agg (bC (bytT u))) ∧ Below W.heap.size W w'))
    (HBw : Hid (∀ W, Below w.heap.size w W → Calls Tryd.prog 32 #[.agg (tC ws)] W fun e w' => e = .returned (.agg (bC x.1)) ∧ Below W.heap.size W w'))
    (HBv : Hid (∀ W, Below w.heap.size w W → Calls Tryd.prog 32 #[.agg (tC vs)] W fun e w' => e = .returned (.agg (bC y.1)) ∧ Below W.heap.size W w'))
    (HC1 : Hid (∀ W, Below w.heap.size w W → Calls Tryd.prog 26 #[.agg (bC x.1), .agg (bC y.1)] W fun e w' => e = .returned (.agg (bC cr)) ∧ Below W.heap.size W w'))
    (HC2 : Hid (∀ W, Below w.heap.size w W → Calls Tryd.prog 26 #[.agg (bC y.1), .agg (bC x.1)] W fun e w' => e = .returned (.agg (bC cr)) ∧ Below W.heap.size W w'))
    (HBe : Hid (∀ W, Below w.heap.size w W → Calls Tryd.prog 25 #[.agg (bC x.1), .agg (bC y.1)] W fun e w' => e = .returned (.bool (inT vs c)) ∧ Below W.heap.size W w'))
    (HLe : Hid (∀ W, Below w.heap.size w W → Calls Tryd.prog 33 #[.agg (bC x.1), .agg (bC y.1)] W fun e w' => e = .returned (.bool (lsB x.1 y.1 0)) ∧ Below W.heap.size W w'))
    (HMa : Hid (mR (hs.map (·.1)) (upX x) = mr ∧ mB (hs.map (·.1)) (upX x) = mb))
    (hc4 : c.length ≤ 4) (hd4 : d.length ≤ 4) (HM1 : Hid (gI (fun u => inT u (lT hs)) c 0 = m1)) (HM2 : Hid (gI (fun u => inT u d) c 0 = m2))
    (HS1 : Hid ((m1 = -1 ∧ mb = false ∧ mr = tag0) ∨ ∃ (i : Nat) (h : i < c.length), m1 = (i : Int) ∧ mb = true ∧ mr = bytT c[i])) (HS2 : Hid (∃ (j : Nat) (h : j < c.length), m2 = (j : Int) ∧ cr = bytT c[j]))
    (HLr : Hid (mr.length = 10)) (HLc : Hid (∀ u ∈ c, (bytT u).length = 10)) :
    Calls Tryd.prog 7 #[.string s, .string t, .slice q n cap] w fun e w' => e = .returned (.bool true) ∧ Below w.heap.size w w' := by
  have hms : (ms : Int) ≤ s.size := by omega
  have hmt : (mt : Int) ≤ t.size := by omega
  have hms0 : (0 : Int) ≤ ms := by omega
  have hmt0 : (0 : Int) ≤ mt := by omega
  have hmh : mh ≤ n := by omega
  have hmh2 : mh ≤ 20 := by omega
  have hmc : mh ≤ cap := by omega
  have hsl : ∀ W, (Instr.sliceAt 46 (.slice q n cap) none (some (.int .i64 (mh : Nat))) none).run Tryd.prog W = .ok (.slice q mh cap) W := run_sl_hi (k := 10) Tryd.underlying46 sizTag q n cap mh (by omega)
  have HLx : Hid (x.1.length = 10) := x.2
  have HLy : Hid (y.1.length = 10) := y.2
  go_enter Tryd.func7, Tryd.ntmps7
  go_upto_region 1 with fail
  refine wp_region_quiet_below (by kernel_rfl) (by kernel_rfl) ?_
  repeat (go_big_quiet_step (fail))
  refine wpQuiet_nil ?_
  rintro _ ⟨⟨dq, osq⟩, rfl⟩
  have HB := Lib.hid (below_regrown w dq osq)
  have HSl := ks HSh HB.out
  generalize Sort.grow (redrawn w dq) osq = W0 at *
  clear hsl HSh
  go_upto_region 3 with (first
    | (go_at_call 12; (refine (HPa.out _ HB.out).mono ?_); rintro e w1 ⟨rfl, hb1⟩; have HSl := ks HSl hb1; have HB := bt HB hb1; clear hb1)
    | ((with_reducible refine gate_st 29 _ _ rfl ?_); refine st_T rfl _ _ rfl w1.heap.size x.1 tag0 HLx.out rfl _ rfl rfl (heap_alloc_new _ _) ?_))
  rw [show (Obj.cells #[Value.int IntKind.u8 0, Value.int IntKind.u8 0, Value.int IntKind.u8 0, Value.int IntKind.u8 0, Value.int IntKind.u8 0, Value.int IntKind.u8 0, Value.int IntKind.u8 0, Value.int IntKind.u8 0, Value.int IntKind.u8 0, Value.int IntKind.u8 0] 29) = Obj.cells (bC tag0) 29 from rfl]
  have hbx := bel_st w1 (.cells (bC tag0) 29) (bC x.1)
  have FX : Hid (((w1.alloc (.cells (bC tag0) 29)).setRow w1.heap.size (bC x.1)).heap[w1.heap.size]? = some (Obj.cells (bC x.1) 29 (0, 0))) := setRow_at (heap_alloc_new _ _)
  have HSl := ks HSl hbx
  have HB := bt HB hbx
  clear hbx
  generalize ((w1.alloc (.cells (bC tag0) 29)).setRow w1.heap.size (bC x.1)) = V1 at *
  generalize w1.heap.size = bx at *
  go_upto_region 4 with (first
    | (go_at_call 12; (refine (HPb.out _ HB.out).mono ?_); rintro e w2 ⟨rfl, hb2⟩; have HSl := ks HSl hb2; have FX := kp FX hb2; have HB := bt HB hb2; clear hb2)
    | ((with_reducible refine gate_st 29 _ _ rfl ?_); refine st_T rfl _ _ rfl w2.heap.size y.1 tag0 HLy.out rfl _ rfl rfl (heap_alloc_new _ _) ?_))
  rw [show (Obj.cells #[Value.int IntKind.u8 0, Value.int IntKind.u8 0, Value.int IntKind.u8 0, Value.int IntKind.u8 0, Value.int IntKind.u8 0, Value.int IntKind.u8 0, Value.int IntKind.u8 0, Value.int IntKind.u8 0, Value.int IntKind.u8 0, Value.int IntKind.u8 0] 29) = Obj.cells (bC tag0) 29 from rfl]
  have hbx := bel_st w2 (.cells (bC tag0) 29) (bC y.1)
  have FY : Hid (((w2.alloc (.cells (bC tag0) 29)).setRow w2.heap.size (bC y.1)).heap[w2.heap.size]? = some (Obj.cells (bC y.1) 29 (0, 0))) := setRow_at (heap_alloc_new _ _)
  have HSl := ks HSl hbx
  have FX := kp FX hbx
  have HB := bt HB hbx
  clear hbx
  generalize ((w2.alloc (.cells (bC tag0) 29)).setRow w2.heap.size (bC y.1)) = V2 at *
  generalize w2.heap.size = by1 at *
  go_upto_region 7 with (first
    | (go_at_call 11; (refine (HRa.out _ HB.out).mono ?_); rintro e w3 ⟨rfl, hb3⟩; have HSl := ks HSl hb3; have FX := kp FX hb3; have FY := kp FY hb3; have HB := bt HB hb3; clear hb3)
    | ((with_reducible refine gate_st 23 _ _ rfl ?_); refine st_3 rfl _ _ rfl w3.heap.size ws t30 _ rfl rfl (heap_alloc_new _ _) ?_))
  rw [show (Obj.cells #[Value.string ⟨#[]⟩, Value.string ⟨#[]⟩, Value.string ⟨#[]⟩] 23) = Obj.cells (tC t30) 23 from rfl]
  have hbx := bel_st w3 (.cells (tC t30) 23) (tC ws)
  have FW : Hid (((w3.alloc (.cells (tC t30) 23)).setRow w3.heap.size (tC ws)).heap[w3.heap.size]? = some (Obj.cells (tC ws) 23 (0, 0))) := setRow_at (heap_alloc_new _ _)
  have HSl := ks HSl hbx
  have FX := kp FX hbx
  have FY := kp FY hbx
  have HB := bt HB hbx
  clear hbx
  generalize ((w3.alloc (.cells (tC t30) 23)).setRow w3.heap.size (tC ws)) = V3 at *
  generalize w3.heap.size = bw at *
  go_upto_region 8 with (first
    | (go_at_call 11; (refine (HRb.out _ HB.out).mono ?_); rintro e w4 ⟨rfl, hb4⟩; have HSl := ks HSl hb4; have FX := kp FX hb4; have FY := kp FY hb4; have FW := kp FW hb4; have HB := bt HB hb4; clear hb4)
    | ((with_reducible refine gate_st 23 _ _ rfl ?_); refine st_3 rfl _ _ rfl w4.heap.size vs t30 _ rfl rfl (heap_alloc_new _ _) ?_))
  rw [show (Obj.cells #[Value.string ⟨#[]⟩, Value.string ⟨#[]⟩, Value.string ⟨#[]⟩] 23) = Obj.cells (tC t30) 23 from rfl]
  have hbx := bel_st w4 (.cells (tC t30) 23) (tC vs)
  have FV : Hid (((w4.alloc (.cells (tC t30) 23)).setRow w4.heap.size (tC vs)).heap[w4.heap.size]? = some (Obj.cells (tC vs) 23 (0, 0))) := setRow_at (heap_alloc_new _ _)
  have HSl := ks HSl hbx
  have FX := kp FX hbx
  have FY := kp FY hbx
  have FW := kp FW hbx
  have HB := bt HB hbx
  clear hbx
  generalize ((w4.alloc (.cells (tC t30) 23)).setRow w4.heap.size (tC vs)) = V4 at *
  generalize w4.heap.size = bv at *
  refine wp_region_held_drew (S := fun w' => Below V4.heap.size V4 w') (by kernel_rfl) (Below.refl _ _).drew (fun hH => ?_)
  show wpAnyH Tryd.prog Region.Mode.any _ _ _ 6 #[false, false, false, false, false, false] _ _
  refine takeD (i := 0) (v := .agg (tC ws)) 72 rfl rfl (by kernel_rfl) (by kernel_rfl) (by kernel_rfl) (fun _ _ _ h => h) (Or.inl ⟨rfl, fun w' hS => exec_ldr 23 _ rfl bw 0 (e3 ws) _ Tryd.underlying23 rfl (by rw [siz23]; rfl) rfl (range_of_block (range_whole (by simpa [e3] using FW.out)) (hS.block _ (lt_heap FW.out)))⟩) hH ?_
  simp only [Act.put, List.setIfInBounds_toArray, List.set_cons_zero, List.set_cons_succ]
  refine takeD (i := 2) (v := .agg (tC vs)) 74 rfl rfl (by kernel_rfl) (by kernel_rfl) (by kernel_rfl) (fun _ _ _ h => h) (Or.inl ⟨rfl, fun w' hS => exec_ldr 23 _ rfl bv 0 (e3 vs) _ Tryd.underlying23 rfl (by rw [siz23]; rfl) rfl (range_of_block (range_whole (by simpa [e3] using FV.out)) (hS.block _ (lt_heap FV.out)))⟩) hH ?_
  simp only [Act.put, List.setIfInBounds_toArray, List.set_cons_zero, List.set_cons_succ]
  refine wpAnyH_ready (rs := [1]) (by kernel_rfl) (by simp) ?_
  refine AllReadyH.cons rfl (fun K hK => ?_) AllReadyH.nil
  refine stI rfl ?_
  go_wp2_with (go_at_call 24; (refine (HCa.out _ (HB.out.trans (hH.mono HB.out.size))).mono ?_); rintro e w5 ⟨qc, cc, rfl, hslc, hbc⟩)
  have hHc : Below V4.heap.size V4 w5 := hH.trans (hbc.mono hH.size)
  refine hK.out _ _ hHc (fun hHx => ?_)
  clear hK K hH hbc hHx
  have hH := hHc
  clear hHc
  simp only [List.setIfInBounds_toArray, List.set_cons_zero, List.set_cons_succ]
  refine wpAnyH_ready (rs := [3]) (by kernel_rfl) (by simp) ?_
  refine AllReadyH.cons rfl (fun K hK => ?_) AllReadyH.nil
  refine stI rfl ?_
  go_wp2_with (go_at_call 24; (refine (HCb.out _ (HB.out.trans (hH.mono HB.out.size))).mono ?_); rintro e w6 ⟨qd, cd, rfl, hsld, hbd⟩)
  have hslc := SlAt.below hslc hbd
  have hHd : Below V4.heap.size V4 w6 := hH.trans (hbd.mono hH.size)
  refine hK.out _ _ hHd (fun hHx => ?_)
  clear hK K hH hbd hHx
  have hH := hHd
  clear hHd
  simp only [List.setIfInBounds_toArray, List.set_cons_zero, List.set_cons_succ]
  refine takeD (i := 4) (v := .slice qc c.length cc) 15 rfl rfl (by kernel_rfl) (by kernel_rfl) (by kernel_rfl) (fun _ _ _ h => h) (Or.inl ⟨rfl, fun w' hS => rfl⟩) hH ?_
  simp only [Act.put, List.setIfInBounds_toArray, List.set_cons_zero, List.set_cons_succ]
  refine takeD (i := 5) (v := .slice qd d.length cd) 16 rfl rfl (by kernel_rfl) (by kernel_rfl) (by kernel_rfl) (fun _ _ _ h => h) (Or.inl ⟨rfl, fun w' hS => rfl⟩) hH ?_
  simp only [Act.put, List.setIfInBounds_toArray, List.set_cons_zero, List.set_cons_succ]
  refine ⟨by kernel_rfl, ?_⟩
  have HSl := ks HSl hH
  have FX := kp FX hH
  have FY := kp FY hH
  have FW := kp FW hH
  have FV := kp FV hH
  have HB := bt HB hH
  have HSc := Lib.hid hslc
  have HSd := Lib.hid hsld
  clear hH hslc hsld
  go_wp2_with fail
  go_loopw [17, 18] (fun v i wr => ∃ k : Nat, k ≤ mh ∧ i = .int .i64 k ∧ Hid (OwnE e3 23 3 wr w6.heap.size v (lT (hs.take k))) ∧ Hid (Below w6.heap.size w6 wr)) (fun _ i _ => mh - (intOf i).toNat)
  case atStart => exact ⟨0, Nat.zero_le _, rfl, OwnE.nil _ _, Below.refl _ _⟩
  case round =>
    obtain ⟨k, hk, rfl, HO, HBr⟩ := hrel
    by_cases hlt : k < mh
    · skip
      have hli : (k : Int) < mh := by omega
      have hkx : k < hs.length := by rw [HLh.out]; exact hlt
      obtain ⟨b, f, rfl, hb, hr⟩ := (HSl.out.below HBr.out) k hkx
      have HR := Lib.hid (InRow.mk hb hr)
      have HT : Hid (hs.take (k + 1) = hs.take k ++ [hs[k]]) := List.take_succ_eq_append_getElem hkx
      clear hb hr
      have hLl : (lT (hs.take k)).length ≤ 20 := by
        have h1 := List.length_filterMap_le (fun h : B10 => ofT h.1) (hs.take k)
        have h2 : (hs.take k).length ≤ k := List.length_take_le _ _
        unfold lT; omega
      have HL2 : Hid (lT (hs.take (k + 1)) = lT (hs.take k) ++ lT [hs[k]]) := by
        show _ = _
        rw [HT.out]; unfold lT; rw [List.filterMap_append]
      clear HT
      generalize hs[k] = h at *
      generalize lT (hs.take k) = L at *
      have HB2 := bt HB HBr.out
      clear HSl FX FY FW FV HSc HSd HB
      have HB := HB2
      clear HB2
      have KO := Lib.hid (HOf.out h)
      have KR := Lib.hid (HRw.out h)
      have HLh1 : Hid (h.1.length = 10) := h.2
      cases ho : ofT h.1
      case none =>
        have e1 : oR h.1 = t30 := by unfold oR; rw [ho]; rfl
        have e2 : oB h.1 = false := by unfold oB; rw [ho]; rfl
        have e3' : lT [h] = [] := by simp [lT, ho]
        rw [e1, e2] at KO
        rw [e3'] at HL2
        clear e1 e2 e3' ho
        go_upto_region 14 with (first
          | (refine wl_ix rfl 46 29 _ _ rfl Tryd.underlying46 10 sizTag b f mh cap k rfl rfl hlt ?_)
          | (refine wl_eB rfl _ rfl b (f + k * 10) h rfl HR.out.row ?_)
          | (go_at_call 21; (refine (KR.out _ HB.out).mono ?_); rintro e w8 ⟨rfl, hb8⟩; have HO := ko HO hb8; have HBr := bt HBr hb8; have HR := kr HR hb8; have HB := bt HB hb8; clear hb8)
          | (go_at_call 18; (refine (KO.out _ HB.out).mono ?_); rintro e w9 ⟨rfl, hb9⟩; have HO := ko HO hb9; have HBr := bt HBr hb9; have HR := kr HR hb9; have HB := bt HB hb9; clear hb9)
          | ((with_reducible refine gate_st 23 _ _ rfl ?_); refine st_3 rfl _ _ rfl w9.heap.size t30 t30 _ rfl rfl (heap_alloc_new _ _) ?_))
        rw [show (Obj.cells #[Value.string ⟨#[]⟩, Value.string ⟨#[]⟩, Value.string ⟨#[]⟩] 23) = Obj.cells (tC t30) 23 from rfl]
        have hbx := bel_st w9 (.cells (tC t30) 23) (tC t30)
        have FQ : Hid (((w9.alloc (.cells (tC t30) 23)).setRow w9.heap.size (tC t30)).heap[w9.heap.size]? = some (Obj.cells (tC t30) 23 (0, 0))) := setRow_at (heap_alloc_new _ _)
        have HO := ko HO hbx
        have HBr := bt HBr hbx
        have HR := kr HR hbx
        have HB := bt HB hbx
        clear hbx
        generalize ((w9.alloc (.cells (tC t30) 23)).setRow w9.heap.size (tC t30)) = V5 at *
        generalize w9.heap.size = bq at *
        go_wp2_with fail
        go_roundw
        case rel => exact ⟨k + 1, by omega, by go_num, by rw [HL2.out, List.append_nil]; exact HO.out, HBr.out⟩
        case measure => simp [intOf]; omega
      case some u =>
        have e1 : oR h.1 = u := by unfold oR; rw [ho]; rfl
        have e2 : oB h.1 = true := by unfold oB; rw [ho]; rfl
        have e3' : lT [h] = [u] := by simp [lT, ho]
        rw [e1, e2] at KO
        rw [e3'] at HL2
        clear e1 e2 e3' ho
        go_upto_region 14 with (first
          | (refine wl_ix rfl 46 29 _ _ rfl Tryd.underlying46 10 sizTag b f mh cap k rfl rfl hlt ?_)
          | (refine wl_eB rfl _ rfl b (f + k * 10) h rfl HR.out.row ?_)
          | (go_at_call 21; (refine (KR.out _ HB.out).mono ?_); rintro e w8 ⟨rfl, hb8⟩; have HO := ko HO hb8; have HBr := bt HBr hb8; have HR := kr HR hb8; have HB := bt HB hb8; clear hb8)
          | (go_at_call 18; (refine (KO.out _ HB.out).mono ?_); rintro e w9 ⟨rfl, hb9⟩; have HO := ko HO hb9; have HBr := bt HBr hb9; have HR := kr HR hb9; have HB := bt HB hb9; clear hb9)
          | ((with_reducible refine gate_st 23 _ _ rfl ?_); refine st_3 rfl _ _ rfl w9.heap.size u t30 _ rfl rfl (heap_alloc_new _ _) ?_))
        rw [show (Obj.cells #[Value.string ⟨#[]⟩, Value.string ⟨#[]⟩, Value.string ⟨#[]⟩] 23) = Obj.cells (tC t30) 23 from rfl]
        have hbx := bel_st w9 (.cells (tC t30) 23) (tC u)
        have FQ : Hid (((w9.alloc (.cells (tC t30) 23)).setRow w9.heap.size (tC u)).heap[w9.heap.size]? = some (Obj.cells (tC u) 23 (0, 0))) := setRow_at (heap_alloc_new _ _)
        have HO := ko HO hbx
        have HBr := bt HBr hbx
        have HR := kr HR hbx
        have HB := bt HB hbx
        clear hbx
        generalize ((w9.alloc (.cells (tC t30) 23)).setRow w9.heap.size (tC u)) = V6 at *
        generalize w9.heap.size = bq at *
        go_wp2_with (first
          | (with_reducible refine ld_R3 rfl _ rfl bq u rfl FQ.out ?_)
          | (refine wl_bs1 (enc := e3) (k := 3) 48 23 48 (.agg (tC t30)) Tryd.underlying48 infoT3 rfl (by omega) (by omega) e3_len rfl _ rfl u rfl ?_; have HO := ko HO (below_alloc1 V6 (.cells (e3 u).toArray 23)); have HBr := bt HBr (below_alloc1 V6 (.cells (e3 u).toArray 23)))
          | (refine wl_app1 (enc := e3) (k := 3) 48 23 48 (.agg (tC t30)) Tryd.underlying48 infoT3 rfl (by omega) e3_len e3_one rfl _ _ rfl w6.heap.size _ _ rfl HO.out _ _ u rfl (fun j uu hu => by rw [Nat.zero_add, cell_blk (heap_alloc_new _ _)]; simpa using hu) (by omega) (by unfold maxLen; omega) HBr.out.size (fun v' wA hoA hgA => ?_); have HB3 := Lib.hid (HBr.out.trans (grown_below hgA (fun g hg => (HO.out.lt g hg).1) HBr.out.size)); have HO3 := Lib.hid hoA; clear hoA hgA))
        go_roundw
        case rel => exact ⟨k + 1, by omega, by go_num, by rw [HL2.out]; exact HO3.out, HB3.out⟩
        case measure => simp [intOf]; omega
    · obtain rfl : mh = k := by omega
      have HSl := ks HSl HBr.out
      have FX := kp FX HBr.out
      have FY := kp FY HBr.out
      have FW := kp FW HBr.out
      have FV := kp FV HBr.out
      have HSc := ks HSc HBr.out
      have HSd := ks HSd HBr.out
      have HB := bt HB HBr.out
      rw [List.take_of_length_le (Nat.le_of_eq HLh.out)] at HO
      obtain ⟨ql, cl, rfl, _, _, hsl, _⟩ := HO.out.at e3_len
      have HSL := Lib.hid hsl
      clear hsl HO HBr hlt hk
      have hLl : (lT hs).length ≤ 1000000 := by
        have h1 := List.length_filterMap_le (fun h : B10 => ofT h.1) hs
        have h2 := HLh.out
        unfold lT; omega
      generalize lT hs = L at *
      obtain ⟨w7, hw7⟩ : ∃ W : World, W = wr := ⟨_, rfl⟩
      subst hw7
      have hci : (c.length : Int) ≤ 4 := by omega
      have hci0 : (0 : Int) ≤ c.length := by omega
      go_wp2_with fail
      go_loopw [21, 22, 23] (fun a b i wr => ∃ (i1 p1 p2 : Int), -1 ≤ i1 ∧ i1 < c.length ∧ i = .int .i64 i1 ∧ a = .int .i64 p1 ∧ b = .int .i64 p2 ∧ Hid (p1 = gI (fun u => inT u L) c (i1 + 1).toNat) ∧ Hid (p2 = gI (fun u => inT u d) c (i1 + 1).toNat) ∧ Hid (Below w7.heap.size w7 wr)) (fun _ _ i _ => (intOf i + 1).toNat)
      case atStart => exact ⟨_, -1, -1, by omega, by omega, rfl, rfl, rfl, (gI_end (by omega)).symm, (gI_end (by omega)).symm, Below.refl _ _⟩
      case round =>
        obtain ⟨i1, p1, p2, hi1, hi2, rfl, rfl, rfl, HG1, HG2, HBr⟩ := hrel
        by_cases h0 : 0 ≤ i1
        · skip
          obtain ⟨j, rfl⟩ := Int.eq_ofNat_of_zero_le h0
          have hj : j < c.length := by omega
          have e : ((j : Int) + 1).toNat = j + 1 := by omega
          rw [e] at HG1 HG2
          have e2 : ((j : Int) - 1 + 1).toNat = j := by omega
          have E2 := Lib.hid e2
          clear e e2
          have HJ1 : Hid (-1 ≤ (j : Int) - 1) := by show _ ≤ _; omega
          have HJ2 : Hid ((j : Int) - 1 < c.length) := by show _ < _; omega
          have HMs : Hid (((j : Int) - 1 + 1).toNat < ((j : Int) + 1).toNat) := by show _ < _; omega
          obtain ⟨b, f, rfl, hb, hr⟩ := (HSc.out.below HBr.out) j hj
          have HR := Lib.hid (InRow.mk hb hr)
          clear hb hr
          have HN1 : Hid ((if inT c[j] L then (j : Int) else p1) = gI (fun u => inT u L) c ((j : Int) - 1 + 1).toNat) := by show _ = _; rw [E2.out, HG1.out]; exact (gI_step (p := fun u => inT u L) hj).symm
          have HN2 : Hid ((if inT c[j] d then (j : Int) else p2) = gI (fun u => inT u d) c ((j : Int) - 1 + 1).toNat) := by show _ = _; rw [E2.out, HG2.out]; exact (gI_step (p := fun u => inT u d) hj).symm
          have KI1 : Hid (∀ W, Below w7.heap.size w7 W → Calls Tryd.prog 30 #[.slice ql L.length cl, .agg (tC c[j])] W fun e w' => e = .returned (.bool (inT c[j] L)) ∧ Below W.heap.size W w') := fun W hW => refIn_any ql L _ cl _ W rfl hLl (HSL.out.below hW)
          have KI2 : Hid (∀ W, Below w7.heap.size w7 W → Calls Tryd.prog 30 #[.slice qd d.length cd, .agg (tC c[j])] W fun e w' => e = .returned (.bool (inT c[j] d)) ∧ Below W.heap.size W w') := fun W hW => refIn_any qd d _ cd _ W rfl (by omega) (HSd.out.below hW)
          clear HSl FX FY FW FV HSc HSd HSL HB HG1 HG2
          generalize c[j] = z at *
          cases hq1 : inT z L <;> cases hq2 : inT z d
          all_goals
            rw [hq1] at HN1 KI1
            rw [hq2] at HN2 KI2
            clear hq1 hq2
            simp only [if_true, if_false, Bool.false_eq_true] at HN1 HN2
            go_wp2_with (first
              | (refine wl_ix rfl 48 23 _ _ rfl Tryd.underlying48 3 siz23 b f c.length cc j rfl rfl hj ?_)
              | (refine wl_e3 rfl _ rfl b (f + j * 3) z rfl HR.out.row ?_)
              | (go_at_call 30; ((with_reducible refine (KI1.out _ HBr.out).mono ?_); rintro e wa ⟨rfl, hba⟩; have HR := kr HR hba; have HBr := bt HBr hba; clear hba))
              | (go_at_call 30; ((with_reducible refine (KI2.out _ HBr.out).mono ?_); rintro e wb ⟨rfl, hbb⟩; have HR := kr HR hbb; have HBr := bt HBr hbb; clear hbb)))
            go_roundw
            case rel => exact ⟨(j : Int) - 1, _, _, HJ1.out, HJ2.out, rfl, rfl, rfl, HN1, HN2, HBr⟩
            case measure => exact HMs.out
        · obtain rfl : i1 = -1 := by omega
          have hP1 : m1 = p1 := by rw [← HM1.out]; exact HG1.out.symm
          have hP2 : m2 = p2 := by rw [← HM2.out]; exact HG2.out.symm
          subst hP1 hP2
          clear HG1 HG2 h0 hi1 hi2 HM1 HM2
          have HSl := ks HSl HBr.out
          have FX := kp FX HBr.out
          have FY := kp FY HBr.out
          have FW := kp FW HBr.out
          have FV := kp FV HBr.out
          have HSc := ks HSc HBr.out
          have HSd := ks HSd HBr.out
          have HSL := ks HSL HBr.out
          have HB := bt HB HBr.out
          clear HBr
          obtain ⟨w8, hw8⟩ : ∃ W : World, W = wr := ⟨_, rfl⟩
          subst hw8
          have HMt : Hid (∀ W, Below w8.heap.size w8 W → Calls Tryd.prog 31 #[.agg (bC x.1), .slice q mh cap] W fun e w' => e = .returned (.tuple #[.agg (bC mr), .bool mb]) ∧ Below W.heap.size W w') := fun W hW => by
            have := match_any x hs q mh cap W HLh.out (by omega) hmc (HSl.out.below hW) (hmx.below (HB.out.trans (hW.mono HB.out.size)))
            rwa [HMa.out.1, HMa.out.2] at this
          go_upto_region 25 with (first
            | (with_reducible refine ld_T rfl _ rfl bx x.1 HLx.out rfl FX.out ?_)
            | (go_at_call 31; (refine (HMt.out _ (Below.refl _ _)).mono ?_); rintro e w9 ⟨rfl, hb9⟩; have HSl := ks HSl hb9; have FX := kp FX hb9; have FY := kp FY hb9; have FW := kp FW hb9; have FV := kp FV hb9; have HSc := ks HSc hb9; have HSd := ks HSd hb9; have HSL := ks HSL hb9; have HB := bt HB hb9; clear hb9)
            | ((with_reducible refine gate_st 29 _ _ rfl ?_); refine st_T rfl _ _ rfl w9.heap.size mr tag0 HLr.out rfl _ rfl rfl (heap_alloc_new _ _) ?_))
          clear HMt HSl HSL
          rw [show (Obj.cells #[Value.int IntKind.u8 0, Value.int IntKind.u8 0, Value.int IntKind.u8 0, Value.int IntKind.u8 0, Value.int IntKind.u8 0, Value.int IntKind.u8 0, Value.int IntKind.u8 0, Value.int IntKind.u8 0, Value.int IntKind.u8 0, Value.int IntKind.u8 0] 29) = Obj.cells (bC tag0) 29 from rfl]
          have hbx := bel_st w9 (.cells (bC tag0) 29) (bC mr)
          have FM : Hid (((w9.alloc (.cells (bC tag0) 29)).setRow w9.heap.size (bC mr)).heap[w9.heap.size]? = some (Obj.cells (bC mr) 29 (0, 0))) := setRow_at (heap_alloc_new _ _)
          have FX := kp FX hbx
          have FY := kp FY hbx
          have FW := kp FW hbx
          have FV := kp FV hbx
          have HSc := ks HSc hbx
          have HSd := ks HSd hbx
          have HB := bt HB hbx
          clear hbx
          generalize ((w9.alloc (.cells (bC tag0) 29)).setRow w9.heap.size (bC mr)) = V7 at *
          generalize w9.heap.size = bm at *
          obtain ⟨jc, hjc, hm2, hcr⟩ := HS2.out
          subst hm2 hcr
          clear HS2
          have hj0 : ¬ (jc : Int) < 0 := by omega
          have hj00 : (0 : Int) ≤ jc := by omega
          go_cut [151] (fun s wx => s = .bool false ∧ Hid (Below V7.heap.size V7 wx))
          case first =>
            rcases HS1.out with ⟨h1, h2, h3⟩ | ⟨i, hi, h1, h2, h3⟩
            · skip
              subst h1 h2 h3
              clear HS1
              have hn1 : ∀ W, (binOp .neq 29 (.agg (bC tag0)) (.agg #[.int .u8 0, .int .u8 0, .int .u8 0, .int .u8 0, .int .u8 0, .int .u8 0, .int .u8 0, .int .u8 0, .int .u8 0, .int .u8 0])).run Tryd.prog W = .ok (.bool false) W := fun W => neq10 W tag0 tag0 rfl rfl
              refine wp_region_quiet_below (by kernel_rfl) (by kernel_rfl) ?_
              repeat (first
                | go_big_quiet_skip
                | (with_reducible refine wq_T rfl _ rfl bm tag0 HLr.out rfl FM.out ?_; simp only [Act.put, List.setIfInBounds_toArray, List.set_cons_zero, List.set_cons_succ])
                | go_big_quiet_step (first | fail))
              refine wpQuiet_nil ?_
              rintro _ ⟨⟨dq, osq⟩, rfl⟩
              go_wp2_with fail
              go_meet
              exact ⟨rfl, below_regrown _ dq osq⟩
            · skip
              subst h1 h2 h3
              clear HS1
              have hi0 : (0 : Int) ≤ i := by omega
              have hic : (i : Int) < c.length := by omega
              obtain ⟨b, f, rfl, hb, hr⟩ := HSc.out i hi
              have HR := Lib.hid (InRow.mk hb hr)
              clear hb hr
              have KT := Lib.hid (HTo.out c[i] (List.getElem_mem _))
              have HLu := Lib.hid (HLc.out c[i] (List.getElem_mem _))
              generalize c[i] = u at *
              have hn1 : ∀ W, (binOp .neq 29 (.agg (bC (bytT u))) (.agg (bC (bytT u)))).run Tryd.prog W = .ok (.bool false) W := fun W => by have := neq10 W (bytT u) (bytT u) HLu.out HLu.out; rwa [show (!(bytT u == bytT u)) = false from by simp] at this
              refine wp_region_quiet_below (by kernel_rfl) (by kernel_rfl) ?_
              repeat (first
                | go_big_quiet_skip
                | (with_reducible refine wq_T rfl _ rfl bm (bytT u) HLu.out rfl FM.out ?_; simp only [Act.put, List.setIfInBounds_toArray, List.set_cons_zero, List.set_cons_succ])
                | (refine wq_ix _ rfl 48 23 _ _ rfl Tryd.underlying48 3 siz23 b f _ cc i rfl rfl hi ?_; simp only [Act.put, List.setIfInBounds_toArray, List.set_cons_zero, List.set_cons_succ])
                | (refine wq_e3 rfl _ rfl b (f + i * 3) u rfl HR.out.row HR.out.lt ?_; simp only [Act.put, List.setIfInBounds_toArray, List.set_cons_zero, List.set_cons_succ])
                | go_big_quiet_step (first | (with_reducible exact rg_callB (at2 KT HB) _ _)))
              refine wpQuiet_nil ?_
              rintro _ ⟨⟨dq, osq⟩, rfl⟩
              go_wp2_with fail
              go_meet
              exact ⟨rfl, below_regrown _ dq osq⟩
          case rest =>
            obtain ⟨rfl, HC⟩ := hcut
            clear FM HS1
            have FX := kp FX HC.out
            have FY := kp FY HC.out
            have FW := kp FW HC.out
            have FV := kp FV HC.out
            have HSc := ks HSc HC.out
            have HSd := ks HSd HC.out
            have HB := bt HB HC.out
            clear HC
            go_upto_region 27 with fail
            refine wp_region_pair [(152, .agg (tC ws)), (153, .agg (bC x.1)), (154, .agg (tC vs)), (155, .agg (bC y.1))] 26 27 (bC tag0) (bC tag0) (bC x.1) (bC y.1) 39 39 (by kernel_rfl) (by kernel_rfl) rfl (by simp) (by simp) _ _ _ _ rfl rfl rfl rfl
              ⟨rfl, rfl, fun a w => by kernel_rfl⟩ ⟨rfl, rfl, fun a w => by kernel_rfl⟩
              ⟨rfl, rfl, fun a' w' g hd hp hg => exec_str _ (.tmp 26) (.tmp 153) rfl g (bC x.1) (bC tag0) _ (by rw [infoA, bC_size, HLx.out]) (by rw [bC_size, bC_size, HLx.out]; rfl) (bC_one x.1) hp (hd 1 (by simp) (by kernel_rfl)) hg⟩
              ⟨rfl, rfl, fun a' w' g hd hp hg => exec_str _ (.tmp 27) (.tmp 155) rfl g (bC y.1) (bC tag0) _ (by rw [infoA, bC_size, HLy.out]) (by rw [bC_size, bC_size, HLy.out]; rfl) (bC_one y.1) hp (hd 3 (by simp) (by kernel_rfl)) hg⟩
              (by kernel_rfl) (by kernel_rfl) (by kernel_rfl) (by kernel_rfl) ?_ ?_
            · intro i hi a' w' hfr hdep hbel K hK
              have hi4 : i < 4 := hi
              obtain rfl | rfl | rfl | rfl : i = 0 ∨ i = 1 ∨ i = 2 ∨ i = 3 := by clear hK hdep hfr; omega
              · exact wpOp_ldr rfl rfl _ (.tmp 11) rfl bw 0 (e3 ws) _ Tryd.underlying23 rfl (by rw [siz23]; rfl) (hfr.off 11 (by simp)) (range_of_block (range_whole (by simpa [e3] using FW.out)) (hbel.block _ (lt_heap FW.out))) (hK w' (Below.refl _ _))
              · exact wpOp_enter rfl rfl (exec_call1 rfl (enters_of Tryd.func32 (by kernel_rfl) rfl) (x := .tmp 152) (v := .agg (tC ws)) (hdep 0 (by simp) (by kernel_rfl)) w') (HBw.out w' (HB.out.trans (hbel.mono HB.out.size))) hK
              · exact wpOp_ldr rfl rfl _ (.tmp 13) rfl bv 0 (e3 vs) _ Tryd.underlying23 rfl (by rw [siz23]; rfl) (hfr.off 13 (by simp)) (range_of_block (range_whole (by simpa [e3] using FV.out)) (hbel.block _ (lt_heap FV.out))) (hK w' (Below.refl _ _))
              · exact wpOp_enter rfl rfl (exec_call1 rfl (enters_of Tryd.func32 (by kernel_rfl) rfl) (x := .tmp 154) (v := .agg (tC vs)) (hdep 2 (by simp) (by kernel_rfl)) w') (HBv.out w' (HB.out.trans (hbel.mono HB.out.size))) hK
            · intro wp gp gq hgh hg0 hh0 hbel hg hh
              simp only [puts, List.cons_append, List.nil_append, List.setIfInBounds_toArray, List.set_cons_zero, List.set_cons_succ]
              clear HBw HBv FW hgh hg0 hh0
              have FX := kp FX hbel
              have FY := kp FY hbel
              have FV := kp FV hbel
              have HSc := ks HSc hbel
              have HSd := ks HSd hbel
              have HB := bt HB hbel
              have FP := Lib.hid hg
              have FQ := Lib.hid hh
              clear hg hh hbel
              go_wp2_with fail
              go_loopw [28, 29] (fun v i wr => ∃ (i1 : Int) (b1 : Bool), -1 ≤ i1 ∧ i1 ≤ 9 ∧ i = .int .i64 i1 ∧ v = .bool b1 ∧ Hid (b1 = lsB x.1 y.1 (i1 + 1).toNat) ∧ Hid (Below wp.heap.size wp wr)) (fun _ i _ => (intOf i + 1).toNat)
              case atStart => exact ⟨9, false, by omega, by omega, rfl, rfl, (lsB_end (by rw [HLx.out]; decide) (by rw [HLy.out]; decide)).symm, Below.refl _ _⟩
              case round =>
                obtain ⟨i1, b1, hi1, hi2, rfl, rfl, HG, HBr⟩ := hrel
                by_cases h0 : 0 ≤ i1
                · skip
                  obtain ⟨j, rfl⟩ := Int.eq_ofNat_of_zero_le h0
                  have hjx : j < x.1.length := by rw [HLx.out]; omega
                  have hjy : j < y.1.length := by rw [HLy.out]; omega
                  have hj10 : (j : Int) < 10 := by omega
                  have e : ((j : Int) + 1).toNat = j + 1 := by omega
                  rw [e] at HG
                  have e2 : ((j : Int) - 1 + 1).toNat = j := by omega
                  have E2 := Lib.hid e2
                  clear e e2
                  have HJ1 : Hid (-1 ≤ (j : Int) - 1) := by show _ ≤ _; omega
                  have HJ2 : Hid ((j : Int) - 1 ≤ 9) := by show _ ≤ _; omega
                  have HMs : Hid (((j : Int) - 1 + 1).toNat < ((j : Int) + 1).toNat) := by show _ < _; omega
                  have HN : Hid (lsB x.1 y.1 ((j : Int) - 1 + 1).toNat = if x.1[j] = y.1[j] then b1 else decide (x.1[j] < y.1[j])) := by show _ = _; rw [E2.out, HG.out]; exact lsB_step hjx hjy
                  have cp : wr.cell? ⟨gp, j, none⟩ = some (.int .u8 ((x.1[j]).toNat : Int)) := by rw [cell_blk (kp FP HBr.out).out]; exact bC_get _ _ hjx
                  have cq : wr.cell? ⟨gq, j, none⟩ = some (.int .u8 ((y.1[j]).toNat : Int)) := by rw [cell_blk (kp FQ HBr.out).out]; exact bC_get _ _ hjy
                  have cp2 := fun d os => cell_regrown cp d os
                  have cq2 := fun d os => cell_regrown cq d os
                  clear FX FY FV HSc HSd FP FQ HB HG
                  generalize x.1[j] = u at *
                  generalize y.1[j] = v at *
                  have hls : decide (u < v) = decide (u.toNat < v.toNat) := by rw [decide_eq_decide]; exact UInt8.lt_iff_toNat_lt
                  rw [hls] at HN
                  clear hls
                  by_cases huv : u = v
                  · skip
                    have hnq : ((u.toNat : Int) != (v.toNat : Int)) = false := by rw [huv]; simp
                    rw [if_pos huv] at HN
                    clear huv
                    go_wp2_with fail
                    refine wp_region_quiet_below (by kernel_rfl) (by kernel_rfl) ?_
                    repeat (go_big_quiet_step (fail))
                    refine wpQuiet_nil ?_
                    rintro _ ⟨⟨dq, osq⟩, rfl⟩
                    have HBr := bt HBr (below_regrown wr dq osq)
                    clear cp cq cp2 cq2
                    go_wp2_with fail
                    go_roundw
                    case rel => exact ⟨(j : Int) - 1, _, HJ1.out, HJ2.out, rfl, rfl, HN.out.symm, HBr.out⟩
                    case measure => exact HMs.out
                  · skip
                    have hnq : ((u.toNat : Int) != (v.toNat : Int)) = true := by simp only [bne_iff_ne, ne_eq]; intro e; exact huv (UInt8.toNat_inj.1 (by omega))
                    rw [if_neg huv] at HN
                    clear huv
                    go_wp2_with fail
                    refine wp_region_quiet_below (by kernel_rfl) (by kernel_rfl) ?_
                    repeat (go_big_quiet_step (fail))
                    refine wpQuiet_nil ?_
                    rintro _ ⟨⟨dq, osq⟩, rfl⟩
                    have HBr := bt HBr (below_regrown wr dq osq)
                    clear cp cq
                    have cp := cp2 dq osq
                    have cq := cq2 dq osq
                    clear cp2 cq2
                    generalize Sort.grow (redrawn wr dq) osq = wy at *
                    have cp2 := fun d os => cell_regrown cp d os
                    have cq2 := fun d os => cell_regrown cq d os
                    go_wp2_with fail
                    refine wp_region_quiet_below (by kernel_rfl) (by kernel_rfl) ?_
                    repeat (go_big_quiet_step (fail))
                    refine wpQuiet_nil ?_
                    rintro _ ⟨⟨dq, osq⟩, rfl⟩
                    have HBr := bt HBr (below_regrown wy dq osq)
                    clear cp cq cp2 cq2
                    go_wp2_with fail
                    go_roundw
                    case rel => exact ⟨(j : Int) - 1, _, HJ1.out, HJ2.out, rfl, rfl, HN.out.symm, HBr.out⟩
                    case measure => exact HMs.out
                · obtain rfl : i1 = -1 := by omega
                  have hbe : b1 = lsB x.1 y.1 0 := HG.out
                  subst hbe
                  clear HG h0 hi1 hi2
                  clear FP FQ
                  have FX := kp FX HBr.out
                  have FY := kp FY HBr.out
                  have FV := kp FV HBr.out
                  have HSc := ks HSc HBr.out
                  have HSd := ks HSd HBr.out
                  have HB := bt HB HBr.out
                  clear HBr
                  obtain ⟨wz, hwz⟩ : ∃ W : World, W = wr := ⟨_, rfl⟩
                  subst hwz
                  obtain ⟨b, f, rfl, hb, hr⟩ := HSc.out jc hjc
                  have HR := Lib.hid (InRow.mk hb hr)
                  clear hb hr
                  have KT := Lib.hid (HTo.out c[jc] (List.getElem_mem _))
                  have HLu := Lib.hid (HLc.out c[jc] (List.getElem_mem _))
                  have KI : Hid (∀ W, Below wz.heap.size wz W → Calls Tryd.prog 30 #[.slice (some ⟨b, f, none⟩) c.length cc, .agg (tC vs)] W fun e w' => e = .returned (.bool (inT vs c)) ∧ Below W.heap.size W w') := fun W hW => refIn_any _ c _ cc vs W rfl (by omega) (HSc.out.below hW)
                  generalize c[jc] = u at *
                  generalize lsB x.1 y.1 0 = ls at *
                  generalize inT vs c = iv at *
                  have hq1 : ∀ W, (binOp .eql 29 (.agg (bC (bytT u))) (.agg (bC (bytT u)))).run Tryd.prog W = .ok (.bool true) W := fun W => by have := eql10 W (bytT u) (bytT u) HLu.out HLu.out; rwa [show (bytT u == bytT u) = true from by simp] at this
                  have hq2 : ∀ (z : Bool) W, (binOp .eql 4 (.bool z) (.bool z)).run Tryd.prog W = .ok (.bool true) W := fun z W => by cases z <;> kernel_rfl
                  have hq3 := hq2 ls
                  have hq4 := hq2 iv
                  clear hq2
                  go_wp2_with fail
                  refine wp_region_quiet_below (by kernel_rfl) (by kernel_rfl) ?_
                  repeat (first
                    | go_big_quiet_skip
                    | (with_reducible refine wq_T rfl _ rfl bx x.1 HLx.out rfl FX.out ?_; simp only [Act.put, List.setIfInBounds_toArray, List.set_cons_zero, List.set_cons_succ])
                    | (with_reducible refine wq_T rfl _ rfl by1 y.1 HLy.out rfl FY.out ?_; simp only [Act.put, List.setIfInBounds_toArray, List.set_cons_zero, List.set_cons_succ])
                    | (refine wq_ix _ rfl 48 23 _ _ rfl Tryd.underlying48 3 siz23 b f _ cc jc rfl rfl hjc ?_; simp only [Act.put, List.setIfInBounds_toArray, List.set_cons_zero, List.set_cons_succ])
                    | (refine wq_e3 rfl _ rfl b (f + jc * 3) u rfl HR.out.row HR.out.lt ?_; simp only [Act.put, List.setIfInBounds_toArray, List.set_cons_zero, List.set_cons_succ])
                    | (with_reducible refine wq_3 rfl _ rfl bv vs rfl FV.out ?_; simp only [Act.put, List.setIfInBounds_toArray, List.set_cons_zero, List.set_cons_succ])
                    | go_big_quiet_step (first | (with_reducible exact rg_callB (at2 HKn HB) _ _) | (with_reducible exact rg_callB (at2 HC1 HB) _ _) | (with_reducible exact rg_callB (at2 HC2 HB) _ _) | (with_reducible exact rg_callB (at2 KT HB) _ _) | (with_reducible exact rg_callB (at2 HBe HB) _ _) | (with_reducible exact rg_callB KI.out _ _) | (with_reducible exact rg_callB (at2 HLe HB) _ _)))
                  refine wpQuiet_nil ?_
                  rintro _ ⟨⟨dq, osq⟩, rfl⟩
                  have hbq := below_regrown wz dq osq
                  have HB := bt HB hbq
                  clear hbq
                  generalize Sort.grow (redrawn wz dq) osq = V8 at *
                  go_wp2_with fail
                  go_ret
                  exact ⟨rfl, HB.out⟩
end Go.Proofs.YtnambaiafailaaaDoor
