/- TagMatches: where a text is no tag; all ways. -/
import Derived.Test.YtnambaiafailaaaDoorTMc5
import Derived.Test.YtnambaiafailaaaDoorOT5
namespace Go.Proofs.YtnambaiafailaaaDoor
open Go.ChangeShapes Go.WideShapes Go.ChangeAt Go.RowKit Go.Deep

set_option maxRecDepth 100000 in
set_option maxHeartbeats 4000000 in
theorem TagMatches_bada (x y : B10) (s t : ByteArray) (ms mt mh n cap : Nat) (q : Option Addr) (ee : Int) (w : World)
    (hs1 : s.size ≤ 9223372036854775807) (ht1 : t.size ≤ 9223372036854775807) (hmin1 : min (s.size : Int) 30 = (ms : Int)) (hmin2 : min (t.size : Int) 30 = (mt : Int)) (hmin3 : min (n : Int) 20 = (mh : Int)) (hnc : n ≤ cap) (hcm : cap ≤ 9223372036854775807)
    (HKn : Hid (∀ W, Below w.heap.size w W → Calls Tryd.prog 13 #[] W fun e w' => e = .returned (.bool true) ∧ Below W.heap.size W w'))
    (HPa : Hid (∀ W, Below w.heap.size w W → Calls Tryd.prog 12 #[.string (s.extract 0 ms)] W fun e w' => e = .returned (.tuple #[.agg (bC x.1), .int .i64 14]) ∧ Below W.heap.size W w'))
    (HPb : Hid (∀ W, Below w.heap.size w W → Calls Tryd.prog 12 #[.string (t.extract 0 mt)] W fun e w' => e = .returned (.tuple #[.agg (bC y.1), .int .i64 ee]) ∧ Below W.heap.size W w')) :
    Calls Tryd.prog 7 #[.string s, .string t, .slice q n cap] w fun e w' => e = .returned (.bool true) ∧ Below w.heap.size w w' := by
  have hms : (ms : Int) ≤ s.size := by omega
  have hmt : (mt : Int) ≤ t.size := by omega
  have hms0 : (0 : Int) ≤ ms := by omega
  have hmt0 : (0 : Int) ≤ mt := by omega
  have hmh : mh ≤ n := by omega
  have hmc : mh ≤ cap := by omega
  have hsl : ∀ W, (Instr.sliceAt 46 (.slice q n cap) none (some (.int .i64 (mh : Nat))) none).run Tryd.prog W = .ok (.slice q mh cap) W := run_sl_hi (k := 10) Tryd.underlying46 sizTag q n cap mh (by omega)
  have HLx : Hid (x.1.length = 10) := x.2
  have HLy : Hid (y.1.length = 10) := y.2
  go_enter Tryd.func7, Tryd.ntmps7
  go_upto_region 1 with fail
  refine wp_region_quiet_below (by kernel_rfl) (by kernel_rfl) ?_
  repeat (go_big_quiet_step (fail))
  refine wpQuiet_nil ?_
  rintro _ ⟨⟨dq, osq⟩, rfl⟩
  have HB := Lib.hid (below_regrown w dq osq)
  generalize Sort.grow (redrawn w dq) osq = W0 at *
  clear hsl
  go_upto_region 3 with (first
    | (go_at_call 12; (refine (HPa.out _ HB.out).mono ?_); rintro e w1 ⟨rfl, hb1⟩; have HB := bt HB hb1; clear hb1)
    | ((with_reducible refine gate_st 29 _ _ rfl ?_); refine st_T rfl _ _ rfl w1.heap.size x.1 tag0 HLx.out rfl _ rfl rfl (heap_alloc_new _ _) ?_))
  rw [show (Obj.cells #[Value.int IntKind.u8 0, Value.int IntKind.u8 0, Value.int IntKind.u8 0, Value.int IntKind.u8 0, Value.int IntKind.u8 0, Value.int IntKind.u8 0, Value.int IntKind.u8 0, Value.int IntKind.u8 0, Value.int IntKind.u8 0, Value.int IntKind.u8 0] 29) = Obj.cells (bC tag0) 29 from rfl]
  have hbx := bel_st w1 (.cells (bC tag0) 29) (bC x.1)
  have FX : Hid (((w1.alloc (.cells (bC tag0) 29)).setRow w1.heap.size (bC x.1)).heap[w1.heap.size]? = some (Obj.cells (bC x.1) 29 (0, 0))) := setRow_at (heap_alloc_new _ _)
  have HB := bt HB hbx
  clear hbx
  generalize ((w1.alloc (.cells (bC tag0) 29)).setRow w1.heap.size (bC x.1)) = V1 at *
  generalize w1.heap.size = bx at *
  go_upto_region 4 with (first
    | (go_at_call 12; (refine (HPb.out _ HB.out).mono ?_); rintro e w2 ⟨rfl, hb2⟩; have FX := kp FX hb2; have HB := bt HB hb2; clear hb2)
    | ((with_reducible refine gate_st 29 _ _ rfl ?_); refine st_T rfl _ _ rfl w2.heap.size y.1 tag0 HLy.out rfl _ rfl rfl (heap_alloc_new _ _) ?_))
  rw [show (Obj.cells #[Value.int IntKind.u8 0, Value.int IntKind.u8 0, Value.int IntKind.u8 0, Value.int IntKind.u8 0, Value.int IntKind.u8 0, Value.int IntKind.u8 0, Value.int IntKind.u8 0, Value.int IntKind.u8 0, Value.int IntKind.u8 0, Value.int IntKind.u8 0] 29) = Obj.cells (bC tag0) 29 from rfl]
  have hbx := bel_st w2 (.cells (bC tag0) 29) (bC y.1)
  have FY : Hid (((w2.alloc (.cells (bC tag0) 29)).setRow w2.heap.size (bC y.1)).heap[w2.heap.size]? = some (Obj.cells (bC y.1) 29 (0, 0))) := setRow_at (heap_alloc_new _ _)
  have FX := kp FX hbx
  have HB := bt HB hbx
  clear hbx
  generalize ((w2.alloc (.cells (bC tag0) 29)).setRow w2.heap.size (bC y.1)) = V2 at *
  generalize w2.heap.size = by1 at *
  clear FX FY
  go_wp2_with (first
    | (go_at_call 13; (refine (HKn.out _ HB.out).mono ?_); rintro e w3 ⟨rfl, hb3⟩; have HB := bt HB hb3; clear hb3))
  go_ret
  exact ⟨rfl, HB.out⟩
set_option maxRecDepth 100000 in
set_option maxHeartbeats 4000000 in
theorem TagMatches_badb (x y : B10) (s t : ByteArray) (ms mt mh n cap : Nat) (q : Option Addr) (w : World)
    (hs1 : s.size ≤ 9223372036854775807) (ht1 : t.size ≤ 9223372036854775807) (hmin1 : min (s.size : Int) 30 = (ms : Int)) (hmin2 : min (t.size : Int) 30 = (mt : Int)) (hmin3 : min (n : Int) 20 = (mh : Int)) (hnc : n ≤ cap) (hcm : cap ≤ 9223372036854775807)
    (HKn : Hid (∀ W, Below w.heap.size w W → Calls Tryd.prog 13 #[] W fun e w' => e = .returned (.bool true) ∧ Below W.heap.size W w'))
    (HPa : Hid (∀ W, Below w.heap.size w W → Calls Tryd.prog 12 #[.string (s.extract 0 ms)] W fun e w' => e = .returned (.tuple #[.agg (bC x.1), .int .i64 0]) ∧ Below W.heap.size W w'))
    (HPb : Hid (∀ W, Below w.heap.size w W → Calls Tryd.prog 12 #[.string (t.extract 0 mt)] W fun e w' => e = .returned (.tuple #[.agg (bC y.1), .int .i64 14]) ∧ Below W.heap.size W w')) :
    Calls Tryd.prog 7 #[.string s, .string t, .slice q n cap] w fun e w' => e = .returned (.bool true) ∧ Below w.heap.size w w' := by
  have hms : (ms : Int) ≤ s.size := by omega
  have hmt : (mt : Int) ≤ t.size := by omega
  have hms0 : (0 : Int) ≤ ms := by omega
  have hmt0 : (0 : Int) ≤ mt := by omega
  have hmh : mh ≤ n := by omega
  have hmc : mh ≤ cap := by omega
  have hsl : ∀ W, (Instr.sliceAt 46 (.slice q n cap) none (some (.int .i64 (mh : Nat))) none).run Tryd.prog W = .ok (.slice q mh cap) W := run_sl_hi (k := 10) Tryd.underlying46 sizTag q n cap mh (by omega)
  have HLx : Hid (x.1.length = 10) := x.2
  have HLy : Hid (y.1.length = 10) := y.2
  go_enter Tryd.func7, Tryd.ntmps7
  go_upto_region 1 with fail
  refine wp_region_quiet_below (by kernel_rfl) (by kernel_rfl) ?_
  repeat (go_big_quiet_step (fail))
  refine wpQuiet_nil ?_
  rintro _ ⟨⟨dq, osq⟩, rfl⟩
  have HB := Lib.hid (below_regrown w dq osq)
  generalize Sort.grow (redrawn w dq) osq = W0 at *
  clear hsl
  go_upto_region 3 with (first
    | (go_at_call 12; (refine (HPa.out _ HB.out).mono ?_); rintro e w1 ⟨rfl, hb1⟩; have HB := bt HB hb1; clear hb1)
    | ((with_reducible refine gate_st 29 _ _ rfl ?_); refine st_T rfl _ _ rfl w1.heap.size x.1 tag0 HLx.out rfl _ rfl rfl (heap_alloc_new _ _) ?_))
  rw [show (Obj.cells #[Value.int IntKind.u8 0, Value.int IntKind.u8 0, Value.int IntKind.u8 0, Value.int IntKind.u8 0, Value.int IntKind.u8 0, Value.int IntKind.u8 0, Value.int IntKind.u8 0, Value.int IntKind.u8 0, Value.int IntKind.u8 0, Value.int IntKind.u8 0] 29) = Obj.cells (bC tag0) 29 from rfl]
  have hbx := bel_st w1 (.cells (bC tag0) 29) (bC x.1)
  have FX : Hid (((w1.alloc (.cells (bC tag0) 29)).setRow w1.heap.size (bC x.1)).heap[w1.heap.size]? = some (Obj.cells (bC x.1) 29 (0, 0))) := setRow_at (heap_alloc_new _ _)
  have HB := bt HB hbx
  clear hbx
  generalize ((w1.alloc (.cells (bC tag0) 29)).setRow w1.heap.size (bC x.1)) = V1 at *
  generalize w1.heap.size = bx at *
  go_upto_region 4 with (first
    | (go_at_call 12; (refine (HPb.out _ HB.out).mono ?_); rintro e w2 ⟨rfl, hb2⟩; have FX := kp FX hb2; have HB := bt HB hb2; clear hb2)
    | ((with_reducible refine gate_st 29 _ _ rfl ?_); refine st_T rfl _ _ rfl w2.heap.size y.1 tag0 HLy.out rfl _ rfl rfl (heap_alloc_new _ _) ?_))
  rw [show (Obj.cells #[Value.int IntKind.u8 0, Value.int IntKind.u8 0, Value.int IntKind.u8 0, Value.int IntKind.u8 0, Value.int IntKind.u8 0, Value.int IntKind.u8 0, Value.int IntKind.u8 0, Value.int IntKind.u8 0, Value.int IntKind.u8 0, Value.int IntKind.u8 0] 29) = Obj.cells (bC tag0) 29 from rfl]
  have hbx := bel_st w2 (.cells (bC tag0) 29) (bC y.1)
  have FY : Hid (((w2.alloc (.cells (bC tag0) 29)).setRow w2.heap.size (bC y.1)).heap[w2.heap.size]? = some (Obj.cells (bC y.1) 29 (0, 0))) := setRow_at (heap_alloc_new _ _)
  have FX := kp FX hbx
  have HB := bt HB hbx
  clear hbx
  generalize ((w2.alloc (.cells (bC tag0) 29)).setRow w2.heap.size (bC y.1)) = V2 at *
  generalize w2.heap.size = by1 at *
  clear FX FY
  go_wp2_with (first
    | (go_at_call 13; (refine (HKn.out _ HB.out).mono ?_); rintro e w3 ⟨rfl, hb3⟩; have HB := bt HB hb3; clear hb3))
  go_ret
  exact ⟨rfl, HB.out⟩
set_option maxRecDepth 100000 in
theorem open_tags {H : Type} {ench : TypeId × Value → H} {w : World} {base : Nat} {held : Bool} {v : Value} {d : DataW H} {p : List MemPlace} {r : Reach} {b0 : Nat}
    (hv : Value.okWide Tryd.prog w r b0 46 v) (h : DataW.Trod ench Tryd.prog w base (fun _ => true) held 46 v d p) :
    ∃ (q : Option Addr) (xs : List B10) (cap : Nat), v = .slice q xs.length cap ∧ xs.length ≤ cap ∧ cap ≤ maxLen ∧ SlAt encB 10 w q xs := by
  obtain ⟨q, xs, cap, h1, h2, h3, h4, _⟩ := open_rows (E := 29) (enc := encB) (k := 10) (φ := fun _ : B10 => True) Tryd.underlying46 (by kernel_rfl) (by omega) (fun n cs y hy hl => by
    obtain ⟨l, hl', rfl⟩ := tag_dec hy hl
    exact ⟨⟨l, hl'⟩, rfl, trivial⟩) hv h
  exact ⟨q, xs, cap, h1, h2, h3, h4⟩
theorem chR_len4 (t : T3) : (chR t).length ≤ 4 := by
  unfold chR
  simp only [List.length_append, List.length_cons, List.length_nil]
  split <;> split <;> split <;> simp
theorem byt_len10 {u : T3} (h : SmT u) : (bytT u).length = 10 := by rw [bytT, List.length_append, List.length_append, padTo_len h.l, padTo_len h.s, padTo_len h.r]
theorem parse_right {L : List UInt8} {t : T3} (h : parseT L = some t) : RightT (bytT t) t := by
  obtain ⟨_, k2, _, _, _, _⟩ := parse_known h
  obtain ⟨y, hy⟩ := right_oR k2
  have h1 : oR (bytT t) = t := by
    rcases parseT_can h with rfl | hc
    · decide +kernel
    · unfold oR; rw [of_can hc]; rfl
  have e : y = t := by rw [← hy.oR, h1]
  rw [e] at hy
  exact hy
set_option maxRecDepth 100000 in
theorem TagMatches_walkJ (w : World) (hmx : MX w) (s t : ByteArray) (ms mt mh : Nat) (q : Option Addr) (xs : List B10) (cap : Nat) (hs : s.size ≤ 9223372036854775807) (ht : t.size ≤ 9223372036854775807) (hmin1 : min (s.size : Int) 30 = (ms : Int)) (hmin2 : min (t.size : Int) 30 = (mt : Int)) (hmin3 : min (xs.length : Int) 20 = (mh : Int))
    (hnc : xs.length ≤ cap) (hcm : cap ≤ 9223372036854775807) (hq : SlAt encB 10 w q xs) :
    Calls Tryd.prog 7 #[.string s, .string t, .slice q xs.length cap] w fun e w' => e = .returned (.bool true) ∧ Below w.heap.size w w' := by
  have hu1 : (s.extract 0 ms).size ≤ 1000000 := by rw [ByteArray.size_extract]; omega
  have hu2 : (t.extract 0 mt).size ≤ 1000000 := by rw [ByteArray.size_extract]; omega
  have HKn : Hid (∀ W, Below w.heap.size w W → Calls Tryd.prog 13 #[] W fun e w' => e = .returned (.bool true) ∧ Below W.heap.size W w') := fun W hW => known5_any W (hmx.below hW)
  have HPa : Hid (∀ W, Below w.heap.size w W → Calls Tryd.prog 12 #[.string (s.extract 0 ms)] W fun e w' => e = .returned (.tuple #[.agg (bC (tagR (s.extract 0 ms).data.toList)), .int .i64 (tagE (s.extract 0 ms).data.toList)]) ∧ Below W.heap.size W w') := fun W hW => tagParse_any _ W hu1 (hmx.below hW)
  have HPb : Hid (∀ W, Below w.heap.size w W → Calls Tryd.prog 12 #[.string (t.extract 0 mt)] W fun e w' => e = .returned (.tuple #[.agg (bC (tagR (t.extract 0 mt).data.toList)), .int .i64 (tagE (t.extract 0 mt).data.toList)]) ∧ Below W.heap.size W w') := fun W hW => tagParse_any _ W hu2 (hmx.below hW)
  cases hp : parseT (s.extract 0 ms).data.toList with
  | none =>
    obtain ⟨ea, eb⟩ := tag_no hp
    rw [ea, eb] at HPa
    exact TagMatches_bada ⟨tag0, rfl⟩ ⟨tagR (t.extract 0 mt).data.toList, tagR_len _⟩ s t ms mt mh _ cap q _ w hs ht hmin1 hmin2 hmin3 hnc hcm HKn HPa HPb
  | some u =>
    obtain ⟨_, k2, _, _, _, k6⟩ := parse_known hp
    have ea : tagR (s.extract 0 ms).data.toList = bytT u := by rw [tagR, hp]
    have eb : tagE (s.extract 0 ms).data.toList = 0 := by rw [tagE, hp]; rfl
    rw [ea, eb] at HPa
    cases hp2 : parseT (t.extract 0 mt).data.toList with
    | none =>
      obtain ⟨e5, e6⟩ := tag_no hp2
      rw [e5, e6] at HPb
      exact TagMatches_badb ⟨bytT u, k6⟩ ⟨tag0, rfl⟩ s t ms mt mh _ cap q w hs ht hmin1 hmin2 hmin3 hnc hcm HKn HPa HPb
    | some v =>
      obtain ⟨_, j2, _, _, _, j6⟩ := parse_known hp2
      have e5 : tagR (t.extract 0 mt).data.toList = bytT v := by rw [tagR, hp2]
      have e6 : tagE (t.extract 0 mt).data.toList = 0 := by rw [tagE, hp2]; rfl
      rw [e5, e6] at HPb
      have R1 := parse_right hp
      have R2 := parse_right hp2
      have q1 : pR (s.extract 0 ms).data.toList = u := by rw [pR, hp]; rfl
      have q2 : pB (s.extract 0 ms).data.toList = true := by rw [pB, hp]; rfl
      have q3 : pR (t.extract 0 mt).data.toList = v := by rw [pR, hp2]; rfl
      have q4 : pB (t.extract 0 mt).data.toList = true := by rw [pB, hp2]; rfl
      have HRa : Hid (∀ W, Below w.heap.size w W → Calls Tryd.prog 11 #[.string (s.extract 0 ms)] W fun e w' => e = .returned (.tuple #[.agg (tC u), .bool true]) ∧ Below W.heap.size W w') := fun W _ => by
        have := refParse5_any (s.extract 0 ms) W hu1
        rwa [q1, q2] at this
      have HRb : Hid (∀ W, Below w.heap.size w W → Calls Tryd.prog 11 #[.string (t.extract 0 mt)] W fun e w' => e = .returned (.tuple #[.agg (tC v), .bool true]) ∧ Below W.heap.size W w') := fun W _ => by
        have := refParse5_any (t.extract 0 mt) W hu2
        rwa [q3, q4] at this
      have HCh : ∀ y : T3, Hid (∀ W, Below w.heap.size w W → Calls Tryd.prog 24 #[.agg (tC y)] W fun e w' => ∃ q cap, e = .returned (.slice q (chR y).length cap) ∧ SlAt e3 3 w' q (chR y) ∧ Below W.heap.size W w') := fun y W _ => by
        refine (refChain_any y W).mono ?_
        rintro e W' ⟨v, rfl, ho, hb⟩
        obtain ⟨q, cap, rfl, hcl, _, hsl, _⟩ := ho.at e3_len
        exact ⟨q, cap, rfl, hsl, hb⟩
      have HRw : Hid (∀ h : B10, ∀ W, Below w.heap.size w W → Calls Tryd.prog 21 #[.agg (bC h.1)] W fun e w' => e = .returned (.agg (bC h.1)) ∧ Below W.heap.size W w') := fun h W _ => raw_any h.1 W h.2
      have HOf : Hid (∀ h : B10, ∀ W, Below w.heap.size w W → Calls Tryd.prog 18 #[.agg (bC h.1)] W fun e w' => e = .returned (.tuple #[.agg (tC (oR h.1)), .bool (oB h.1)]) ∧ Below W.heap.size W w') := fun h W _ => refOf5_any h.1 W h.2
      have hsm : ∀ z ∈ chR u, SmT z := smT_chain R1.sm
      have HTo : Hid (∀ z ∈ chR u, ∀ W, Below w.heap.size w W → Calls Tryd.prog 14 #[.agg (tC z)] W fun e w' => e = .returned (.agg (bC (bytT z))) ∧ Below W.heap.size W w') := fun z hz W _ => to_any z W (hsm z hz).l (hsm z hz).s (hsm z hz).r
      have HBw : Hid (∀ W, Below w.heap.size w W → Calls Tryd.prog 32 #[.agg (tC u)] W fun e w' => e = .returned (.agg (bC (bytT u))) ∧ Below W.heap.size W w') := fun W _ => refBytes_any u W R1.sm.l R1.sm.s R1.sm.r
      have HBv : Hid (∀ W, Below w.heap.size w W → Calls Tryd.prog 32 #[.agg (tC v)] W fun e w' => e = .returned (.agg (bC (bytT v))) ∧ Below W.heap.size W w') := fun W _ => refBytes_any v W R2.sm.l R2.sm.s R2.sm.r
      obtain ⟨x, hx⟩ : ∃ x : B10, x.1 = bytT u := ⟨⟨bytT u, k6⟩, rfl⟩
      obtain ⟨y, hy⟩ : ∃ y : B10, y.1 = bytT v := ⟨⟨bytT v, j6⟩, rfl⟩
      rw [← hx] at HPa HBw k2 R1
      rw [← hy] at HPb HBv j2 R2
      have HC1 : Hid (∀ W, Below w.heap.size w W → Calls Tryd.prog 26 #[.agg (bC x.1), .agg (bC y.1)] W fun e w' => e = .returned (.agg (bC (coR x y))) ∧ Below W.heap.size W w') := fun W hW => common_any x y W (hmx.below hW)
      have HC2 : Hid (∀ W, Below w.heap.size w W → Calls Tryd.prog 26 #[.agg (bC y.1), .agg (bC x.1)] W fun e w' => e = .returned (.agg (bC (coR x y))) ∧ Below W.heap.size W w') := fun W hW => by
        have := common_any y x W (hmx.below hW)
        rwa [← coR_sym x y] at this
      have m1 : (upX x).map (·.1) = (chR u).map bytT := right_up x.2 k2 R1
      have m2 : (upX y).map (·.1) = (chR v).map bytT := right_up y.2 j2 R2
      have o1 := of_chain k2 R1
      have o2 := of_chain j2 R2
      have hv : ofT (bytT v) = some v := o2 v (by unfold chR; simp)
      have HBe : Hid (∀ W, Below w.heap.size w W → Calls Tryd.prog 25 #[.agg (bC x.1), .agg (bC y.1)] W fun e w' => e = .returned (.bool (inT v (chR u))) ∧ Below W.heap.size W w') := fun W hW => by
        have hbe : memX y.1 (upX x) = inT v (chR u) := by rw [inT_chain m1 o1 hv, memX, hy]
        have := below_any x y.1 W y.2 (hmx.below hW)
        rwa [hbe] at this
      have HLe : Hid (∀ W, Below w.heap.size w W → Calls Tryd.prog 33 #[.agg (bC x.1), .agg (bC y.1)] W fun e w' => e = .returned (.bool (lsB x.1 y.1 0)) ∧ Below W.heap.size W w') := fun W _ => less_any5 x.1 y.1 W x.2 y.2
      have hlm : (xs.take mh).length = mh := by rw [List.length_take]; omega
      have S1 := gI_spec (p := fun z => inT z (lT (xs.take mh))) (ks := (xs.take mh).map (·.1)) m1 (fun z hz => inT_lT (o1 z hz))
      have S2 := gI_spec (p := fun z => inT z (chR v)) (ks := (upX y).map (·.1)) m1 (fun z hz => inT_chain m2 o2 (o1 z hz))
      have S2' : ∃ (j : Nat) (h : j < (chR u).length), gI (fun z => inT z (chR v)) (chR u) 0 = (j : Int) ∧ coR x y = bytT (chR u)[j] := by
        rcases S2 with ⟨_, hb, _⟩ | ⟨j, hj, h1, _, h3⟩
        · rw [common_some k2 j2] at hb; cases hb
        · exact ⟨j, hj, h1, h3⟩
      exact TagMatches_main x y u v (chR u) (chR v) (xs.take mh) s t ms mt mh xs.length cap q _ _ _ _ _ w hs ht hmin1 hmin2 hmin3 hnc hcm hlm (hq.take mh) hmx HKn HPa HPb HRa HRb (HCh u) (HCh v) HRw HOf HTo HBw HBv HC1 HC2 HBe HLe ⟨rfl, rfl⟩ (chR_len4 u) (chR_len4 v) rfl rfl S1 S2' (mR_len _ _) (fun z hz => byt_len10 (hsm z hz))
theorem TagMatches_walkI (w : World) (hmx : MX w) (s : ByteArray) (hs : s.size ≤ maxLen) (t : ByteArray) (ht : t.size ≤ maxLen) (q : Option Addr) (xs : List B10) (cap : Nat) (hnc : xs.length ≤ cap) (hcm : cap ≤ maxLen) (hq : SlAt encB 10 w q xs) :
    Calls Tryd.prog 7 #[.string s, .string t, .slice q xs.length cap] w fun e w' => e = .returned (.bool true) ∧ Below w.heap.size w w' :=
  TagMatches_walkJ w hmx s t (min s.size 30) (min t.size 30) (min xs.length 20) q xs cap (by unfold maxLen at hs; omega) (by unfold maxLen at ht; omega) (by omega) (by omega) (by omega) hnc (by unfold maxLen at hcm; omega) hq
end Go.Proofs.YtnambaiafailaaaDoor
