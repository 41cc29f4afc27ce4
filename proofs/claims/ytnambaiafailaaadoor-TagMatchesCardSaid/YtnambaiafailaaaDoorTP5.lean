/- TagParses: the walk. -/
import Derived.Test.YtnambaiafailaaaDoorKN5
import Derived.Test.YtnambaiafailaaaDoorV5
import Derived.Test.YtnambaiafailaaaDoorU5
namespace Go.Proofs.YtnambaiafailaaaDoor
open Go.RowKit

theorem rg_callB {W : World} {P : Program} {f : FuncId} {args : Array Value} {v : Value} (h : ∀ w, Below W.heap.size W w → Calls P f args w fun e w' => e = .returned v ∧ Below w.heap.size w w') (d : Nat) (os : Array Obj) :
    Calls P f args (Sort.grow (redrawn W d) os) fun e w'' => e = .returned v ∧ ∃ p : Regrown, w'' = Sort.grow (redrawn W p.d) p.os := Calls.regrown_of (h _ (below_regrown W d os))
theorem wq_T {W : World} {ops : Array Oper} {Q : Act → Prop} {a : Act} {o : Oper} {rest : List Oper} (hw : Region.wanted o (yielded ops a.tmps) = true) (x : Operand) (ho : o.op = .load 29 x) (g : Nat) (l : List UInt8) (hl : l.length = 10)
    (hx : a.eval x = .pointer (some ⟨g, 0, none⟩)) (hg : W.heap[g]? = some (.cells (bC l) 29 (0, 0)))
    (h : wpQuiet Tryd.prog ops (fun w' => ∃ p : Regrown, w' = Sort.grow (redrawn W p.d) p.os) Q rest (a.put o.dst (.agg (bC l)))) : wpQuiet Tryd.prog ops (fun w' => ∃ p : Regrown, w' = Sort.grow (redrawn W p.d) p.os) Q (o :: rest) a :=
  wq_ldr hw _ x ho g 0 (bC l).toList _ Tryd.underlying29 rfl (by rw [sizTag]; simp [bC, hl]) hx (range_whole (by simpa using hg)) (lt_heap hg) (by simpa using h)
theorem wq_3 {W : World} {ops : Array Oper} {Q : Act → Prop} {a : Act} {o : Oper} {rest : List Oper} (hw : Region.wanted o (yielded ops a.tmps) = true) (x : Operand) (ho : o.op = .load 23 x) (g : Nat) (t : T3)
    (hx : a.eval x = .pointer (some ⟨g, 0, none⟩)) (hg : W.heap[g]? = some (.cells (tC t) 23 (0, 0)))
    (h : wpQuiet Tryd.prog ops (fun w' => ∃ p : Regrown, w' = Sort.grow (redrawn W p.d) p.os) Q rest (a.put o.dst (.agg (tC t)))) : wpQuiet Tryd.prog ops (fun w' => ∃ p : Regrown, w' = Sort.grow (redrawn W p.d) p.os) Q (o :: rest) a :=
  wq_ldr hw _ x ho g 0 (tC t).toList _ Tryd.underlying23 rfl (by rw [siz23]; rfl) hx (range_whole (by simpa using hg)) (lt_heap hg) (by simpa using h)
section
variable {ops : Array Oper} {rest : List Oper} {o : Oper} {a : Act} {w : World} {Q : Exit → Act → World → Prop}
theorem st_3 (hgd : o.guard = none) (x y : Operand) (ho : o.op = .store 23 x y) (g : Nat) (t u : T3) (T' : TypeId)
    (hx : a.eval x = .pointer (some ⟨g, 0, none⟩)) (hy : a.eval y = .agg (tC t)) (hg : w.heap[g]? = some (.cells (tC u) T'))
    (h : wpList Tryd.prog ops Q rest (a.put o.dst undef) (w.setRow g (tC t))) : wpList Tryd.prog ops Q (o :: rest) a w :=
  wl_str hgd _ x y ho g (tC t) (tC u) T' siz23 rfl (tC_one t) hx hy hg h
end
theorem parse_known {L : List UInt8} {t : T3} (h : parseT L = some t) : textB (bytT t) = text5 t ∧ rightT (bytT t) = true ∧ t.lang.length ≤ 3 ∧ t.script.length ≤ 4 ∧ t.region.length ≤ 3 ∧ (bytT t).length = 10 := by
  rcases parseT_can h with rfl | hc
  · refine ⟨by decide +kernel, by decide +kernel, by decide, by decide, by decide, by decide +kernel⟩
  · have ho := hc.ok
    refine ⟨?_, right_can hc, ho.l3, ho.s4, ho.r3, byt_len ho⟩
    rw [textB, if_pos (right_can hc), plain_can hc, text5, if_neg hc.lne]
set_option maxRecDepth 100000 in
set_option maxHeartbeats 8000000 in
theorem TagParses_walkJ (s : ByteArray) (m : Nat) (w : World) (hmx : MX w) (hs : s.size ≤ 9223372036854775807) (hmin : min (s.size : Int) 30 = (m : Int)) :
    Calls Tryd.prog 3 #[.string s] w fun e w' => e = .returned (.bool true) ∧ Below w.heap.size w w' := by
  have hms : (m : Int) ≤ s.size := by omega
  have hm0 : (0 : Int) ≤ m := by omega
  have hm3 : (m : Int) ≤ 30 := by omega
  have hu : (s.extract 0 m).size ≤ 1000000 := by rw [ByteArray.size_extract]; omega
  have HKn : Hid (∀ W, Below w.heap.size w W → Calls Tryd.prog 13 #[] W fun e w' => e = .returned (.bool true) ∧ Below W.heap.size W w') := fun W hW => known5_any W (hmx.below hW)
  have HRP : Hid (∀ W, Calls Tryd.prog 11 #[.string (s.extract 0 m)] W fun e w' => e = .returned (.tuple #[.agg (tC (pR (s.extract 0 m).data.toList)), .bool (pB (s.extract 0 m).data.toList)]) ∧ Below W.heap.size W w') := fun W => refParse5_any _ W hu
  have HTP : Hid (∀ W, Below w.heap.size w W → Calls Tryd.prog 12 #[.string (s.extract 0 m)] W fun e w' => e = .returned (.tuple #[.agg (bC (tagR (s.extract 0 m).data.toList)), .int .i64 (tagE (s.extract 0 m).data.toList)]) ∧ Below W.heap.size W w') := fun W hW => tagParse_any _ W hu (hmx.below hW)
  have HB0 : Hid (Below w.heap.size w w) := Below.refl _ _
  have HZ : Hid (tag0.length = 10) := rfl
  cases hp : parseT (s.extract 0 m).data.toList with
  | none =>
    have e1 : pR (s.extract 0 m).data.toList = t30 := by rw [pR, hp]; rfl
    have e2 : pB (s.extract 0 m).data.toList = false := by rw [pB, hp]; rfl
    obtain ⟨e3, e4⟩ := tag_no hp
    rw [e1, e2] at HRP
    rw [e3, e4] at HTP
    clear hp e1 e2 e3 e4 hmx hu
    go_enter Tryd.func3, Tryd.ntmps3
    go_upto_region 3 with (first
      | (go_at_call 11; (refine (HRP.out _).mono ?_); rintro e w1 ⟨rfl, hb1⟩; have HB1 := Lib.hid hb1; clear hb1)
      | ((with_reducible refine gate_st 23 _ _ rfl ?_); refine st_3 rfl _ _ rfl w1.heap.size t30 t30 _ rfl rfl (heap_alloc_new _ _) ?_))
    have HL := HZ
    have he0 : ∀ W, (binOp .eql 29 (.agg (bC tag0)) (.agg #[.int .u8 0, .int .u8 0, .int .u8 0, .int .u8 0, .int .u8 0, .int .u8 0, .int .u8 0, .int .u8 0, .int .u8 0, .int .u8 0])).run Tryd.prog W = .ok (.bool true) W := fun W => eql10 W tag0 tag0 rfl rfl
    rw [show (Obj.cells #[Value.string ⟨#[]⟩, Value.string ⟨#[]⟩, Value.string ⟨#[]⟩] 23) = Obj.cells (tC t30) 23 from rfl]
    have HG2 : Hid (((w1.alloc (.cells (tC t30) 23)).setRow w1.heap.size (tC t30)).heap[w1.heap.size]? = some (.cells (tC t30) 23 (0, 0))) := setRow_at (heap_alloc_new _ _)
    have HB2 : Hid (Below w.heap.size w ((w1.alloc (.cells (tC t30) 23)).setRow w1.heap.size (tC t30))) := setRow_below (HB1.out.alloc HB1.out.size _) HB1.out.size _
    generalize ((w1.alloc (.cells (tC t30) 23)).setRow w1.heap.size (tC t30)) = W2 at *
    generalize w1.heap.size = g at *
    clear HB1
    go_upto_region 4 with (first
      | (go_at_call 12; (refine (HTP.out _ HB2.out).mono ?_); rintro e w3 ⟨rfl, hb3⟩; have HB3 := Lib.hid (HB2.out.trans (hb3.mono HB2.out.size)); have HG3 : Hid (w3.heap[g]? = some (.cells (tC t30) 23 (0, 0))) := (by (show _ = _; rw [hb3.block _ (lt_heap HG2.out)]; exact HG2.out)); clear hb3)
      | ((with_reducible refine gate_st 29 _ _ rfl ?_); refine st_T rfl _ _ rfl w3.heap.size tag0 tag0 HL.out rfl _ rfl rfl (heap_alloc_new _ _) ?_))
    rw [show (Obj.cells #[Value.int IntKind.u8 0, Value.int IntKind.u8 0, Value.int IntKind.u8 0, Value.int IntKind.u8 0, Value.int IntKind.u8 0, Value.int IntKind.u8 0, Value.int IntKind.u8 0, Value.int IntKind.u8 0, Value.int IntKind.u8 0, Value.int IntKind.u8 0] 29) = Obj.cells (bC tag0) 29 from rfl]
    have hlt3 := lt_heap HG3.out
    have HG4 : Hid (((w3.alloc (.cells (bC tag0) 29)).setRow w3.heap.size (bC tag0)).heap[g]? = some (.cells (tC t30) 23 (0, 0))) := (setRow_other _ _ _ _ (by omega)).trans ((heap_alloc_old _ _ hlt3).trans HG3.out)
    have HA4 : Hid (((w3.alloc (.cells (bC tag0) 29)).setRow w3.heap.size (bC tag0)).heap[w3.heap.size]? = some (.cells (bC tag0) 29 (0, 0))) := setRow_at (heap_alloc_new _ _)
    have HB4 : Hid (Below w.heap.size w ((w3.alloc (.cells (bC tag0) 29)).setRow w3.heap.size (bC tag0))) := setRow_below (HB3.out.alloc HB3.out.size _) HB3.out.size _
    generalize ((w3.alloc (.cells (bC tag0) 29)).setRow w3.heap.size (bC tag0)) = W4 at *
    generalize w3.heap.size = h at *
    clear HB3 HG2 HG3 HB2 hlt3
    go_wp2_with (first
      | (with_reducible refine ld_T rfl _ rfl h tag0 HL.out rfl HA5.out ?_)
      | (go_at_call 13; (refine (HKn.out _ HB4.out).mono ?_); rintro e w5 ⟨rfl, hb5⟩; have HB5 := Lib.hid (HB4.out.trans (hb5.mono HB4.out.size)); have HA5 : Hid (w5.heap[h]? = some (.cells (bC tag0) 29 (0, 0))) := (by (show _ = _; rw [hb5.block _ (lt_heap HA4.out)]; exact HA4.out)); clear hb5))
    go_ret
    exact ⟨rfl, HB5.out⟩
  | some t =>
    have e1 : pR (s.extract 0 m).data.toList = t := by rw [pR, hp]; rfl
    have e2 : pB (s.extract 0 m).data.toList = true := by rw [pB, hp]; rfl
    have e3 : tagR (s.extract 0 m).data.toList = bytT t := by rw [tagR, hp]
    have e4 : tagE (s.extract 0 m).data.toList = 0 := by rw [tagE, hp]; rfl
    obtain ⟨k1, k2, k3, k4, k5, k6⟩ := parse_known hp
    rw [e1, e2] at HRP
    rw [e3, e4] at HTP
    have HL := Lib.hid k6
    have HTo : Hid (∀ W : World, Calls Tryd.prog 14 #[.agg (tC t)] W fun e w' => e = .returned (.agg (bC (bytT t))) ∧ Below W.heap.size W w') := fun W => to_any t W k3 k4 k5
    have HTx : Hid (∀ W, Below w.heap.size w W → Calls Tryd.prog 15 #[.agg (bC (bytT t))] W fun e w' => e = .returned (.string ⟨(text5 t).toArray⟩) ∧ Below W.heap.size W w') := fun W hW => by
      have := tagText_any (bytT t) W k6 (hmx.below hW)
      rwa [k1] at this
    have HRx : Hid (∀ W : World, Calls Tryd.prog 16 #[.agg (tC t)] W fun e w' => e = .returned (.string ⟨(text5 t).toArray⟩) ∧ Below W.heap.size W w') := fun W => text_any5 t W (by omega) (by omega) (by omega)
    have HRi : Hid (∀ W, Below w.heap.size w W → Calls Tryd.prog 17 #[.agg (bC (bytT t))] W fun e w' => e = .returned (.bool true) ∧ Below W.heap.size W w') := fun W hW => by
      have := right_any5 (bytT t) W k6 (hmx.below hW)
      rwa [k2] at this
    have he : ∀ W, (binOp .eql 29 (.agg (bC (bytT t))) (.agg (bC (bytT t)))).run Tryd.prog W = .ok (.bool true) W := fun W => by
      have := eql10 W (bytT t) (bytT t) k6 k6
      rwa [show (bytT t == bytT t) = true from by simp] at this
    have hq : ∀ W, (binOp .eql 9 (.string ⟨(text5 t).toArray⟩) (.string ⟨(text5 t).toArray⟩)).run Tryd.prog W = .ok (.bool true) W := fun W => by
      have := eqlS ⟨(text5 t).toArray⟩ ⟨(text5 t).toArray⟩ W
      rwa [show decide ((text5 t).toArray.toList = (text5 t).toArray.toList) = true from by simp] at this
    clear hp e1 e2 e3 e4 k1 k2 k3 k4 k5 k6 hmx hu
    generalize bytT t = bt at *
    generalize (text5 t).toArray = tx at *
    go_enter Tryd.func3, Tryd.ntmps3
    go_upto_region 3 with (first
      | (go_at_call 11; (refine (HRP.out _).mono ?_); rintro e w1 ⟨rfl, hb1⟩; have HB1 := Lib.hid hb1; clear hb1)
      | ((with_reducible refine gate_st 23 _ _ rfl ?_); refine st_3 rfl _ _ rfl w1.heap.size t t30 _ rfl rfl (heap_alloc_new _ _) ?_))
    rw [show (Obj.cells #[Value.string ⟨#[]⟩, Value.string ⟨#[]⟩, Value.string ⟨#[]⟩] 23) = Obj.cells (tC t30) 23 from rfl]
    have HG2 : Hid (((w1.alloc (.cells (tC t30) 23)).setRow w1.heap.size (tC t)).heap[w1.heap.size]? = some (.cells (tC t) 23 (0, 0))) := setRow_at (heap_alloc_new _ _)
    have HB2 : Hid (Below w.heap.size w ((w1.alloc (.cells (tC t30) 23)).setRow w1.heap.size (tC t))) := setRow_below (HB1.out.alloc HB1.out.size _) HB1.out.size _
    generalize ((w1.alloc (.cells (tC t30) 23)).setRow w1.heap.size (tC t)) = W2 at *
    generalize w1.heap.size = g at *
    clear HB1
    go_upto_region 4 with (first
      | (go_at_call 12; (refine (HTP.out _ HB2.out).mono ?_); rintro e w3 ⟨rfl, hb3⟩; have HB3 := Lib.hid (HB2.out.trans (hb3.mono HB2.out.size)); have HG3 : Hid (w3.heap[g]? = some (.cells (tC t) 23 (0, 0))) := (by (show _ = _; rw [hb3.block _ (lt_heap HG2.out)]; exact HG2.out)); clear hb3)
      | ((with_reducible refine gate_st 29 _ _ rfl ?_); refine st_T rfl _ _ rfl w3.heap.size bt tag0 HL.out rfl _ rfl rfl (heap_alloc_new _ _) ?_))
    rw [show (Obj.cells #[Value.int IntKind.u8 0, Value.int IntKind.u8 0, Value.int IntKind.u8 0, Value.int IntKind.u8 0, Value.int IntKind.u8 0, Value.int IntKind.u8 0, Value.int IntKind.u8 0, Value.int IntKind.u8 0, Value.int IntKind.u8 0, Value.int IntKind.u8 0] 29) = Obj.cells (bC tag0) 29 from rfl]
    have hlt3 := lt_heap HG3.out
    have HG4 : Hid (((w3.alloc (.cells (bC tag0) 29)).setRow w3.heap.size (bC bt)).heap[g]? = some (.cells (tC t) 23 (0, 0))) := (setRow_other _ _ _ _ (by omega)).trans ((heap_alloc_old _ _ hlt3).trans HG3.out)
    have HA4 : Hid (((w3.alloc (.cells (bC tag0) 29)).setRow w3.heap.size (bC bt)).heap[w3.heap.size]? = some (.cells (bC bt) 29 (0, 0))) := setRow_at (heap_alloc_new _ _)
    have HB4 : Hid (Below w.heap.size w ((w3.alloc (.cells (bC tag0) 29)).setRow w3.heap.size (bC bt))) := setRow_below (HB3.out.alloc HB3.out.size _) HB3.out.size _
    generalize ((w3.alloc (.cells (bC tag0) 29)).setRow w3.heap.size (bC bt)) = W4 at *
    generalize w3.heap.size = h at *
    clear HB3 HG2 HG3 HB2 hlt3
    go_upto_region 6 with fail
    have K1 : Hid (∀ W, Below W4.heap.size W4 W → Calls Tryd.prog 13 #[] W fun e w' => e = .returned (.bool true) ∧ Below W.heap.size W w') := fun W hW => HKn.out W (HB4.out.trans (hW.mono HB4.out.size))
    have K2 : Hid (∀ W, Below W4.heap.size W4 W → Calls Tryd.prog 14 #[.agg (tC t)] W fun e w' => e = .returned (.agg (bC bt)) ∧ Below W.heap.size W w') := fun W _ => HTo.out W
    have K3 : Hid (∀ W, Below W4.heap.size W4 W → Calls Tryd.prog 15 #[.agg (bC bt)] W fun e w' => e = .returned (.string ⟨tx⟩) ∧ Below W.heap.size W w') := fun W hW => HTx.out W (HB4.out.trans (hW.mono HB4.out.size))
    have K4 : Hid (∀ W, Below W4.heap.size W4 W → Calls Tryd.prog 16 #[.agg (tC t)] W fun e w' => e = .returned (.string ⟨tx⟩) ∧ Below W.heap.size W w') := fun W _ => HRx.out W
    have K5' : Hid (∀ W, Below W4.heap.size W4 W → Calls Tryd.prog 17 #[.agg (bC bt)] W fun e w' => e = .returned (.bool true) ∧ Below W.heap.size W w') := fun W hW => HRi.out W (HB4.out.trans (hW.mono HB4.out.size))
    refine wp_region_quiet_below (by kernel_rfl) (by kernel_rfl) ?_
    repeat (first
      | (with_reducible refine wq_T rfl _ rfl h bt HL.out rfl HA4.out ?_; simp only [Act.put, List.setIfInBounds_toArray, List.set_cons_zero, List.set_cons_succ])
      | (with_reducible refine wq_3 rfl _ rfl g t rfl HG4.out ?_; simp only [Act.put, List.setIfInBounds_toArray, List.set_cons_zero, List.set_cons_succ])
      | go_big_quiet_step (first | (with_reducible exact rg_callB K1.out _ _) | (with_reducible exact rg_callB K2.out _ _) | (with_reducible exact rg_callB K3.out _ _) | (with_reducible exact rg_callB K4.out _ _) | (with_reducible exact rg_callB K5'.out _ _)))
    refine wpQuiet_nil ?_
    rintro _ ⟨⟨dq, osq⟩, rfl⟩
    go_wp2_with fail
    go_ret
    exact ⟨rfl, HB4.out.trans ((below_regrown W4 dq osq).mono HB4.out.size)⟩
theorem TagParses_walkI (s : ByteArray) (w : World) (hmx : MX w) (hs : s.size ≤ 9223372036854775807) :
    Calls Tryd.prog 3 #[.string s] w fun e w' => e = .returned (.bool true) ∧ Below w.heap.size w w' :=
  TagParses_walkJ s (min s.size 30) w hmx hs (by omega)
end Go.Proofs.YtnambaiafailaaaDoor
