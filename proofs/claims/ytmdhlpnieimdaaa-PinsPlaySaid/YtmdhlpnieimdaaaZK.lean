/- The law's same. -/
import Derived.Test.YtmdhlpnieimdaaaZJ
namespace Go.Proofs.Ytmdhlpnieimdaaa
open Go.RowKit

section
variable {P : Program} {Q : Exit → Act → World → Prop}
theorem wpOp_callK {ops : Array Oper} {i : Nat} {o : Oper} {a : Act} {w : World} {f : FuncId} {args : Array Value} {R : Ending → World → Prop} {K : Act → World → Prop} (hi : ops[i]? = some o) (hg : o.guard = none) (hr : (execOp a.eval o).run P w = .ok (.enter f args) w)
    (hc : Calls P f args w R) (h : ∀ e w', R e w' → ∃ v, e = .returned v ∧ K (a.put o.dst v) w') : wpOp P ops Q i K a w := by
  unfold wpOp
  simp only [hi]
  rw [if_pos (by unfold Region.wanted; rw [hg])]
  left
  unfold Oper.wp
  rw [hr, Oper.upon_enter]
  refine hc.mono ?_
  intro e w' hR
  obtain ⟨v, rfl, hk⟩ := h e w' hR
  exact hk
theorem exec_callsK {o : Oper} {a : Act} {f : FuncId} {xs : Array Operand} {ts : Array TypeId} {vs : Array Value} (ho : o.op = .call { callee := .value (.func f), args := xs, argTypes := ts }) (hf : ∀ args w, (callFunc f args).run P w = .ok (.enter f args) w) (hx : xs.map a.eval = vs) (w : World) :
    (execOp a.eval o).run P w = .ok (.enter f vs) w := by
  unfold execOp
  simp [ho, resolve, invoke, hx, hf, Deferred.ofValue, show a.eval (.func f) = .func (.func f) #[] #[] from rfl]
end
theorem lookN_nil (w : World) (k : Nat) : (Instr.lookup 25 (.map none) (.int .u64 (k : Int)) false).run Try.prog w = .ok (.int .i64 0) w := by
  have hz : ∀ w, (zeroValue 3).run Try.prog w = .ok (.int .i64 0) w := fun w => by kernel_rfl
  have hc : ∀ b, (Instr.checkKey b 10000 23 (.int .u64 k)).run Try.prog w = .ok () w := fun b => MapKept.run_checkKey Try.underlying23 (by simp [MapKept.IsKey]) b 9999
  have hf := run_findKeyN w k []
  simp only [List.map_nil, findN] at hf
  simp only [Instr.lookup, Sem.run_bind, run_underlying Try.underlying25, Result.andThen_ok, Sem.run_pure, hc, hf]
  simp [hz]
set_option maxHeartbeats 1000000 in
theorem countT_any (tp t : Nat) (s : PS) (o : Option Nat) (w : World) (h : TabP w tp s o) : Calls Try.prog 10 #[.pointer (some ⟨tp, 0, none⟩), .int .u64 (t : Int)] w fun e w' => e = .returned (.int .i64 (s.f t : Nat)) ∧ w = w' := by
  cases o with
  | some r => exact count_of tp r t s w h
  | none =>
    have hcm := h.1.1.cm
    have hf : s.f t = 0 := by rw [show s.f = fun _ => 0 from h.1.2.1]
    rw [hf]
    have hlk := lookN_nil w t
    clear h hf
    go_enter Try.func10, Try.ntmps10
    go_wp2_with fail
    go_ret
    exact ⟨rfl, rfl⟩
theorem ofb (s : PS) (t : Nat) (h : s.Ok) : cntA s.used s.times t 64 = s.f t := by rw [h.hf]; rfl
theorem oneb (s : PS) : (onesOf s.used : Int) = ((cntP s.used.testBit 64 : Nat) : Int) := by rw [onesOf, cntTo_eq]
set_option maxRecDepth 100000 in
set_option maxHeartbeats 8000000 in
theorem same_any (tp t : Nat) (s : PS) (o : Option Nat) (w : World) (ht : TabP w tp s o) :
    Calls Try.prog 15 #[.pointer (some ⟨tp, 0, none⟩), .agg (dC s.used s.times), .int .u64 (t : Int)] w fun e w' => e = .returned (.bool true) ∧ Below w.heap.size w w' := by
  have hl := ht.2.hl
  have HI := Lib.hid (dT_is ht.2)
  have HK9 := Lib.hid (K_len ht.2)
  have HOF := Lib.hid (ofb s t ht.2)
  have HD0 : Hid (DT (w.alloc (.cells (dC s.used s.times) 43)) w.heap.size s.used s.times) := heap_alloc_new _ _
  have HB0 : Hid (Below w.heap.size w (w.alloc (.cells (dC s.used s.times) 43))) := below_alloc1 _ _
  have HT0 : Hid (TabP (w.alloc (.cells (dC s.used s.times) 43)) tp s o) := ht.below HB0.out
  have htp := ht.lt
  have KR : Hid (∀ W, Calls Try.prog 22 #[.agg (dC s.used s.times)] W (TimP (dT s.used s.times 64) W)) := fun W => refTimes_any _ _ W hl
  have KC : Hid (∀ W, Calls Try.prog 23 #[.agg (dC s.used s.times), .int .u64 (t : Int)] W fun e w' => e = .returned (.tuple #[.int .i64 (s.f t : Nat), .int .i64 (cntP s.used.testBit 64 : Nat)]) ∧ Below W.heap.size W w') := fun W => by
    have := refCount_any s.used t s.times W hl
    rwa [HOF.out] at this
  have HLN : Hid ((dT s.used s.times 64).length ≤ 64) := dT_len _ _ _
  have KCt : Hid (∀ W, TabP W tp s o → Calls Try.prog 10 #[.pointer (some ⟨tp, 0, none⟩), .int .u64 (t : Int)] W fun e w' => e = .returned (.int .i64 (s.f t : Nat)) ∧ W = w') := fun W h => countT_any tp t s o W h
  have KL : Hid (∀ W, TabP W tp s o → Calls Try.prog 12 #[.pointer (some ⟨tp, 0, none⟩)] W fun e w' => e = .returned (.int .i64 (cntP s.used.testBit 64 : Nat)) ∧ W = w') := fun W h => by
    have := len_tab tp s.used s.times o W h.1.1
    rwa [oneb] at this
  have KO : Hid (∀ W, TabP W tp s o → Calls Try.prog 16 #[.pointer (some ⟨tp, 0, none⟩)] W fun e w' => e = .returned (.tuple #[.int .u64 (headU (dT s.used s.times 64) : Nat), .bool (someU (dT s.used s.times 64))]) ∧ Below W.heap.size W w') := fun W h => oldest_any tp s o _ W h HI.out HK9.out
  have KB : Hid (∀ W, TabP W tp s o → Calls Try.prog 18 #[.pointer (some ⟨tp, 0, none⟩), .int .u64 (t : Int)] W fun e w' => e = .returned (.bool (belU (dT s.used s.times 64) t)) ∧ Below W.heap.size W w') := fun W h => below_anyT tp t s o _ W h HI.out HK9.out
  clear ht HOF
  generalize dT s.used s.times 64 = l at *
  go_enter Try.func15, Try.ntmps15
  go_upto_region 1 with fail
  generalize w.alloc (.cells (dC s.used s.times) 43) = W0 at *
  have hB0 : w.heap.size < W0.heap.size := lt_heap HD0.out
  refine wp_region_held_drew (S := fun w' => DT w' w.heap.size s.used s.times) (by kernel_rfl) (HD0.out.below hB0 (below_drew W0)) (fun hS0 => ?_)
  show wpAnyH Try.prog Region.Mode.any _ _ _ 6 #[false, false, false, false, false, false] _ _
  have HTd : Hid (TabP W0.drew tp s o) := HT0.out.below (below_drew W0)
  have HBd : Hid (Below w.heap.size w W0.drew) := HB0.out.trans ((below_drew W0).mono HB0.out.size)
  have hBd : w.heap.size < W0.drew.heap.size := hB0
  clear HT0 HD0 HB0 hB0
  generalize W0.drew = Wd at *
  refine takeD (i := 0) (v := .pointer (some ⟨tp, 0, none⟩)) 18 rfl rfl (by kernel_rfl) (by kernel_rfl) (by kernel_rfl) (fun _ _ _ h => h) (Or.inl ⟨rfl, fun w' hS => rfl⟩) hS0 ?_
  simp only [Act.put, List.setIfInBounds_toArray, List.set_cons_zero, List.set_cons_succ]
  refine takeD (i := 2) (v := .agg (dC s.used s.times)) 20 rfl rfl (by kernel_rfl) (by kernel_rfl) (by kernel_rfl) (fun _ _ _ h => h) (Or.inl ⟨rfl, fun w' hS => exec_ldr 43 (.tmp 4) rfl w.heap.size 0 (dL s.used s.times) _ Try.underlying43 rfl (by rw [siz43, dL_len _ hl]) rfl hS.range⟩) hS0 ?_
  simp only [Act.put, List.setIfInBounds_toArray, List.set_cons_zero, List.set_cons_succ]
  refine oneH 1 (by kernel_rfl) (wpOp_callK rfl rfl (exec_call1 (x := .tmp 18) (v := .pointer (some ⟨tp, 0, none⟩)) rfl (enters_of Try.func17 (by kernel_rfl) rfl) rfl _) (times_any tp s o l Wd HTd.out HI.out HK9.out) ?_)
  rintro e w1 ⟨hb1, v1, rfl, hr1⟩
  refine ⟨v1, rfl, hS0.below hBd hb1, ?_⟩
  simp only [Act.put, List.setIfInBounds_toArray, List.set_cons_zero, List.set_cons_succ]
  refine oneH 3 (by kernel_rfl) (wpOp_callK rfl rfl (exec_call1 (x := .tmp 20) (v := .agg (dC s.used s.times)) rfl (enters_of Try.func22 (by kernel_rfl) rfl) rfl _) (KR.out _) ?_)
  rintro e w2 ⟨hb2, v2, rfl, hr2⟩
  have hb12 : Below Wd.heap.size Wd w2 := hb1.trans (hb2.mono hb1.size)
  refine ⟨v2, rfl, hS0.below hBd hb12, ?_⟩
  simp only [Act.put, List.setIfInBounds_toArray, List.set_cons_zero, List.set_cons_succ]
  refine takeD (i := 4) (v := v1) 7 rfl rfl (by kernel_rfl) (by kernel_rfl) (by kernel_rfl) (fun _ _ _ h => h) (Or.inl ⟨rfl, fun w' hS => rfl⟩) (hS0.below hBd hb12) ?_
  simp only [Act.put, List.setIfInBounds_toArray, List.set_cons_zero, List.set_cons_succ]
  refine takeD (i := 5) (v := v2) 8 rfl rfl (by kernel_rfl) (by kernel_rfl) (by kernel_rfl) (fun _ _ _ h => h) (Or.inl ⟨rfl, fun w' hS => rfl⟩) (hS0.below hBd hb12) ?_
  refine wpAnyH_done (by kernel_rfl) ?_ _
  simp only [Act.put, List.getElem_toArray, List.getElem_cons_zero, List.getElem_cons_succ, List.setIfInBounds_toArray, List.set_cons_zero, List.set_cons_succ]
  have HT2 : Hid (TabP w2 tp s o) := HTd.out.below hb12
  have HD2 : Hid (DT w2 w.heap.size s.used s.times) := hS0.below hBd hb12
  have HB2 : Hid (Below w.heap.size w w2) := HBd.out.trans (hb12.mono HBd.out.size)
  have hB2 : w.heap.size < w2.heap.size := lt_heap HD2.out
  have hR1 := hr1.below hb2
  have hR2 := hr2
  obtain ⟨q1, c1, rfl, hq1⟩ := hR1
  obtain ⟨q2, c2, rfl, hq2⟩ := hR2
  have HQ1 := Lib.hid hq1
  have HQ2 := Lib.hid hq2
  clear hr1 hr2 hb1 hb2 hb12 hS0 HTd HBd hBd hq1 hq2 KR
  have HN9 : Hid (l.length ≤ 64) := HLN
  obtain ⟨n, hn⟩ : ∃ n, l.length = n := ⟨_, rfl⟩
  have hn64 : n ≤ 64 := by rw [← hn]; exact HN9.out
  rw [hn]
  go_wp2_with fail
  go_loopw [9] (fun vi wr => ∃ j : Nat, j ≤ n ∧ vi = .int .i64 j ∧ Hid (Below w2.heap.size w2 wr)) (fun vi _ => n - (intOf vi).toNat)
  case atStart => exact ⟨0, Nat.zero_le _, rfl, Below.refl _ _⟩
  case round =>
    obtain ⟨j, hj, rfl, HBz⟩ := hrel
    by_cases hjn : j < n
    · have hjI : (j : Int) < (n : Int) := by omega
      obtain ⟨g1, rfl, hg1, hc1⟩ := HQ1.out j (by omega)
      obtain ⟨g2, rfl, hg2, hc2⟩ := HQ2.out j (by omega)
      obtain ⟨x, hx⟩ : ∃ x, l[j]'(by omega) = x := ⟨_, rfl⟩
      rw [hx] at hc1 hc2
      have hz1 := (cell_of (HBz.out.block g1 hg1) j).trans hc1
      have hz2 := (cell_of (HBz.out.block g2 hg2) j).trans hc2
      clear hc1 hc2 hx
      go_wp2_with fail
      go_quiet (fail)
      have HBq : Hid (Below w2.heap.size w2 (wr.drewN nq)) := HBz.out.trans ((below_drewN wr nq).mono HBz.out.size)
      clear HBz hz1 hz2
      generalize wr.drewN nq = Wq at *
      go_wp2_with fail
      go_roundw
      case rel => exact ⟨j + 1, by omega, by go_num, HBq.out⟩
      case measure => simp [intOf]; omega
    · obtain rfl : n = j := by omega
      have HTr : Hid (TabP wr tp s o) := HT2.out.below HBz.out
      have HDr : Hid (DT wr w.heap.size s.used s.times) := HD2.out.below hB2 HBz.out
      have HBr : Hid (Below w.heap.size w wr) := HB2.out.trans (HBz.out.mono HB2.out.size)
      have HR2 : Hid (∀ i (h : i < l.length), ∃ g, q2 = some ⟨g, 0, none⟩ ∧ g < wr.heap.size ∧ wr.cell? ⟨g, i, none⟩ = some (.int .u64 ((l[i] : Nat) : Int))) := fun i hi => by
        obtain ⟨g, e1, e2, e3⟩ := HQ2.out i hi
        exact ⟨g, e1, Nat.lt_of_lt_of_le e2 HBz.out.size, (cell_of (HBz.out.block g e2) i).trans e3⟩
      clear HT2 HD2 HB2 HBz HQ1 HQ2
      generalize hnf : s.f t = nf at *
      generalize hna : cntP s.used.testBit 64 = na at *
      clear hnf hna
      go_upto_region 10 with (first
        | ((with_reducible refine gate_ld 43 (.tmp 4) rfl ?_); refine wl_ldr rfl 43 _ rfl w.heap.size 0 (dL s.used s.times) _ Try.underlying43 rfl (by rw [siz43, dL_len _ hl]) rfl HDr.out.range ?_)
        | (go_at_call 23; (refine (KC.out _).mono ?_); rintro e w3 ⟨rfl, hb3⟩))
      have HT3 : Hid (TabP w3 tp s o) := HTr.out.below hb3
      have hBr := lt_heap HDr.out
      have HD3 : Hid (DT w3 w.heap.size s.used s.times) := HDr.out.below hBr hb3
      have HB3 : Hid (Below w.heap.size w w3) := HBr.out.trans (hb3.mono HBr.out.size)
      have HR3 : Hid (∀ i (h : i < l.length), ∃ g, q2 = some ⟨g, 0, none⟩ ∧ g < w3.heap.size ∧ w3.cell? ⟨g, i, none⟩ = some (.int .u64 ((l[i] : Nat) : Int))) := fun i hi => by
        obtain ⟨g, e1, e2, e3⟩ := HR2.out i hi
        exact ⟨g, e1, Nat.lt_of_lt_of_le e2 hb3.size, (cell_of (hb3.block g e2) i).trans e3⟩
      clear HTr HDr HBr HR2 hb3 hBr
      go_upto_region 11 with (go_at_call 16; (refine (KO.out _ HT3.out).mono ?_); rintro e w4 ⟨rfl, hb4⟩)
      have HT4 : Hid (TabP w4 tp s o) := HT3.out.below hb4
      have hB3 := lt_heap HD3.out
      have HD4 : Hid (DT w4 w.heap.size s.used s.times) := HD3.out.below hB3 hb4
      have HB4 : Hid (Below w.heap.size w w4) := HB3.out.trans (hb4.mono HB3.out.size)
      have HR4 : Hid (∀ i (h : i < l.length), ∃ g, q2 = some ⟨g, 0, none⟩ ∧ g < w4.heap.size ∧ w4.cell? ⟨g, i, none⟩ = some (.int .u64 ((l[i] : Nat) : Int))) := fun i hi => by
        obtain ⟨g, e1, e2, e3⟩ := HR3.out i hi
        exact ⟨g, e1, Nat.lt_of_lt_of_le e2 hb4.size, (cell_of (hb4.block g e2) i).trans e3⟩
      clear HT3 HD3 HB3 HR3 hb4 hB3 KO
      go_cut [104] (fun s wx => s = .bool false ∧ Hid (Below w4.heap.size w4 wx))
      case first => as_aux_lemma =>
        cases l with
        | nil =>
          obtain rfl : n = 0 := by simpa using hn.symm
          have e1 : someU [] = false := rfl
          have e2 : headU [] = 0 := rfl
          have e3 : belU [] t = false := rfl
          rw [e3] at KB
          rw [e1, e2]
          go_wp2_with (first
            | (go_at_call 10; (refine (KCt.out _ HT4.out).mono ?_); rintro e wa ⟨rfl, rfl⟩)
            | (go_at_call 12; (refine (KL.out _ HT4.out).mono ?_); rintro e wa ⟨rfl, rfl⟩)
            | (go_at_call 18; (refine (KB.out _ HT4.out).mono ?_); rintro e wb ⟨rfl, hb5⟩))
          go_meet
          case rel => exact ⟨rfl, hb5⟩
        | cons x l' =>
          have hn0 : 0 < n := by rw [← hn]; simp
          have hn0I : (0 : Int) < (n : Int) := by omega
          have e1 : someU (x :: l') = true := rfl
          have e2 : headU (x :: l') = x := rfl
          have e3 : belU (x :: l') t = decide (x < t) := rfl
          obtain ⟨g, rfl, hg, hc⟩ := HR4.out 0 (by simp)
          simp only [List.getElem_cons_zero] at hc
          rw [e3] at KB
          rw [e1, e2]
          clear hn HN9 HI HK9 HLN HR4
          by_cases hxt : x < t
          · have hd : decide ((x : Int) < (t : Int)) = true := by simpa using hxt
            rw [decide_eq_true hxt] at KB
            go_wp2_with (first
              | (go_at_call 10; (refine (KCt.out _ HT4.out).mono ?_); rintro e wa ⟨rfl, rfl⟩)
              | (go_at_call 12; (refine (KL.out _ HT4.out).mono ?_); rintro e wa ⟨rfl, rfl⟩)
              | (go_at_call 18; (refine (KB.out _ HT4.out).mono ?_); rintro e wb ⟨rfl, hb5⟩; have hcb := (cell_of (hb5.block g hg) 0).trans hc))
            go_meet
            case rel => exact ⟨rfl, hb5⟩
          · have hd : decide ((x : Int) < (t : Int)) = false := by simpa using hxt
            rw [decide_eq_false hxt] at KB
            go_wp2_with (first
              | (go_at_call 10; (refine (KCt.out _ HT4.out).mono ?_); rintro e wa ⟨rfl, rfl⟩)
              | (go_at_call 12; (refine (KL.out _ HT4.out).mono ?_); rintro e wa ⟨rfl, rfl⟩)
              | (go_at_call 18; (refine (KB.out _ HT4.out).mono ?_); rintro e wb ⟨rfl, hb5⟩; have hcb := (cell_of (hb5.block g hg) 0).trans hc))
            go_meet
            case rel => exact ⟨rfl, hb5⟩
      case rest =>
      obtain ⟨rfl, HB5⟩ := hcut
      generalize wc = W5 at *
      have hB4 := lt_heap HD4.out
      have HT5 : Hid (TabP W5 tp s o) := HT4.out.below HB5.out
      have HD5 : Hid (DT W5 w.heap.size s.used s.times) := HD4.out.below hB4 HB5.out
      have HBw : Hid (Below w.heap.size w W5) := HB4.out.trans (HB5.out.mono HB4.out.size)
      have KA : Hid (∀ id : Int, Calls Try.prog 9 #[.pointer (some ⟨tp, 0, none⟩), .int .i64 id] W5 fun e w' => e = .returned (.tuple #[.int .u64 (if hasL s.used id then s.times.getD id.toNat 0 else 0 : Nat), .bool (hasL s.used id)]) ∧ W5 = w') := fun id => at_tab tp s.used s.times o id W5 HT5.out.1.1
      clear HT4 HD4 HB4 HB5 HT5 HR4 KB KL KCt HI HK9 HLN HN9 hn KC hB4
      go_wp2_with fail
      go_loopw [14] (fun vi wr => ∃ j : Int, -1 ≤ j ∧ j ≤ 65 ∧ vi = .int .i64 j ∧ wr = W5) (fun vi _ => (65 - intOf vi).toNat)
      case atStart => exact ⟨-1, by omega, by omega, rfl, rfl⟩
      case round =>
        obtain ⟨j, hj1, hj2, rfl, rfl⟩ := hrel
        by_cases h65 : j = 65
        · subst h65
          go_wp2_with fail
          go_ret
          exact ⟨rfl, HBw.out⟩
        have hj65 : j < 65 := by omega
        by_cases hneg : j < 0
        · obtain rfl : j = -1 := by omega
          have HK := Lib.hid (KA.out (-1))
          rw [show hasL s.used (-1) = false from rfl] at HK
          go_wp2_with (go_at_call 9; (refine (HK.out).mono ?_); rintro e wa ⟨rfl, rfl⟩)
          go_roundw
          case rel => exact ⟨0, by omega, by omega, by go_num, by first | rfl | trivial⟩
          case measure => simp [intOf]
        by_cases h64 : j = 64
        · subst h64
          have HK := Lib.hid (KA.out 64)
          rw [show hasL s.used 64 = false from rfl] at HK
          go_wp2_with (go_at_call 9; (refine (HK.out).mono ?_); rintro e wa ⟨rfl, rfl⟩)
          go_roundw
          case rel => exact ⟨65, by omega, by omega, by go_num, by first | rfl | trivial⟩
          case measure => simp [intOf]
        obtain ⟨k, rfl⟩ : ∃ k : Nat, j = k := ⟨j.toNat, by omega⟩
        have hk64 : k < 64 := by omega
        have hkI : (k : Int) < 64 := by omega
        have hk0 : (0 : Int) ≤ (k : Int) := by omega
        have hk0n : ¬ (k : Int) < 0 := by omega
        have hmin : min (k : Int) 63 = (k : Int) := by omega
        have hmax : max (k : Int) 0 = (k : Int) := by omega
        have hci := HD5.out.is hk64
        have hca := HD5.out.at_ hl hk64
        have HK := Lib.hid (KA.out (k : Int))
        have hh : hasL s.used (k : Int) = s.used.testBit k := by
          simp only [hasL, Int.toNat_natCast]
          rw [decide_eq_true hk0, decide_eq_true hkI]; rfl
        rw [hh, Int.toNat_natCast] at HK
        generalize s.times.getD k 0 = x at *
        cases hb : s.used.testBit k with
        | false =>
          rw [hb] at hci HK
          simp only [Bool.false_eq_true, if_false] at HK
          clear hb hh
          go_wp2_with (go_at_call 9; (refine (HK.out).mono ?_); rintro e wa ⟨rfl, rfl⟩)
          go_roundw
          case rel => exact ⟨(k : Int) + 1, by omega, by omega, by go_num, by first | rfl | trivial⟩
          case measure => simp [intOf]; omega
        | true =>
          rw [hb] at hci HK
          simp only [if_true] at HK
          clear hb hh
          go_wp2_with (go_at_call 9; (refine (HK.out).mono ?_); rintro e wa ⟨rfl, rfl⟩)
          go_roundw
          case rel => exact ⟨(k : Int) + 1, by omega, by omega, by go_num, by first | rfl | trivial⟩
          case measure => simp [intOf]; omega
end Go.Proofs.Ytmdhlpnieimdaaa
