/- CritKeys: which keys are of a prefix, which comes behind any key, which is first. -/
import Derived.Test.YtagdedjclbmlkaaE1
import Derived.Test.YtagdedjclbmlkaaEX
import Derived.Test.YtagdedjclbmlkaaE4
namespace Go.Proofs.Ytagdedjclbmlkaa
open Go.RowKit

def selE (p : List UInt8) (d : Int) (l : List RE) : List RE := l.filter fun y => hasP p d y.k
theorem sel_next {p : List UInt8} {d : Int} {l : List RE} {i : Nat} (hi : i < l.length) : selE p d (l.take (i + 1)) = if hasP p d l[i].k = true then selE p d (l.take i) ++ [l[i]] else selE p d (l.take i) := by
  unfold selE
  rw [List.take_succ_eq_append_getElem hi, List.filter_append, List.filter_cons]
  split
  · rfl
  · simp
theorem sel_at {p : List UInt8} {d : Int} {l : List RE} {xs : List K25} (h : xs.map (·.k) = (selE p d l).map (·.k)) {i : Nat} (hi : i < l.length) (hh : hasP p d l[i].k = true) : ∃ h : (selE p d (l.take i)).length < xs.length, xs[(selE p d (l.take i)).length].k = l[i].k := by
  have e : selE p d l = selE p d (l.take i) ++ l[i] :: selE p d (l.drop (i + 1)) := by
    unfold selE
    conv => lhs; rw [← List.take_append_drop i l, ← List.getElem_cons_drop hi]
    rw [List.filter_append, List.filter_cons, if_pos hh]
  have hl := congrArg List.length h
  rw [List.length_map, List.length_map, e, List.length_append, List.length_cons] at hl
  have h1 : (selE p d (l.take i)).length < xs.length := by omega
  refine ⟨h1, ?_⟩
  have h2 := congrArg (fun m => m[(selE p d (l.take i)).length]?) h
  simp only [List.getElem?_map] at h2
  rw [List.getElem?_eq_getElem h1, e, List.getElem?_append_right (Nat.le_refl _), Nat.sub_self] at h2
  simpa using h2
theorem next_tup {o : Option T} (h : WFO o) (k : List UInt8) : ∃ (nk : List UInt8) (nb : Bool), nk.length = 25 ∧ nextR (nextL (allO o) k) = .tuple #[.agg (bC nk), .bool nb] ∧ rnextR (nextL (allO o) k) = .tuple #[.agg (rkC nk).toArray, .bool nb] := by
  cases hn : nextL (allO o) k with
  | none => exact ⟨z25, false, rfl, rfl, rfl⟩
  | some nk =>
    refine ⟨nk, true, ?_, rfl, rfl⟩
    unfold nextL at hn
    obtain ⟨x, hx, rfl⟩ := Option.map_eq_some_iff.1 hn
    have hm := List.mem_of_find?_eq_some hx
    cases o with
    | none => cases hm
    | some t => exact T.WF.len h _ (T.key_mem hm)
theorem exec_neBB {o : Oper} {a : Act} {w : World} (x y : Operand) (ho : o.op = .binOp .neq 4 x y 4) (b : Bool) (hx : a.eval x = .bool b) (hy : a.eval y = .bool b) : (execOp a.eval o).run Try.prog w = .ok (.value (.bool false)) w := by
  unfold execOp
  simp only [ho, hx, hy]
  simp [go_sem]
theorem exec_geF {o : Oper} {a : Act} {w : World} (x y : Operand) (ho : o.op = .binOp .geq 3 x y 3) (m n : Int) (h : m < n) (hx : a.eval x = .int .i64 m) (hy : a.eval y = .int .i64 n) : (execOp a.eval o).run Try.prog w = .ok (.value (.bool false)) w := by
  unfold execOp
  simp only [ho, hx, hy]
  simp [go_sem]
  omega
theorem exec_gtI {o : Oper} {a : Act} {w : World} (x y : Operand) (ho : o.op = .binOp .gtr 3 x y 3) (m n : Int) (b : Bool) (h : decide (n < m) = b) (hx : a.eval x = .int .i64 m) (hy : a.eval y = .int .i64 n) : (execOp a.eval o).run Try.prog w = .ok (.value (.bool b)) w := by
  subst h
  unfold execOp
  simp only [ho, hx, hy]
  simp [go_sem]
theorem builtKZ : Try.prog.built 30 [] = some (bC z25) := by kernel_rfl
theorem pre_key {w : World} {b : Nat} {k : List UInt8} {d : Int} (h : w.rangeAt b 0 (pC k d)) : w.rangeAt b 0 (bC k).toList := range_app_left h
theorem pre_dep {w : World} {b : Nat} {k : List UInt8} {d : Int} (hk : k.length = 25) (h : w.rangeAt b 0 (pC k d)) : w.cell? ⟨b, 25, none⟩ = some (.int .i64 d) := by
  have := range_app_right h 25 (by simp [bC, hk]) 0 _ rfl
  simpa using this
def rz25A : Array Value := #[Value.int IntKind.i64 0, Value.int IntKind.i64 0, Value.int IntKind.i64 0, Value.int IntKind.u8 0, Value.int IntKind.u8 0, Value.int IntKind.u8 0, Value.int IntKind.u8 0, Value.int IntKind.u8 0, Value.int IntKind.u8 0, Value.int IntKind.u8 0, Value.int IntKind.u8 0, Value.int IntKind.u8 0, Value.int IntKind.u8 0, Value.int IntKind.u8 0, Value.int IntKind.u8 0, Value.int IntKind.u8 0, Value.int IntKind.u8 0, Value.int IntKind.u8 0, Value.int IntKind.u8 0, Value.int IntKind.u8 0, Value.int IntKind.u8 0, Value.int IntKind.u8 0, Value.int IntKind.u8 0, Value.int IntKind.u8 0, Value.int IntKind.u8 0]
/-- The key that the first one is, and whether there is one. -/
theorem first_tup {o : Option T} {ys : List RE} {n : Nat} (hall : ys.map RE.p = allO o) (hn : ys.length = n) : ∃ (fk : List UInt8) (fb : Bool), fk.length = 25 ∧ nextR ((allO o).head?.map (·.1)) = .tuple #[.agg (bC fk), .bool fb] ∧ fb = decide (0 < n) ∧ (n = 0 → fk = z25) ∧ ∀ h : 0 < ys.length, ys[0].k = fk := by
  subst hn
  rw [← hall]
  cases ys with
  | nil => exact ⟨z25, false, rfl, rfl, rfl, fun _ => rfl, fun h => absurd h (by simp)⟩
  | cons y ys => exact ⟨y.k, true, y.hk, rfl, by simp, fun h => by simp at h, fun _ => rfl⟩
set_option maxRecDepth 100000 in
set_option maxHeartbeats 16000000 in
theorem CritKeys_walk (q0 : Option Addr) (n0 c0 : Nat) (acs : List AC) (p : List UInt8) (d : Int) (k : List UInt8) (w : World) (hn : acs.length = n0) (hn9 : n0 ≤ maxLen) (hq : SlAt acC 27 w q0 acs) (hp : p.length = 25) (hk : k.length = 25) :
    Calls Try.prog 5 #[.slice q0 n0 c0, .agg (pC p d).toArray, .agg (bC k)] w fun e w' => e = .returned (.bool true) ∧ Below w.heap.size w w' := by
  have HP := Lib.hid hp
  have HK := Lib.hid hk
  have HB0 := Lib.hid (below_alloc2 w (.cells (pC p d).toArray 63) (.cells (bC k) 30))
  have HX0 := Lib.hid (heap_alloc2_old w (.cells (pC p d).toArray 63) (.cells (bC k) 30))
  have HY0 := Lib.hid (heap_alloc2_new w (.cells (pC p d).toArray 63) (.cells (bC k) 30))
  have hq0 := hq.below HB0.out
  clear hp hk hq
  go_enter Try.func5, Try.ntmps5
  go_upto_region 1 with fail
  obtain ⟨pb, hpb⟩ : ∃ pb, pb = w.heap.size := ⟨_, rfl⟩
  obtain ⟨kb, hkb⟩ : ∃ kb, kb = w.heap.size + 1 := ⟨_, rfl⟩
  rw [← hkb] at HY0 ⊢
  rw [← hpb] at HX0 ⊢
  generalize ((w.alloc (.cells (pC p d).toArray 63)).alloc (.cells (bC k) 30)) = W0 at *
  have KM := Lib.hid (made_any q0 n0 c0 60 acs W0 hn hn9 (by omega) hq0)
  clear hpb hkb hq0 hn hn9
  go_upto_region 2 with (go_at_call 18; (refine KM.out.mono ?_); rintro e W1 ⟨tb, q, n, c, ys, o, rfl, hs⟩; have HS1 := Lib.hid hs; clear hs)
  have hle := HS1.out.le
  have HX1 : Hid (W1.heap[pb]? = some (.cells (pC p d).toArray 63 (0, 0))) := (HS1.out.bel.block _ (lt_heap HX0.out)).trans HX0.out
  clear KM
  go_upto_region 5 with (first
    | ((with_reducible refine gate_ld 63 (.tmp 4) rfl ?_); refine wl_ldr rfl 63 _ rfl pb 0 (pC p d) _ Try.underlying63 rfl (by rw [sizPre, pC_len HP.out]) rfl (range_whole (by simpa using HX1.out)) ?_)
    | (go_at_call 24; (refine (keys_any o p d W1 W0.heap.size tb HP.out HS1.out.tree (by rw [HS1.out.len]; omega)).mono ?_); rintro e W2 ⟨v, xs, rfl, ho, hx, hb2⟩; have HO2 := Lib.hid ho; have HXs := Lib.hid hx; have HS2 := Lib.hid (HS1.out.below hb2); clear ho hx hb2))
  obtain ⟨xq, xc, rfl, _, _, hat, _⟩ := HO2.out.at encK_len
  have HAt := Lib.hid hat
  have HXk : Hid (xs.map (·.k) = (selE p d ys).map (·.k)) := by
    show _ = _
    rw [HXs.out, ← HS2.out.all, List.filter_map, List.map_map]
    rfl
  have HYl := Lib.hid HS2.out.lst.len
  have hxl60 : xs.length ≤ 60 := by
    have h1 := congrArg List.length HXk.out
    rw [List.length_map, List.length_map] at h1
    have h2 : (selE p d ys).length ≤ ys.length := List.length_filter_le _ _
    have h3 := HYl.out
    omega
  clear hat HO2 HXs HX1 HS1
  go_wp2_with fail
  go_loopw [11, 12] (fun va vi wr => ∃ (i : Nat), i ≤ n ∧ vi = .int .i64 i ∧ va = .int .i64 ((selE p d (ys.take i)).length : Int) ∧ Hid (Below W2.heap.size W2 wr)) (fun _ vi _ => n - (intOf vi).toNat)
  case atStart => exact ⟨0, Nat.zero_le _, rfl, rfl, Lib.hid (Below.refl _ _)⟩
  case round =>
    obtain ⟨i, hi, rfl, rfl, HBr⟩ := hrel
    by_cases h1 : i < n
    · have h1i : (i : Int) < n := by omega
      have hil : i < ys.length := by rw [HYl.out]; exact h1
      have hsn := sel_next (p := p) (d := d) hil
      obtain ⟨y, hy⟩ : ∃ y, y = ys[i] := ⟨_, rfl⟩
      obtain ⟨qb, qo, rfl, hqb, hqr⟩ := (HS2.out.below HBr.out).lst.at_ i hil
      have hse := fun hh => sel_at HXk.out hil hh
      rw [← hy] at hqr hsn hse
      have HRq := Lib.hid (re_key hqr)
      have hpp := ((HS2.out.below HBr.out).bel.block _ (lt_heap HX0.out)).trans HX0.out
      have hppl := lt_heap hpp
      have hpr : wr.rangeAt pb 0 (pC p d) := range_whole (by simpa using hpp)
      have HPr := Lib.hid (pre_key hpr)
      have hdc := pre_dep HP.out hpr
      have KO := Lib.hid (fun W => of06_key p W HP.out)
      have KH := Lib.hid (fun W => rhas_any p d y.k W HP.out y.hk)
      have HL := y.hk
      clear hqr hpp hpr hy
      go_upto_region 9 with fail
      refine wp_region_quiet_below (by kernel_rfl) (by kernel_rfl) ?_
      repeat (first
        | (refine wq_ix _ rfl 33 57 (.tmp 41) (.tmp 42) rfl Try.underlying33 26 sizRE qb qo n c i rfl rfl h1 ?_; simp only [Act.put, List.setIfInBounds_toArray, List.set_cons_zero, List.set_cons_succ])
        | (with_reducible refine wq_ldr rfl 30 (.tmp 36) rfl pb 0 (bC p).toList _ Try.underlying30 rfl (by rw [sizKey]; simp [bC, HP.out]) rfl HPr.out hppl ?_; simp only [Act.put, List.setIfInBounds_toArray, List.set_cons_zero, List.set_cons_succ])
        | (refine wq_ld1 rfl 3 (.tmp 39) rfl pb 25 (.int .i64 d) ag3 rfl hdc hppl ?_; simp only [Act.put, List.setIfInBounds_toArray, List.set_cons_zero, List.set_cons_succ])
        | (with_reducible refine wq_ldr rfl 40 (.tmp 44) rfl qb (qo + i * 26) (rkC y.k) _ Try.underlying40 rfl (by rw [sizRK, rkC_len HL]) rfl HRq.out hqb ?_; simp only [Act.put, List.setIfInBounds_toArray, List.set_cons_zero, List.set_cons_succ])
        | go_big_quiet_step (first | (exact rg_call KO.out _ _) | (exact rg_call KH.out _ _)))
      refine wpQuiet_nil ?_
      rintro _ ⟨⟨dq, osq⟩, rfl⟩
      have hB9 := HBr.out.trans ((below_regrown wr dq osq).mono HBr.out.size)
      have HB9 : Hid (Below W2.heap.size W2 (Sort.grow (redrawn wr dq) osq)) := hB9
      have HR9 : Hid ((Sort.grow (redrawn wr dq) osq).rangeAt qb (qo + i * 26) (rkC y.k)) := range_of_block HRq.out ((below_regrown wr dq osq).block _ hqb)
      have hqb9 := Nat.lt_of_lt_of_le hqb (below_regrown wr dq osq).size
      clear HBr HRq hqb HPr hdc hppl KO KH hB9
      generalize Sort.grow (redrawn wr dq) osq = W9 at *
      cases hh : hasP p d y.k with
      | false =>
        rw [hh, if_neg (by simp)] at hsn
        clear hh hse
        have HSn := Lib.hid hsn
        clear hsn
        go_wp2_with fail
        go_roundw
        case rel => exact ⟨i + 1, by omega, by go_num, by rw [HSn.out], HB9⟩
        case measure => simp [intOf]; omega
      | true =>
        rw [hh, if_pos rfl] at hsn
        obtain ⟨hax, hke⟩ := hse hh
        clear hh
        have HSn : Hid ((selE p d (List.take (i + 1) ys)).length = (selE p d (List.take i ys)).length + 1) := by show _ = _; rw [hsn]; simp
        clear hsn
        generalize (selE p d (List.take i ys)).length = at_ at *
        have haxi : (at_ : Int) < xs.length := by omega
        obtain ⟨xb, xo, rfl, hxb, hxr⟩ := (HAt.out.below HB9.out) at_ hax
        have HXr : Hid (W9.rangeAt xb (xo + at_ * 25) (bC y.k).toList) := by
          show W9.rangeAt _ _ _
          rw [← hke]; exact hxr
        have KO := Lib.hid (fun W => of06_key y.k W HL)
        clear hxr hke
        go_upto_region 10 with fail
        refine wp_region_quiet_below (by kernel_rfl) (by kernel_rfl) ?_
        repeat (first
          | (refine wq_val (.bool false) rfl (fun w => exec_geF (.tmp 48) (.tmp 50) rfl _ _ haxi rfl rfl) ?_; simp only [Act.put, List.setIfInBounds_toArray, List.set_cons_zero, List.set_cons_succ])
          | (refine wq_ix _ rfl 64 30 (.tmp 53) (.tmp 54) rfl Try.underlying64 25 sizKey xb xo xs.length xc at_ rfl rfl hax ?_; simp only [Act.put, List.setIfInBounds_toArray, List.set_cons_zero, List.set_cons_succ])
          | (refine wq_ix _ rfl 33 57 (.tmp 58) (.tmp 59) rfl Try.underlying33 26 sizRE qb qo n c i rfl rfl h1 ?_; simp only [Act.put, List.setIfInBounds_toArray, List.set_cons_zero, List.set_cons_succ])
          | (with_reducible refine wq_ldr rfl 30 (.tmp 55) rfl xb (xo + at_ * 25) (bC y.k).toList _ Try.underlying30 rfl (by rw [sizKey]; simp [bC, HL]) rfl HXr.out hxb ?_; simp only [Act.put, List.setIfInBounds_toArray, List.set_cons_zero, List.set_cons_succ])
          | (with_reducible refine wq_ldr rfl 40 (.tmp 61) rfl qb (qo + i * 26) (rkC y.k) _ Try.underlying40 rfl (by rw [sizRK, rkC_len HL]) rfl HR9.out hqb9 ?_; simp only [Act.put, List.setIfInBounds_toArray, List.set_cons_zero, List.set_cons_succ])
          | (refine wq_val (.bool false) rfl (fun w => exec_neqRK w (.tmp 57) (.tmp 62) rfl y.k HL rfl rfl) ?_; simp only [Act.put, List.setIfInBounds_toArray, List.set_cons_zero, List.set_cons_succ])
          | go_big_quiet_step (first | (exact rg_call KO.out _ _)))
        refine wpQuiet_nil ?_
        rintro _ ⟨⟨dq2, osq2⟩, rfl⟩
        have HB10 : Hid (Below W2.heap.size W2 (Sort.grow (redrawn W9 dq2) osq2)) := HB9.out.trans ((below_regrown W9 dq2 osq2).mono HB9.out.size)
        generalize Sort.grow (redrawn W9 dq2) osq2 = W10 at *
        go_wp2_with fail
        go_roundw
        case rel => exact ⟨i + 1, by omega, by go_num, by rw [HSn.out]; go_num, HB10⟩
        case measure => simp [intOf]; omega
    · have h1i : ¬ (i : Int) < n := by omega
      obtain rfl : n = i := by omega
      have HSr := Lib.hid (HS2.out.below HBr.out)
      have HEn : Hid ((selE p d (ys.take n)).length = xs.length) := by
        show _ = _
        have h1 := congrArg List.length HXk.out
        rw [List.length_map, List.length_map] at h1
        rw [List.take_of_length_le (by rw [HYl.out]; omega), h1]
      have hen := HEn.out
      rw [hen]
      obtain ⟨nk, nb, hnk, hn1, hn2⟩ := next_tup HSr.out.tree.wf k
      obtain ⟨fk, fb, hfk, hf1, hfb, hf0, hfx⟩ := first_tup HSr.out.all HYl.out
      have KN : Hid (∀ W, PlSt W0 tb W q n c ys o 60 → Calls Try.prog 26 #[ptrA tb, .agg (bC k)] W fun e w' => e = .returned (.tuple #[.agg (bC nk), .bool nb]) ∧ Below W.heap.size W w') := fun W h => by
        have := next_any o k W W0.heap.size tb HK.out h.tree
        rwa [hn1] at this
      have KR : Hid (∀ W, PlSt W0 tb W q n c ys o 60 → Calls Try.prog 27 #[.slice q n c, .agg (rkC k).toArray] W fun e w' => e = .returned (.tuple #[.agg (rkC nk).toArray, .bool nb]) ∧ Below W.heap.size W w') := fun W h => by
        have := rnext_any q n c ys k W h.lst.len (by omega) HK.out h.lst.at_
        rwa [h.all, hn2] at this
      have KF : Hid (∀ W, PlSt W0 tb W q n c ys o 60 → Calls Try.prog 28 #[ptrA tb] W fun e w' => e = .returned (.tuple #[.agg (bC fk), .bool fb]) ∧ Below W.heap.size W w') := fun W h => by
        have := first_any o W W0.heap.size tb h.tree
        rwa [hf1] at this
      have HNk := Lib.hid hnk
      have HFk := Lib.hid hfk
      have HFb := Lib.hid hfb
      have HF0 := Lib.hid hf0
      have HFx := Lib.hid hfx
      have HYr : Hid (wr.heap[kb]? = some (.cells (bC k) 30 (0, 0))) := (HSr.out.bel.block _ (lt_heap HY0.out)).trans HY0.out
      clear hn1 hn2 hf1 hnk hfk hfb hf0 hfx hen HEn HAt HXk HBr HS2
      go_upto_region 14 with (first
        | ((with_reducible refine gate_ld 30 (.tmp 5) rfl ?_); refine wl_ldr rfl 30 _ rfl kb 0 (bC k).toList _ Try.underlying30 rfl (by rw [sizKey]; simp [bC, HK.out]) rfl (range_whole (by simpa using HYr.out)) ?_)
        | (go_at_call 26; (refine (KN.out _ HSr.out).mono ?_); rintro e W3 ⟨rfl, hb3⟩; have HS3 := Lib.hid (HSr.out.below hb3); clear hb3)
        | ((with_reducible refine gate_st 30 (.tmp 13) _ rfl ?_); refine wl_strn rfl _ _ _ rfl (bC nk) z25A 30 (by rw [sizKey, bC_size, HNk.out]) (by rw [bC_size, HNk.out]; rfl) (bC_one nk) (by simp [Act.eval]) rfl ?_))
      have HX4 : Hid ((W3.alloc (.cells (bC nk) 30)).heap[W3.heap.size]? = some (.cells (bC nk) 30 (0, 0))) := heap_alloc_new _ _
      have HS4 := Lib.hid (HS3.out.below (below_alloc1 W3 (.cells (bC nk) 30)))
      obtain ⟨g1, hg1⟩ : ∃ g, g = W3.heap.size := ⟨_, rfl⟩
      rw [← hg1] at HX4 ⊢
      generalize W3.alloc (.cells (bC nk) 30) = W4 at *
      have HY4 : Hid (W4.heap[kb]? = some (.cells (bC k) 30 (0, 0))) := (HS4.out.bel.block _ (lt_heap HY0.out)).trans HY0.out
      clear HS3 hg1 HSr HYr KN
      go_upto_region 15 with (first
        | ((with_reducible refine gate_ld 30 (.tmp 5) rfl ?_); refine wl_ldr rfl 30 _ rfl kb 0 (bC k).toList _ Try.underlying30 rfl (by rw [sizKey]; simp [bC, HK.out]) rfl (range_whole (by simpa using HY4.out)) ?_)
        | (go_at_call 10; (refine (of06_key k _ HK.out).mono ?_); rintro e W5 ⟨rfl, hb5⟩; have HS5 := Lib.hid (HS4.out.below hb5); have HX5 := Lib.hid ((hb5.block _ (lt_heap HX4.out)).trans HX4.out); clear hb5)
        | (go_at_call 27; (refine (KR.out _ HS5.out).mono ?_); rintro e W6 ⟨rfl, hb6⟩; have HS6 := Lib.hid (HS5.out.below hb6); have HX6 := Lib.hid ((hb6.block _ (lt_heap HX5.out)).trans HX5.out); clear hb6)
        | ((with_reducible refine gate_st 40 (.tmp 15) _ rfl ?_); refine wl_strn rfl _ _ _ rfl (rkC nk).toArray rz25A 40 (by rw [sizRK]; simp [rkC_len HNk.out]) (by rw [List.size_toArray, rkC_len HNk.out]; rfl) (by simpa [List.all_eq_true] using rkC_one nk) (by simp [Act.eval]) rfl ?_))
      have HR7 : Hid ((W6.alloc (.cells (rkC nk).toArray 40)).heap[W6.heap.size]? = some (.cells (rkC nk).toArray 40 (0, 0))) := heap_alloc_new _ _
      have HX7 : Hid ((W6.alloc (.cells (rkC nk).toArray 40)).heap[g1]? = some (.cells (bC nk) 30 (0, 0))) := (heap_alloc_old _ _ (lt_heap HX6.out)).trans HX6.out
      have HS7 := Lib.hid (HS6.out.below (below_alloc1 W6 (.cells (rkC nk).toArray 40)))
      obtain ⟨g2, hg2⟩ : ∃ g, g = W6.heap.size := ⟨_, rfl⟩
      rw [← hg2] at HR7 ⊢
      generalize W6.alloc (.cells (rkC nk).toArray 40) = W7 at *
      clear HS4 HX4 HY4 HS5 HX5 HS6 HX6 hg2 KR
      go_upto_region 16 with (first
        | (go_at_call 28; (refine (KF.out _ HS7.out).mono ?_); rintro e W8 ⟨rfl, hb8⟩; have HS8 := Lib.hid (HS7.out.below hb8); have HX8 := Lib.hid ((hb8.block _ (lt_heap HX7.out)).trans HX7.out); have HR8 := Lib.hid ((hb8.block _ (lt_heap HR7.out)).trans HR7.out); clear hb8)
        | ((with_reducible refine gate_st 30 (.tmp 17) _ rfl ?_); refine wl_strn rfl _ _ _ rfl (bC fk) z25A 30 (by rw [sizKey, bC_size, HFk.out]) (by rw [bC_size, HFk.out]; rfl) (bC_one fk) (by simp [Act.eval]) rfl ?_))
      have HF9 : Hid ((W8.alloc (.cells (bC fk) 30)).heap[W8.heap.size]? = some (.cells (bC fk) 30 (0, 0))) := heap_alloc_new _ _
      have HX9 : Hid ((W8.alloc (.cells (bC fk) 30)).heap[g1]? = some (.cells (bC nk) 30 (0, 0))) := (heap_alloc_old _ _ (lt_heap HX8.out)).trans HX8.out
      have HR9 : Hid ((W8.alloc (.cells (bC fk) 30)).heap[g2]? = some (.cells (rkC nk).toArray 40 (0, 0))) := (heap_alloc_old _ _ (lt_heap HR8.out)).trans HR8.out
      have HS9 := Lib.hid (HS8.out.below (below_alloc1 W8 (.cells (bC fk) 30)))
      obtain ⟨g3, hg3⟩ : ∃ g, g = W8.heap.size := ⟨_, rfl⟩
      rw [← hg3] at HF9 ⊢
      generalize W8.alloc (.cells (bC fk) 30) = W9 at *
      clear HS7 HX7 HR7 HS8 HX8 HR8 hg3 KF
      have HXr := Lib.hid (range_whole (vs := (bC nk).toList) (by simpa using HX9.out))
      have hxl := lt_heap HX9.out
      have HRr := Lib.hid (range_whole (vs := rkC nk) (by simpa using HR9.out))
      have hrl := lt_heap HR9.out
      have HFr := Lib.hid (range_whole (vs := (bC fk).toList) (by simpa using HF9.out))
      have hfl := lt_heap HF9.out
      have KO := Lib.hid (fun W => of06_key nk W HNk.out)
      rcases Nat.eq_zero_or_pos n with h0 | h0
      · have hfb : fb = false := by rw [HFb.out]; simp [h0]
        have hfk := HF0.out h0
        subst hfb hfk
        have h0i : decide ((0 : Int) < (n : Int)) = false := by simp [h0]
        refine wp_region_quiet_below (by kernel_rfl) (by kernel_rfl) ?_
        repeat (first
          | go_big_quiet_skip
          | (refine wq_val (.bool false) rfl (fun w => exec_neBB (.tmp 85) (.tmp 86) rfl nb rfl rfl) ?_; simp only [Act.put, List.setIfInBounds_toArray, List.set_cons_zero, List.set_cons_succ])
          | (with_reducible refine wq_ldr rfl 30 (.tmp 13) rfl g1 0 (bC nk).toList _ Try.underlying30 rfl (by rw [sizKey]; simp [bC, HNk.out]) rfl HXr.out hxl ?_; simp only [Act.put, List.setIfInBounds_toArray, List.set_cons_zero, List.set_cons_succ])
          | (with_reducible refine wq_ldr rfl 40 (.tmp 15) rfl g2 0 (rkC nk) _ Try.underlying40 rfl (by rw [sizRK, rkC_len HNk.out]) rfl HRr.out hrl ?_; simp only [Act.put, List.setIfInBounds_toArray, List.set_cons_zero, List.set_cons_succ])
          | (refine wq_val (.bool false) rfl (fun w => exec_neqRK w (.tmp 90) (.tmp 91) rfl nk HNk.out rfl rfl) ?_; simp only [Act.put, List.setIfInBounds_toArray, List.set_cons_zero, List.set_cons_succ])
          | (refine wq_val (.bool false) rfl (fun w => exec_neI (.tmp 95) (.tmp 97) rfl _ rfl rfl) ?_; simp only [Act.put, List.setIfInBounds_toArray, List.set_cons_zero, List.set_cons_succ])
          | (refine wq_val (.bool false) rfl (fun w => exec_gtI (.tmp 103) (.const (.int .i64 0)) rfl _ _ _ h0i rfl rfl) ?_; simp only [Act.put, List.setIfInBounds_toArray, List.set_cons_zero, List.set_cons_succ])
          | (refine wq_val (.bool false) rfl (fun w => exec_neBB (.tmp 101) (.tmp 104) rfl false rfl rfl) ?_; simp only [Act.put, List.setIfInBounds_toArray, List.set_cons_zero, List.set_cons_succ])
          | (with_reducible refine wq_ldr rfl 30 (.tmp 17) rfl g3 0 (bC z25).toList _ Try.underlying30 rfl (by rw [sizKey]; simp [bC, HFk.out]) rfl HFr.out hfl ?_; simp only [Act.put, List.setIfInBounds_toArray, List.set_cons_zero, List.set_cons_succ])
          | (refine wq_bd _ rfl 30 [] rfl [] rfl (bC z25) builtKZ ?_; simp only [Act.put, List.setIfInBounds_toArray, List.set_cons_zero, List.set_cons_succ])
          | (refine wq_val (.bool false) rfl (fun w => (by simpa using exec_neqKey w (.tmp 111) (.tmp 112) rfl z25 z25 rfl rfl rfl rfl)) ?_; simp only [Act.put, List.setIfInBounds_toArray, List.set_cons_zero, List.set_cons_succ])
          | go_big_quiet_step (first | (exact rg_call KO.out _ _)))
        refine wpQuiet_nil ?_
        rintro _ ⟨⟨dq, osq⟩, rfl⟩
        have hb10 := below_regrown W9 dq osq
        have HS10 : Hid (PlSt W0 tb (Sort.grow (redrawn W9 dq) osq) q n c ys o 60) := HS9.out.below hb10
        clear hb10
        generalize Sort.grow (redrawn W9 dq) osq = W10 at *
        have KKn := Lib.hid (fun W => known_any W)
        go_upto_region 18 with fail
        refine wp_region_quiet_below (by kernel_rfl) (by kernel_rfl) ?_
        repeat (first
          | go_big_quiet_skip
          | go_big_quiet_step (first | (exact rg_call KKn.out _ _)))
        refine wpQuiet_nil ?_
        rintro _ ⟨⟨dq2, osq2⟩, rfl⟩
        have hb11 := below_regrown W10 dq2 osq2
        have HB11 : Hid (Below W0.heap.size W0 (Sort.grow (redrawn W10 dq2) osq2)) := HS10.out.bel.trans (hb11.mono HS10.out.bel.size)
        clear hb11
        generalize Sort.grow (redrawn W10 dq2) osq2 = W11 at *
        go_wp2_with fail
        go_ret
        exact ⟨rfl, HB0.out.trans (HB11.out.mono HB0.out.size)⟩
      · have hfb : fb = true := by rw [HFb.out]; simp [h0]
        subst hfb
        have h0i : decide ((0 : Int) < (n : Int)) = true := by simp [h0]
        refine wp_region_quiet_below (by kernel_rfl) (by kernel_rfl) ?_
        repeat (first
          | go_big_quiet_skip
          | (refine wq_val (.bool false) rfl (fun w => exec_neBB (.tmp 85) (.tmp 86) rfl nb rfl rfl) ?_; simp only [Act.put, List.setIfInBounds_toArray, List.set_cons_zero, List.set_cons_succ])
          | (with_reducible refine wq_ldr rfl 30 (.tmp 13) rfl g1 0 (bC nk).toList _ Try.underlying30 rfl (by rw [sizKey]; simp [bC, HNk.out]) rfl HXr.out hxl ?_; simp only [Act.put, List.setIfInBounds_toArray, List.set_cons_zero, List.set_cons_succ])
          | (with_reducible refine wq_ldr rfl 40 (.tmp 15) rfl g2 0 (rkC nk) _ Try.underlying40 rfl (by rw [sizRK, rkC_len HNk.out]) rfl HRr.out hrl ?_; simp only [Act.put, List.setIfInBounds_toArray, List.set_cons_zero, List.set_cons_succ])
          | (refine wq_val (.bool false) rfl (fun w => exec_neqRK w (.tmp 90) (.tmp 91) rfl nk HNk.out rfl rfl) ?_; simp only [Act.put, List.setIfInBounds_toArray, List.set_cons_zero, List.set_cons_succ])
          | (refine wq_val (.bool false) rfl (fun w => exec_neI (.tmp 95) (.tmp 97) rfl _ rfl rfl) ?_; simp only [Act.put, List.setIfInBounds_toArray, List.set_cons_zero, List.set_cons_succ])
          | (refine wq_val (.bool true) rfl (fun w => exec_gtI (.tmp 103) (.const (.int .i64 0)) rfl _ _ _ h0i rfl rfl) ?_; simp only [Act.put, List.setIfInBounds_toArray, List.set_cons_zero, List.set_cons_succ])
          | (refine wq_val (.bool false) rfl (fun w => exec_neBB (.tmp 101) (.tmp 104) rfl true rfl rfl) ?_; simp only [Act.put, List.setIfInBounds_toArray, List.set_cons_zero, List.set_cons_succ])
          | go_big_quiet_step (first | (exact rg_call KO.out _ _)))
        refine wpQuiet_nil ?_
        rintro _ ⟨⟨dq, osq⟩, rfl⟩
        have hb10 := below_regrown W9 dq osq
        have HS10 : Hid (PlSt W0 tb (Sort.grow (redrawn W9 dq) osq) q n c ys o 60) := HS9.out.below hb10
        have h0y : 0 < ys.length := by rw [HYl.out]; exact h0
        obtain ⟨qb, qo, rfl, hqb, hqr⟩ := HS10.out.lst.at_ 0 h0y
        have hqk := re_key hqr
        rw [HFx.out h0y] at hqk
        have HQk := Lib.hid hqk
        have HFr10 := Lib.hid (range_of_block HFr.out (hb10.block _ hfl))
        have hfl10 := Nat.lt_of_lt_of_le hfl hb10.size
        have KO2 := Lib.hid (fun W => of06_key fk W HFk.out)
        have KKn := Lib.hid (fun W => known_any W)
        clear hqk hqr hb10 HFr hfl
        generalize Sort.grow (redrawn W9 dq) osq = W10 at *
        go_upto_region 18 with fail
        refine wp_region_quiet_below (by kernel_rfl) (by kernel_rfl) ?_
        repeat (first
          | go_big_quiet_skip
          | (with_reducible refine wq_ldr rfl 30 (.tmp 17) rfl g3 0 (bC fk).toList _ Try.underlying30 rfl (by rw [sizKey]; simp [bC, HFk.out]) rfl HFr10.out hfl10 ?_; simp only [Act.put, List.setIfInBounds_toArray, List.set_cons_zero, List.set_cons_succ])
          | (refine wq_ix _ rfl 33 57 (.tmp 123) (.const (.int .i64 0)) rfl Try.underlying33 26 sizRE qb qo n c 0 rfl rfl h0 ?_; simp only [Act.put, List.setIfInBounds_toArray, List.set_cons_zero, List.set_cons_succ])
          | (with_reducible refine wq_ldr rfl 40 (.tmp 125) rfl qb (qo + 0 * 26) (rkC fk) _ Try.underlying40 rfl (by rw [sizRK, rkC_len HFk.out]) rfl HQk.out hqb ?_; simp only [Act.put, List.setIfInBounds_toArray, List.set_cons_zero, List.set_cons_succ])
          | (refine wq_val (.bool true) rfl (fun w => (by simpa using exec_eqlRK w (.tmp 122) (.tmp 126) rfl fk fk HFk.out HFk.out rfl rfl)) ?_; simp only [Act.put, List.setIfInBounds_toArray, List.set_cons_zero, List.set_cons_succ])
          | go_big_quiet_step (first | (exact rg_call KKn.out _ _) | (exact rg_call KO2.out _ _)))
        refine wpQuiet_nil ?_
        rintro _ ⟨⟨dq2, osq2⟩, rfl⟩
        have hb11 := below_regrown W10 dq2 osq2
        have HB11 : Hid (Below W0.heap.size W0 (Sort.grow (redrawn W10 dq2) osq2)) := HS10.out.bel.trans (hb11.mono HS10.out.bel.size)
        clear hb11
        generalize Sort.grow (redrawn W10 dq2) osq2 = W11 at *
        go_wp2_with fail
        go_ret
        exact ⟨rfl, HB0.out.trans (HB11.out.mono HB0.out.size)⟩
end Go.Proofs.Ytagdedjclbmlkaa
