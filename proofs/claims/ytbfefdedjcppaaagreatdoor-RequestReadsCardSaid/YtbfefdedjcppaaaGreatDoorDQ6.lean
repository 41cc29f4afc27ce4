/- The document's Read: the walk. -/
import Derived.Test.YtbfefdedjcppaaaGreatDoorDP6
namespace Go.Proofs.YtbfefdedjcppaaaGreatDoor
open Go.RowKit Go.Deep

def RdQP (l : List UInt8) (w : World) (en : Ending) (w' : World) : Prop := en = .returned (.tuple #[.agg (dC l).toArray, .int .i64 ((dE l : Nat) : Int)]) ∧ Below w.heap.size w w'
/-- Where Read stands while the prefix's bytes are read. -/
structure DrAl (w W : World) (g v : Nat) (q : Option Addr) (n c : Nat) (y : DS) (a : List UInt8) : Prop where
  s : DrSt w W v q n c y
  hg : w.heap.size + 1 + 1 < g
  a : W.heap[g]? = some (.cells (bC (allB a)) 108 (0, 0))
theorem DrAl.below {w W W' : World} {g v : Nat} {q : Option Addr} {n c : Nat} {y : DS} {a : List UInt8} (h : DrAl w W g v q n c y a) (hb : Below W.heap.size W W') : DrAl w W' g v q n c y a := ⟨h.s.below hb, h.hg, (hb.block _ (lt_heap h.a)).trans h.a⟩
theorem DrAl.setX {w W W' : World} {g v : Nat} {q q' : Option Addr} {n c n' c' : Nat} {y : DS} {e' : Nat} {l' : List UInt8} {a : List UInt8} (h : DrAl w W g v q n c y a) (hx : W'.heap[w.heap.size + 1]? = some (.cells #[.slice q' n' c', .int .i64 (e' : Int)] 103 (0, 0))) (ht : Turn [w.heap.size + 1] W W') (ok : RdOk w q' n' c' l') : DrAl w W' g v q' n' c' ⟨l', e', y.cs⟩ a :=
  ⟨h.s.setX hx ht ok, h.hg, (ht.block _ (lt_heap h.a) (by have := h.hg; simp; omega)).trans h.a⟩
theorem DrAl.setA {w W W' : World} {g v : Nat} {q : Option Addr} {n c : Nat} {y : DS} {a a' : List UInt8} (h : DrAl w W g v q n c y a) (ha : W'.heap[g]? = some (.cells (bC (allB a')) 108 (0, 0))) (ht : Turn [g] W W') : DrAl w W' g v q n c y a' := by
  have hg := h.hg
  have hk : ∀ k, k < W.heap.size → k < g → W'.heap[k]? = W.heap[k]? := fun k a b => ht.block k a (by simp; omega)
  exact ⟨⟨h.s.bel.trans (ht.below (fun k hk => by simp at hk; omega) h.s.bel.size), (hk _ (lt_heap h.s.r) (by omega)).trans h.s.r, (hk _ (lt_heap h.s.x) (by omega)).trans h.s.x, (hk _ (lt_heap h.s.o) (by omega)).trans h.s.o, h.s.ok, h.s.len, h.s.vb, h.s.one⟩, hg, ha⟩
theorem allB_len {a : List UInt8} (h : a.length ≤ 25) : (allB a).length = 25 := by simp [allB]; omega
theorem agI26 (w : World) : (isAgg 3).run Tryz.prog w = .ok false w := by simp [isAgg, run_underlying Tryz.underlying3]
theorem exec_ixI26 {o : Oper} {a : Act} {w : World} (x y : Operand) (ho : o.op = .indexAddr 109 x y) (b f : Nat) (n c j : Nat) (hx : a.eval x = .slice (some ⟨b, f, none⟩) n c) (hy : a.eval y = .int .i64 (j : Int)) (hj : j < n) : (execOp a.eval o).run Tryz.prog w = .ok (.value (.pointer (some ⟨b, f + j * 1, none⟩))) w := by
  have hq := sizI1
  cases hq2 : Tryz.prog.info? 3 with
  | none => simp [hq2] at hq
  | some i =>
    have hs : i.size = 1 := by simpa [hq2] using hq
    unfold execOp
    simp only [ho, hx, hy]
    simp [go_sem, Tryz.underlying109, sizeOf, typeInfo, hq2, hs, hj]
theorem exec_lt26 {o : Oper} {a : Act} {w : World} (x y : Operand) (ho : o.op = .binOp .lss 3 x y 3) (m n : Nat) (hx : a.eval x = .int .i64 (m : Int)) (hy : a.eval y = .int .i64 (n : Int)) : (execOp a.eval o).run Tryz.prog w = .ok (.value (.bool (decide (m < n)))) w := by
  unfold execOp
  simp only [ho, hx, hy]
  simp [go_sem]
theorem exec_f58 {o : Oper} {a : Act} {w : World} (x : Operand) (ho : o.op = .fieldAddr 46 x 5) (b : Nat) (hx : a.eval x = .pointer (some ⟨b, 0, none⟩)) : (execOp a.eval o).run Tryz.prog w = .ok (.value (.pointer (some ⟨b, 58, none⟩))) w := by
  unfold execOp
  simp only [ho, hx]
  simp [go_sem]
theorem cellS26 {W : World} {gs d : Nat} {T : TypeId} {fr : Nat × Nat} (h : W.heap[gs]? = some (.cells #[.int .i64 0, .int .i64 1, .int .i64 2, .int .i64 3, .int .i64 15, .int .i64 25] T fr)) (hd : d ≤ 5) : W.cell? ⟨gs, 0 + d * 1, none⟩ = some (.int .i64 ((sizeD d : Nat) : Int)) := by
  rw [cell_blk h]
  match d, hd with
  | 0, _ | 1, _ | 2, _ | 3, _ | 4, _ | 5, _ => rfl
theorem allB_step (a : List UInt8) (b : UInt8) (k : Nat) (h : a.length = k) (hk : k < 25) : (bC (allB a)).toList.take k ++ [.int .u8 (b.toNat : Int)] ++ (bC (allB a)).toList.drop (k + 1) = (bC (allB (a ++ [b]))).toList := by
  subst h
  obtain ⟨m, hm⟩ : ∃ m, 25 - a.length = m + 1 := ⟨24 - a.length, by omega⟩
  have hm2 : 25 - (a.length + 1) = m := by omega
  simp only [bC, allB, hm, List.length_append, List.length_singleton, hm2, List.map_append, List.replicate_succ, List.map_cons, List.map_nil]
  rw [List.take_append_of_le_length (by simp), List.take_of_length_le (by simp), List.drop_append]
  simp
theorem endQ {e n : Nat} {l : List UInt8} (h : l.length = n) : (if e = 0 ∧ 0 < n then 3 else e) = (if e = 0 ∧ l ≠ [] then 3 else e) := by subst h; cases l <;> simp
theorem built46 : Tryz.prog.built 46 [] = some rdZ.toArray := by kernel_rfl
set_option maxRecDepth 100000 in
set_option maxHeartbeats 16000000 in
theorem refRead26_any (q : Option Addr) (n c : Nat) (l : List UInt8) (w : World) (h : RdOk w q n c l) : Calls Tryz.prog 8 #[.slice q n c] w (RdQP l w) := by
  have HS0 := Lib.hid (DrSt.start w q n c l h)
  have HDR : Hid (dRead l = if vN 0 l = 1 then dOrd (dNum 0 1 10 16 ⟨l, 0, rdZ⟩) else if vN 0 l = 5 then dPre (vN (dNum 0 1 10 16 ⟨l, 0, rdZ⟩).e (dNum 0 1 10 16 ⟨l, 0, rdZ⟩).l) (dNum 58 0 5 5 (dNum 0 1 10 16 ⟨l, 0, rdZ⟩)) else if vN 0 l = 6 then dNum 2 0 63 5 (dNum 0 1 10 16 ⟨l, 0, rdZ⟩) else if vN 0 l = 8 ∨ vN 0 l = 9 then dNum 1 0 1 5 (dNum 0 1 10 16 ⟨l, 0, rdZ⟩) else if vN 0 l = 10 then dOrd (dNum 1 0 1 5 (dNum 0 1 10 16 ⟨l, 0, rdZ⟩)) else dNum 0 1 10 16 ⟨l, 0, rdZ⟩) := rfl
  have HEE : Hid (dE l = if (dRead l).e = 0 ∧ (dRead l).l ≠ [] then 3 else (dRead l).e) := rfl
  have HCC : Hid (dC l = if dE l = 0 then (dRead l).cs else rdZ) := rfl
  have HPP : Hid (∀ en w', (en = .returned (.tuple #[.agg (dC l).toArray, .int .i64 ((dE l : Nat) : Int)]) ∧ Below w.heap.size w w') → RdQP l w en w') := fun _ _ h => h
  generalize RdQP l w = PQ at *
  generalize dC l = qc at *
  generalize dE l = qe at *
  generalize dRead l = dr at *
  clear h
  go_enter Tryz.func8, Tryz.ntmps8
  go_upto_region 3 with fail
  rw [show (Obj.cells #[Value.int IntKind.i64 0, Value.int IntKind.i64 0, Value.int IntKind.i64 0, Value.int IntKind.i64 0, Value.int IntKind.i64 0, Value.int IntKind.i64 0, Value.int IntKind.i64 0, Value.int IntKind.i64 0, Value.int IntKind.i64 0, Value.int IntKind.i64 0, Value.int IntKind.u8 0, Value.int IntKind.u8 0, Value.int IntKind.u8 0, Value.int IntKind.u8 0, Value.int IntKind.u8 0, Value.int IntKind.u8 0, Value.int IntKind.u8 0, Value.int IntKind.u8 0, Value.int IntKind.u8 0, Value.int IntKind.u8 0, Value.int IntKind.u8 0, Value.int IntKind.u8 0, Value.int IntKind.u8 0, Value.int IntKind.u8 0, Value.int IntKind.u8 0, Value.int IntKind.u8 0, Value.int IntKind.u8 0, Value.int IntKind.u8 0, Value.int IntKind.u8 0, Value.int IntKind.u8 0, Value.int IntKind.u8 0, Value.int IntKind.u8 0, Value.string ⟨#[]⟩, Value.int IntKind.i64 0, Value.int IntKind.i64 0, Value.int IntKind.i64 0, Value.int IntKind.u8 0, Value.int IntKind.u8 0, Value.int IntKind.u8 0, Value.int IntKind.u8 0, Value.int IntKind.u8 0, Value.int IntKind.u8 0, Value.int IntKind.u8 0, Value.int IntKind.u8 0, Value.int IntKind.u8 0, Value.int IntKind.u8 0, Value.int IntKind.u8 0, Value.int IntKind.u8 0, Value.int IntKind.u8 0, Value.int IntKind.u8 0, Value.int IntKind.u8 0, Value.int IntKind.u8 0, Value.int IntKind.u8 0, Value.int IntKind.u8 0, Value.int IntKind.u8 0, Value.int IntKind.u8 0, Value.int IntKind.u8 0, Value.int IntKind.u8 0, Value.int IntKind.i64 0] 46) = Obj.cells rdZ.toArray 46 from rfl]
  generalize ((w.alloc (.cells rdZ.toArray 46)).alloc (.cells #[.slice q n c, .int .i64 0] 103)).alloc (.cells rdZ.toArray 46) = W1 at *
  go_upto_region 4 with (first
    | ((with_reducible refine gate_ld 103 (.tmp 4) rfl ?_); refine wl_ldr rfl 103 _ rfl (w.heap.size + 1) 0 [.slice q n c, .int .i64 (0 : Int)] _ Tryz.underlying103 rfl (by rw [sizIn]; rfl) rfl (range_whole HS0.out.x) ?_)
    | (go_at_call 32; (refine (inNumber_any q n c 0 1 10 16 l _ (HS0.out.ok.below HS0.out.bel)).mono ?_); rintro e' Wa ⟨rfl, hb⟩; have HSa := Lib.hid (HS0.out.below hb); clear hb)
    | ((with_reducible refine gate_st 103 (.tmp 4) _ rfl ?_); refine wl_stR rfl 103 _ _ rfl (w.heap.size + 1) 0 [.slice (tq q c (kN 0 l)) (n - (kN 0 l)) (c - (kN 0 l)), .int .i64 ((numIE 1 10 16 0 l : Nat) : Int)] (by rw [sizIn]; rfl) rfl rfl (fun u hu => by simp at hu; rcases hu with rfl | rfl <;> rfl) [.slice q n c, .int .i64 (0 : Int)] 103 HSa.out.x (by simp) (fun Wb h1 h2 => ?_); have HSb := Lib.hid (HSa.out.setX h1 h2 (HS0.out.ok.tail (by have := kN_le 0 l; have := HS0.out.ok.ln; (try simp only at this); omega))); clear h1 h2; try simp only [Act.put])
    | ((with_reducible refine gate_st 3 _ _ rfl ?_); refine wl_st1G rfl 3 sizI1 _ _ rfl (w.heap.size + 1 + 1) 0 (.int .i64 ((vN 0 l : Nat) : Int)) rfl rfl rfl rdZ (RowIn rdZ 0 [.int .i64 ((vN 0 l : Nat) : Int)]) _ HSb.out.o (by have := HS0.out.len; (try simp only at this); omega) rfl (fun Wc h1 h2 => ?_); have HSc : Hid (DrSt w Wc (vN 0 l) (tq q c (kN 0 l)) (n - (kN 0 l)) (c - (kN 0 l)) (dNum 0 1 10 16 (⟨l, 0, rdZ⟩ : DS))) := (HSb.out.setO h1 h2 (by rw [rowIn_len (by have := HS0.out.len; (try simp only at this); simp; omega)]; exact HS0.out.len) rfl (rowIn_all HS0.out.one rfl)); have hv_HSc := HSc.out.verb; clear h1 h2; try simp only [Act.put]))
  clear HSa HSb HS0
  generalize tq q c (kN 0 l) = q1 at *
  generalize n - kN 0 l = n1 at *
  generalize c - kN 0 l = c1 at *
  generalize dNum 0 1 10 16 ⟨l, 0, rdZ⟩ = y0 at *
  generalize vN 0 l = v at *
  by_cases h1 : v = 1
  · subst h1
    have hv1 : Wc.cell? ⟨w.heap.size + 1 + 1, 0, none⟩ = some (.int .i64 1) := hv_HSc
    clear hv_HSc
    have HDR2 : Hid (dr = dOrd y0) := by show _ = _; rw [HDR.out]; rfl
    clear HDR
    go_upto_region 8 with (first
      | ((with_reducible refine gate_ld 103 (.tmp 4) rfl ?_); refine wl_ldr rfl 103 _ rfl (w.heap.size + 1) 0 [.slice q1 n1 c1, .int .i64 (y0.e : Int)] _ Tryz.underlying103 rfl (by rw [sizIn]; rfl) rfl (range_whole HSc.out.x) ?_)
      | (go_at_call 33; (refine (inOrder_any q1 n1 c1 y0.e y0.l w _ HSc.out.ok HSc.out.bel).mono ?_); rintro e' Wa ⟨qo, no, co, rfl, hok, hb⟩; have HKo := Lib.hid hok; have HSa := Lib.hid (HSc.out.below hb); clear hb hok; have HOl := Lib.hid (dOrder_len y0.l y0.e); have HOo := Lib.hid (dOrder_one y0.l y0.e); have HDo : Hid (dOrd y0 = ⟨(dOrder y0.l y0.e).l, (dOrder y0.l y0.e).e, RowIn y0.cs 3 (dOrder y0.l y0.e).cs⟩) := rfl; generalize dOrder y0.l y0.e = Dy at *)
      | ((with_reducible refine gate_st 103 (.tmp 4) _ rfl ?_); refine wl_stR rfl 103 _ _ rfl (w.heap.size + 1) 0 [.slice qo no co, .int .i64 (Dy.e : Int)] (by rw [sizIn]; rfl) rfl rfl (fun u hu => by simp at hu; rcases hu with rfl | rfl <;> rfl) [.slice q1 n1 c1, .int .i64 (y0.e : Int)] 103 HSa.out.x (by simp) (fun Wb h1 h2 => ?_); have HSb := Lib.hid (HSa.out.setX h1 h2 HKo.out); clear h1 h2; try simp only [Act.put])
      | ((with_reducible refine gate_st 42 _ _ rfl ?_); refine wl_stR rfl 42 _ _ rfl (w.heap.size + 1 + 1) 3 Dy.cs (by rw [sizROp, HOl.out]) rfl rfl (List.all_eq_true.1 HOo.out) y0.cs 46 HSb.out.o (by have := HSc.out.len; rw [HOl.out]; omega) (fun Wg h1 h2 => ?_); have HSd : Hid (DrSt w Wg 1 qo no co (dOrd y0)) := (by show DrSt _ _ _ _ _ _ (dOrd y0); rw [HDo.out]; exact HSb.out.setO h1 h2 (by rw [rowIn_len (by have := HSc.out.len; rw [HOl.out]; omega)]; exact HSc.out.len) (by rw [rowIn_before (by have := HSc.out.len; rw [HOl.out]; omega) (by omega)]; exact HSc.out.vb) (rowIn_all HSc.out.one HOo.out)); have hv_HSd := HSd.out.verb; clear h1 h2 hv1; try simp only [Act.put]))
    obtain ⟨qz, nz, cz, HT⟩ : ∃ qx nx cx, Hid (DrSt w Wg 1 qx nx cx dr) := ⟨_, _, _, by show DrSt _ _ _ _ _ _ dr; rw [HDR2.out]; exact HSd.out⟩
    clear HDR2
    have HQE : Hid ((if dr.e = 0 ∧ 0 < nz then 3 else dr.e) = qe) := by
      show _ = _
      rw [HEE.out]; exact endQ HT.out.ok.ln
    go_upto_region 22 with (first
      | ((with_reducible refine gate_ld 103 (.tmp 4) rfl ?_); refine wl_ldr rfl 103 _ rfl (w.heap.size + 1) 0 [.slice qz nz cz, .int .i64 (dr.e : Int)] _ Tryz.underlying103 rfl (by rw [sizIn]; rfl) rfl (range_whole HT.out.x) ?_)
      | (go_at_call 36; (refine (inEnd_any qz nz cz dr.e _).mono ?_); rintro e' We ⟨he, hbe⟩; have HTe := Lib.hid (HT.out.below hbe); clear hbe; rw [HQE.out] at he; subst he))
    by_cases hq0 : qe = 0
    · subst hq0
      go_wp2_with (first
        | ((with_reducible refine gate_ld 46 _ rfl ?_); refine wl_ldr rfl 46 _ rfl (w.heap.size + 1 + 1) 0 dr.cs _ Tryz.underlying46 rfl (by rw [sizRdq, HTe.out.len]) rfl (range_whole HTe.out.o) ?_)
        | ((with_reducible refine gate_st 46 _ _ rfl ?_); refine wl_str rfl 46 _ _ rfl w.heap.size dr.cs.toArray rdZ.toArray 46 (by rw [sizRdq, List.size_toArray, HTe.out.len]) (by rw [List.size_toArray, List.size_toArray, HTe.out.len]; rfl) (by rw [← Array.all_toList]; exact HTe.out.one) rfl rfl HTe.out.r ?_))
      refine bodyPost_ret (res_rowc_tmp (P := Tryz.prog) (T := 46) (T' := 46) (t := 3) rfl _ _ w.heap.size dr.cs.toArray (0, 0) rfl (setRow_at HTe.out.r) Tryz.underlying46 rfl (by rw [sizRdq, List.size_toArray, HTe.out.len])) rfl ?_
      exact HPP.out _ _ ⟨by rw [show qc = dr.cs from HCC.out]; rfl, setRow_below HTe.out.bel (Nat.le_refl _) _⟩
    · have hqn : ((qe : Int) != 0) = true := by simpa using hq0
      go_wp2_with (first
        | ((with_reducible refine gate_st 46 _ _ rfl ?_); refine wl_str rfl 46 _ _ rfl w.heap.size rdZ.toArray rdZ.toArray 46 (by rw [sizRdq]; rfl) rfl (by rw [← Array.all_toList]; rfl) rfl rfl HTe.out.r ?_))
      refine bodyPost_ret (res_rowc_tmp (P := Tryz.prog) (T := 46) (T' := 46) (t := 3) rfl _ _ w.heap.size rdZ.toArray (0, 0) rfl (setRow_at HTe.out.r) Tryz.underlying46 rfl (by rw [sizRdq]; rfl)) rfl ?_
      exact HPP.out _ _ ⟨by rw [show qc = rdZ by rw [HCC.out, if_neg hq0]]; rfl, setRow_below HTe.out.bel (Nat.le_refl _) _⟩
  by_cases h5 : v = 5
  · subst h5
    have hv1 : Wc.cell? ⟨w.heap.size + 1 + 1, 0, none⟩ = some (.int .i64 5) := hv_HSc
    clear hv_HSc h1
    have HDR2 : Hid (dr = dPre (vN y0.e y0.l) (dNum 58 0 5 5 y0)) := by show _ = _; rw [HDR.out]; rfl
    clear HDR
    go_upto_region 12 with (first
      | ((with_reducible refine gate_ld 103 (.tmp 4) rfl ?_); refine wl_ldr rfl 103 _ rfl (w.heap.size + 1) 0 [.slice q1 n1 c1, .int .i64 (y0.e : Int)] _ Tryz.underlying103 rfl (by rw [sizIn]; rfl) rfl (range_whole HSc.out.x) ?_)
      | (go_at_call 32; (refine (inNumber_any q1 n1 c1 y0.e 0 5 5 y0.l _ (HSc.out.ok.below HSc.out.bel)).mono ?_); rintro e' Wa ⟨rfl, hb⟩; have HSa := Lib.hid (HSc.out.below hb); clear hb)
      | ((with_reducible refine gate_st 103 (.tmp 4) _ rfl ?_); refine wl_stR rfl 103 _ _ rfl (w.heap.size + 1) 0 [.slice (tq q1 c1 (kN y0.e y0.l)) (n1 - (kN y0.e y0.l)) (c1 - (kN y0.e y0.l)), .int .i64 ((numIE 0 5 5 y0.e y0.l : Nat) : Int)] (by rw [sizIn]; rfl) rfl rfl (fun u hu => by simp at hu; rcases hu with rfl | rfl <;> rfl) [.slice q1 n1 c1, .int .i64 (y0.e : Int)] 103 HSa.out.x (by simp) (fun Wb h1 h2 => ?_); have HSb := Lib.hid (HSa.out.setX h1 h2 (HSc.out.ok.tail (by have := kN_le y0.e y0.l; have := HSc.out.ok.ln; (try simp only at this); omega))); clear h1 h2; try simp only [Act.put])
      | ((with_reducible refine gate_st 3 _ _ rfl ?_); refine wl_st1G rfl 3 sizI1 _ _ rfl (w.heap.size + 1 + 1) 58 (.int .i64 ((vN y0.e y0.l : Nat) : Int)) rfl rfl rfl y0.cs (RowIn y0.cs 58 [.int .i64 ((vN y0.e y0.l : Nat) : Int)]) _ HSb.out.o (by have := HSc.out.len; (try simp only at this); omega) rfl (fun Wd h1 h2 => ?_); have HSd : Hid (DrSt w Wd 5 (tq q1 c1 (kN y0.e y0.l)) (n1 - (kN y0.e y0.l)) (c1 - (kN y0.e y0.l)) (dNum 58 0 5 5 y0)) := (HSb.out.setO h1 h2 (by rw [rowIn_len (by have := HSc.out.len; (try simp only at this); simp; omega)]; exact HSc.out.len) (by rw [rowIn_before (by have := HSc.out.len; (try simp only at this); simp; omega) (by omega)]; exact HSc.out.vb) (rowIn_all HSc.out.one rfl)); have hv_HSd := HSd.out.verb; clear h1 h2; try simp only [Act.put]))
    have HY : Hid ((dNum 58 0 5 5 y0).cs[58]? = some (.int .i64 ((vN y0.e y0.l : Nat) : Int))) := by
      have h := rowIn_cell (cs := y0.cs) (r := [.int .i64 ((vN y0.e y0.l : Nat) : Int)]) (off := 58) (i := 0) (by have := HSc.out.len; simp; omega) (by simp)
      exact h
    have HYl := HSd.out.len
    have HDd : Hid ((dNum 58 0 5 5 y0).e = 0 → vN y0.e y0.l ≤ 5) := by
      intro h
      have h2 : numIE 0 5 5 y0.e y0.l = 0 := h
      unfold numIE at h2
      split at h2
      · omega
      · rename_i hc
        unfold eN at h2
        unfold vN
        split at h2
        · omega
        · rename_i he
          rw [if_neg he]
          omega
    clear HSa HSb HSc hv1 hv_HSd
    generalize tq q1 c1 (kN y0.e y0.l) = q2 at *
    generalize n1 - kN y0.e y0.l = n2 at *
    generalize c1 - kN y0.e y0.l = c2 at *
    generalize dNum 58 0 5 5 y0 = y1 at *
    generalize vN y0.e y0.l = d at *
    go_upto_region 13 with fail
    rw [show (Obj.cells #[Value.int IntKind.u8 0, Value.int IntKind.u8 0, Value.int IntKind.u8 0, Value.int IntKind.u8 0, Value.int IntKind.u8 0, Value.int IntKind.u8 0, Value.int IntKind.u8 0, Value.int IntKind.u8 0, Value.int IntKind.u8 0, Value.int IntKind.u8 0, Value.int IntKind.u8 0, Value.int IntKind.u8 0, Value.int IntKind.u8 0, Value.int IntKind.u8 0, Value.int IntKind.u8 0, Value.int IntKind.u8 0, Value.int IntKind.u8 0, Value.int IntKind.u8 0, Value.int IntKind.u8 0, Value.int IntKind.u8 0, Value.int IntKind.u8 0, Value.int IntKind.u8 0, Value.int IntKind.u8 0, Value.int IntKind.u8 0, Value.int IntKind.u8 0] 108) = Obj.cells (bC (List.replicate 25 0)) 108 from rfl]
    have HA : Hid (DrAl w (Wd.alloc (.cells (bC (List.replicate 25 0)) 108)) Wd.heap.size 5 q2 n2 c2 y1 []) := ⟨HSd.out.below (below_alloc1 _ _), lt_heap HSd.out.o, heap_alloc_new _ _⟩
    have hce : (Wd.alloc (.cells (bC (List.replicate 25 0)) 108)).cell? ⟨w.heap.size + 1, 1, none⟩ = some (.int .i64 (y1.e : Int)) := by rw [cell_blk HA.out.s.x]; rfl
    clear HSd
    generalize Wd.alloc (.cells (bC (List.replicate 25 0)) 108) = Wf at *
    generalize Wd.heap.size = g at *
    clear Wd
    by_cases he0 : y1.e = 0
    · have HD5 := Lib.hid (HDd.out he0)
      have hce0 : ((y1.e : Int) == 0) = true := by simp; omega
      have HPN : Hid (preN d y1 = sizeD d) := if_pos he0
      have HX : Hid (dPre d y1 = ⟨(bytB y1.l y1.e (preN d y1)).1, (bytB y1.l y1.e (preN d y1)).2.1, RowIn y1.cs 33 (rkR (allB (bytB y1.l y1.e (preN d y1)).2.2))⟩) := rfl
      rw [HX.out, HPN.out] at HDR2
      clear HDd he0 HX HPN
      go_wp2_with fail
      go_loopw [7] (fun s7 wr => ∃ (k : Nat) (q n c : _), k ≤ sizeD d ∧ s7 = .int .i64 (k : Int) ∧ Hid (DrAl w wr g 5 q n c ⟨(bytB y1.l y1.e k).1, (bytB y1.l y1.e k).2.1, y1.cs⟩ (bytB y1.l y1.e k).2.2)) (fun s7 _ => sizeD d - (intOf s7).toNat)
      case atStart => exact ⟨0, _, _, _, Nat.zero_le _, rfl, HA.out⟩
      case round =>
        obtain ⟨k, q, n, c, hk, rfl, HL⟩ := hrel
        clear HA hce hce0
        have HC58 : Hid (∀ W : World, W.heap[w.heap.size + 1 + 1]? = wr.heap[w.heap.size + 1 + 1]? → W.cell? ⟨w.heap.size + 1 + 1, 58, none⟩ = some (.int .i64 (d : Int))) := fun W hW => by
          rw [cell_blk (hW.trans HL.out.s.o), List.getElem?_toArray]; exact HY.out
        have hks := sizeD_le d
        have HB1 : Hid (bytB y1.l y1.e (k + 1) = ((bytB y1.l y1.e k).1.drop (kN (bytB y1.l y1.e k).2.1 (bytB y1.l y1.e k).1), numIE 0 255 0 (bytB y1.l y1.e k).2.1 (bytB y1.l y1.e k).1, (bytB y1.l y1.e k).2.2 ++ [UInt8.ofNat (vN (bytB y1.l y1.e k).2.1 (bytB y1.l y1.e k).1)])) := rfl
        have HBk := Lib.hid (bytB_len y1.l y1.e k)
        have HBX : Hid (k = sizeD d → dr = ⟨(bytB y1.l y1.e k).1, (bytB y1.l y1.e k).2.1, RowIn y1.cs 33 (rkR (allB (bytB y1.l y1.e k).2.2))⟩) := fun h => by rw [h]; exact HDR2.out
        clear HDR2
        generalize bytB y1.l y1.e k = bk at *
        obtain ⟨lk, ek, ak⟩ := bk
        dsimp only at HL HB1 HBk HBX
        go_upto_region 15 with fail
        refine wp_region_held_drew (S := fun W => W.heap[w.heap.size + 1 + 1]? = wr.heap[w.heap.size + 1 + 1]?) (by kernel_rfl) rfl (fun hH => ?_)
        show wpAnyH Tryz.prog Region.Mode.any _ _ _ 7 #[false, false, false, false, false, false, false] _ _
        refine takeR (i := 0) (v := .int .i64 (k : Int)) 70 rfl rfl (by kernel_rfl) (by kernel_rfl) (by kernel_rfl) (fun _ _ _ h => h) (Or.inl ⟨rfl, fun w' hS => exec_mvT (.tmp 7) rfl _ rfl⟩) hH ?_
        simp only [Act.put, List.setIfInBounds_toArray, List.set_cons_zero, List.set_cons_succ]
        refine takeR (i := 2) (v := .pointer (some ⟨w.heap.size + 1 + 1, 58, none⟩)) 72 rfl rfl (by kernel_rfl) (by kernel_rfl) (by kernel_rfl) (fun _ _ _ h => h) (Or.inl ⟨rfl, fun w' hS => exec_f58 (.tmp 5) rfl (w.heap.size + 1 + 1) rfl⟩) hH ?_
        simp only [Act.put, List.setIfInBounds_toArray, List.set_cons_zero, List.set_cons_succ]
        refine takeR (i := 3) (v := .int .i64 (d : Int)) 73 rfl rfl (by kernel_rfl) (by kernel_rfl) (by kernel_rfl) (fun _ _ _ h => h) (Or.inl ⟨rfl, fun w' hS => exec_ld1G 3 agI26 (.tmp 72) rfl (w.heap.size + 1 + 1) 58 _ rfl (HC58.out w' hS)⟩) hH ?_
        simp only [Act.put, List.setIfInBounds_toArray, List.set_cons_zero, List.set_cons_succ]
        refine oneH 1 (by kernel_rfl) ((wpOp_call rfl rfl (exec_calls rfl (enters_of Tryz.func34 (by kernel_rfl) rfl) (vs := #[]) (by simp) wr.drew) (sizes_any _) (fun e' w1 hR => ?_)))
        obtain ⟨rfl, hw1⟩ := hR
        have hbd : Below wr.heap.size wr wr.drew := ⟨rfl, rfl, rfl, Nat.le_refl _, fun _ _ => rfl⟩
        have hb1 : Below wr.heap.size wr w1 := by rw [hw1]; exact hbd.trans ((below_alloc1 _ _).mono hbd.size)
        have hs1 : w1.heap[wr.drew.heap.size]? = some (.cells #[.int .i64 0, .int .i64 1, .int .i64 2, .int .i64 3, .int .i64 15, .int .i64 25] 3 (0, 0)) := by rw [hw1]; exact heap_alloc_new _ _
        have hS1 : w1.heap[w.heap.size + 1 + 1]? = wr.heap[w.heap.size + 1 + 1]? := hb1.block _ (lt_heap HL.out.s.o)
        clear hw1
        refine ⟨_, rfl, hS1, ?_⟩
        simp only [Act.put, List.getElem_toArray, List.getElem_cons_zero, List.getElem_cons_succ, List.setIfInBounds_toArray, List.set_cons_zero, List.set_cons_succ]
        generalize wr.drew.heap.size = gs at *
        refine oneH 4 (by kernel_rfl) (wpOp_val rfl rfl (exec_ixI26 (.tmp 71) (.tmp 73) rfl gs 0 6 6 d rfl rfl (by have := HD5.out; omega)) ⟨hS1, ?_⟩)
        simp only [Act.put, List.getElem_toArray, List.getElem_cons_zero, List.getElem_cons_succ, List.setIfInBounds_toArray, List.set_cons_zero, List.set_cons_succ]
        refine oneH 5 (by kernel_rfl) (wpOp_val rfl rfl (exec_ld1G 3 agI26 (.tmp 74) rfl gs (0 + d * 1) _ rfl (cellS26 hs1 HD5.out)) ⟨hS1, ?_⟩)
        simp only [Act.put, List.getElem_toArray, List.getElem_cons_zero, List.getElem_cons_succ, List.setIfInBounds_toArray, List.set_cons_zero, List.set_cons_succ]
        generalize hsd : sizeD d = sd at *
        have HSD := Lib.hid hsd
        refine oneH 6 (by kernel_rfl) (wpOp_val rfl rfl (exec_lt26 (.tmp 70) (.tmp 75) rfl k sd rfl rfl) ⟨hS1, ?_⟩)
        simp only [Act.put, List.getElem_toArray, List.getElem_cons_zero, List.getElem_cons_succ, List.setIfInBounds_toArray, List.set_cons_zero, List.set_cons_succ]
        refine wpAnyH_done (by kernel_rfl) ?_ _
        try simp only [Act.put, List.getElem_toArray, List.getElem_cons_zero, List.getElem_cons_succ, List.setIfInBounds_toArray, List.set_cons_zero, List.set_cons_succ]
        have HL1 := Lib.hid (HL.out.below hb1)
        clear HL hb1 hs1 hS1 hbd HC58 HD5 hH hsd
        by_cases hlt : k < sd
        · rw [decide_eq_true hlt]
          have hvN : Hid (vN ek lk < 256) := by
            show _ < _
            unfold vN
            split
            · omega
            · unfold byteV
              split
              · omega
              · exact UInt8.toNat_lt _
          have HKn := Lib.hid (kN_le ek lk)
          have hk25 : k < 25 := by omega
          have hk25i : (k : Int) < 25 := by omega
          have HSA := Lib.hid (allB_step ak (UInt8.ofNat (vN ek lk)) k HBk.out hk25)
          rw [show (UInt8.ofNat (vN ek lk)).toNat = vN ek lk from by simp [UInt8.toNat_ofNat', Nat.mod_eq_of_lt hvN.out]] at HSA
          have hcv : (vN ek lk : Int) % 256 = (vN ek lk : Int) := by have := hvN.out; omega
          go_wp2_with (first
            | ((with_reducible refine gate_ld 103 (.tmp 4) rfl ?_); refine wl_ldr rfl 103 _ rfl (w.heap.size + 1) 0 [.slice q n c, .int .i64 (ek : Int)] _ Tryz.underlying103 rfl (by rw [sizIn]; rfl) rfl (range_whole HL1.out.s.x) ?_)
            | (go_at_call 32; (refine (inNumber_any q n c ek 0 255 0 lk _ (HL1.out.s.ok.below HL1.out.s.bel)).mono ?_); rintro e' Wa ⟨rfl, hb⟩; have HSa := Lib.hid (HL1.out.below hb); clear hb)
            | ((with_reducible refine gate_st 103 (.tmp 8) _ rfl ?_); refine wl_stR rfl 103 _ _ rfl Wa.heap.size 0 [.slice (tq q c (kN ek lk)) (n - kN ek lk) (c - kN ek lk), .int .i64 ((numIE 0 255 0 ek lk : Nat) : Int)] (by rw [sizIn]; rfl) rfl rfl (fun u hu => by simp at hu; rcases hu with rfl | rfl <;> rfl) [.slice none 0 0, .int .i64 0] 103 (heap_alloc_new _ _) (by simp) (fun Wb h1 h2 => ?_); have HSb := Lib.hid (HSa.out.below ((below_alloc1 Wa (.cells #[.slice none 0 0, .int .i64 0] 103)).trans (h2.below (fun k hk => by simp at hk; omega) (by simp)))); have HNb : Hid (Wb.heap[Wa.heap.size]? = some (.cells ([.slice (tq q c (kN ek lk)) (n - kN ek lk) (c - kN ek lk), .int .i64 ((numIE 0 255 0 ek lk : Nat) : Int)] : List Value).toArray 103 (0, 0))) := h1; clear h1 h2; try simp only [Act.put])
            | ((with_reducible refine gate_ld 103 (.tmp 8) rfl ?_); refine wl_ldr rfl 103 _ rfl Wa.heap.size 0 [.slice (tq q c (kN ek lk)) (n - kN ek lk) (c - kN ek lk), .int .i64 ((numIE 0 255 0 ek lk : Nat) : Int)] _ Tryz.underlying103 rfl (by rw [sizIn]; rfl) rfl (range_whole HNb.out) ?_)
            | ((with_reducible refine gate_st 103 (.tmp 4) _ rfl ?_); refine wl_stR rfl 103 _ _ rfl (w.heap.size + 1) 0 [.slice (tq q c (kN ek lk)) (n - kN ek lk) (c - kN ek lk), .int .i64 ((numIE 0 255 0 ek lk : Nat) : Int)] (by rw [sizIn]; rfl) rfl rfl (fun u hu => by simp at hu; rcases hu with rfl | rfl <;> rfl) [.slice q n c, .int .i64 (ek : Int)] 103 HSb.out.s.x (by simp) (fun Wc2 h1 h2 => ?_); have HSc := Lib.hid (HSb.out.setX h1 h2 (HSb.out.s.ok.tail (by have := HKn.out; have := HSb.out.s.ok.ln; (try simp only at this); omega))); clear h1 h2; try simp only [Act.put])
            | ((with_reducible refine gate_st 5 _ _ rfl ?_); refine wl_st1G rfl 5 siz5 _ _ rfl g k (.int .u8 ((vN ek lk : Nat) : Int)) (by first | rfl | simp [Act.eval]) rfl rfl (bC (allB ak)).toList (bC (allB (ak ++ [UInt8.ofNat (vN ek lk)]))).toList _ (by rw [Array.toArray_toList]; exact HSc.out.a) (by rw [Array.length_toList, bC_size, allB_len (by rw [HBk.out]; omega)]; omega) HSA.out (fun Wd2 h1 h2 => ?_); have HSd := Lib.hid (HSc.out.setA (by rw [Array.toArray_toList] at h1; exact h1) h2); clear h1 h2; try simp only [Act.put]))
          refine ⟨⟨k + 1, _, _, _, by rw [HSD.out]; omega, by simp, by rw [HB1.out]; exact HSd.out⟩, ?_⟩
          rw [HSD.out]
          simp [intOf]
          omega
        · rw [decide_eq_false hlt]
          have HDR2 : Hid (dr = ⟨lk, ek, RowIn y1.cs 33 (rkR (allB ak))⟩) := HBX.out (by omega)
          clear HBX HB1 HY
          go_upto_region 20 with fail
          have HBL : Hid ((allB ak).length = 25) := allB_len (by rw [HBk.out]; omega)
          go_upto_region 21 with (first
            | ((with_reducible refine gate_ld 108 _ rfl ?_); refine wl_ldr rfl 108 _ rfl g 0 (bC (allB ak)).toList _ Tryz.underlying108 rfl (by rw [siz25A, Array.length_toList, bC_size, HBL.out]) rfl (range_whole (by rw [Array.toArray_toList]; exact HL1.out.a)) ?_; rw [Array.toArray_toList])
            | (go_at_call 35; (refine (read06_any (allB ak) HBL.out _).mono ?_); rintro e' Wh ⟨rfl, hbh⟩; have HAh := Lib.hid (HL1.out.below hbh); clear hbh)
            | ((with_reducible refine gate_st 44 _ _ rfl ?_); refine wl_stR rfl 44 _ _ rfl (w.heap.size + 1 + 1) 33 (rkR (allB ak)) (by rw [sizR44, rkR_len _ HBL.out]) rfl rfl (List.all_eq_true.1 (rkR_one _)) y1.cs 46 HAh.out.s.o (by rw [rkR_len _ HBL.out, HAh.out.s.len]; decide) (fun Wk h1 h2 => ?_); have HZ := Lib.hid (HAh.out.s.setO h1 h2 (by rw [rowIn_len (by rw [rkR_len _ HBL.out, HAh.out.s.len]; decide), HAh.out.s.len]) (by rw [rowIn_before (by rw [rkR_len _ HBL.out, HAh.out.s.len]; decide) (by decide)]; exact HAh.out.s.vb) (rowIn_all HAh.out.s.one (rkR_one _))); clear h1 h2; try simp only [Act.put]))
          obtain ⟨qz, nz, cz, HT⟩ : ∃ qx nx cx, Hid (DrSt w Wk 5 qx nx cx dr) := ⟨_, _, _, by show DrSt _ _ _ _ _ _ dr; rw [HDR2.out]; exact HZ.out⟩
          clear HDR2
          have HQE : Hid ((if dr.e = 0 ∧ 0 < nz then 3 else dr.e) = qe) := by
            show _ = _
            rw [HEE.out]; exact endQ HT.out.ok.ln
          go_upto_region 22 with (first
            | ((with_reducible refine gate_ld 103 (.tmp 4) rfl ?_); refine wl_ldr rfl 103 _ rfl (w.heap.size + 1) 0 [.slice qz nz cz, .int .i64 (dr.e : Int)] _ Tryz.underlying103 rfl (by rw [sizIn]; rfl) rfl (range_whole HT.out.x) ?_)
            | (go_at_call 36; (refine (inEnd_any qz nz cz dr.e _).mono ?_); rintro e' We ⟨he, hbe⟩; have HTe := Lib.hid (HT.out.below hbe); clear hbe; rw [HQE.out] at he; subst he))
          by_cases hq0 : qe = 0
          · subst hq0
            go_wp2_with (first
              | ((with_reducible refine gate_ld 46 _ rfl ?_); refine wl_ldr rfl 46 _ rfl (w.heap.size + 1 + 1) 0 dr.cs _ Tryz.underlying46 rfl (by rw [sizRdq, HTe.out.len]) rfl (range_whole HTe.out.o) ?_)
              | ((with_reducible refine gate_st 46 _ _ rfl ?_); refine wl_str rfl 46 _ _ rfl w.heap.size dr.cs.toArray rdZ.toArray 46 (by rw [sizRdq, List.size_toArray, HTe.out.len]) (by rw [List.size_toArray, List.size_toArray, HTe.out.len]; rfl) (by rw [← Array.all_toList]; exact HTe.out.one) rfl rfl HTe.out.r ?_))
            refine bodyPost_ret (res_rowc_tmp (P := Tryz.prog) (T := 46) (T' := 46) (t := 3) rfl _ _ w.heap.size dr.cs.toArray (0, 0) rfl (setRow_at HTe.out.r) Tryz.underlying46 rfl (by rw [sizRdq, List.size_toArray, HTe.out.len])) rfl ?_
            exact HPP.out _ _ ⟨by rw [show qc = dr.cs from HCC.out]; rfl, setRow_below HTe.out.bel (Nat.le_refl _) _⟩
          · have hqn : ((qe : Int) != 0) = true := by simpa using hq0
            go_wp2_with (first
              | ((with_reducible refine gate_st 46 _ _ rfl ?_); refine wl_str rfl 46 _ _ rfl w.heap.size rdZ.toArray rdZ.toArray 46 (by rw [sizRdq]; rfl) rfl (by rw [← Array.all_toList]; rfl) rfl rfl HTe.out.r ?_))
            refine bodyPost_ret (res_rowc_tmp (P := Tryz.prog) (T := 46) (T' := 46) (t := 3) rfl _ _ w.heap.size rdZ.toArray (0, 0) rfl (setRow_at HTe.out.r) Tryz.underlying46 rfl (by rw [sizRdq]; rfl)) rfl ?_
            exact HPP.out _ _ ⟨by rw [show qc = rdZ by rw [HCC.out, if_neg hq0]]; rfl, setRow_below HTe.out.bel (Nat.le_refl _) _⟩
    · have hen : ((y1.e : Int) == 0) = false := by simp; omega
      have HX : Hid (dPre d y1 = ⟨y1.l, y1.e, RowIn y1.cs 33 (rkR (allB []))⟩) := by show _ = _; unfold dPre preN; rw [if_neg he0]; rfl
      rw [HX.out] at HDR2
      clear HX HDd HY he0
      go_upto_region 20 with fail
      clear hen hce
      have HBL : Hid ((allB []).length = 25) := rfl
      go_upto_region 21 with (first
        | ((with_reducible refine gate_ld 108 _ rfl ?_); refine wl_ldr rfl 108 _ rfl g 0 (bC (allB [])).toList _ Tryz.underlying108 rfl (by rw [siz25A, Array.length_toList, bC_size, HBL.out]) rfl (range_whole (by rw [Array.toArray_toList]; exact HA.out.a)) ?_; rw [Array.toArray_toList])
        | (go_at_call 35; (refine (read06_any (allB []) HBL.out _).mono ?_); rintro e' Wh ⟨rfl, hbh⟩; have HAh := Lib.hid (HA.out.below hbh); clear hbh)
        | ((with_reducible refine gate_st 44 _ _ rfl ?_); refine wl_stR rfl 44 _ _ rfl (w.heap.size + 1 + 1) 33 (rkR (allB [])) (by rw [sizR44, rkR_len _ HBL.out]) rfl rfl (List.all_eq_true.1 (rkR_one _)) y1.cs 46 HAh.out.s.o (by rw [rkR_len _ HBL.out, HAh.out.s.len]; decide) (fun Wk h1 h2 => ?_); have HZ := Lib.hid (HAh.out.s.setO h1 h2 (by rw [rowIn_len (by rw [rkR_len _ HBL.out, HAh.out.s.len]; decide), HAh.out.s.len]) (by rw [rowIn_before (by rw [rkR_len _ HBL.out, HAh.out.s.len]; decide) (by decide)]; exact HAh.out.s.vb) (rowIn_all HAh.out.s.one (rkR_one _))); clear h1 h2; try simp only [Act.put]))
      obtain ⟨qz, nz, cz, HT⟩ : ∃ qx nx cx, Hid (DrSt w Wk 5 qx nx cx dr) := ⟨_, _, _, by show DrSt _ _ _ _ _ _ dr; rw [HDR2.out]; exact HZ.out⟩
      clear HDR2
      have HQE : Hid ((if dr.e = 0 ∧ 0 < nz then 3 else dr.e) = qe) := by
        show _ = _
        rw [HEE.out]; exact endQ HT.out.ok.ln
      go_upto_region 22 with (first
        | ((with_reducible refine gate_ld 103 (.tmp 4) rfl ?_); refine wl_ldr rfl 103 _ rfl (w.heap.size + 1) 0 [.slice qz nz cz, .int .i64 (dr.e : Int)] _ Tryz.underlying103 rfl (by rw [sizIn]; rfl) rfl (range_whole HT.out.x) ?_)
        | (go_at_call 36; (refine (inEnd_any qz nz cz dr.e _).mono ?_); rintro e' We ⟨he, hbe⟩; have HTe := Lib.hid (HT.out.below hbe); clear hbe; rw [HQE.out] at he; subst he))
      by_cases hq0 : qe = 0
      · subst hq0
        go_wp2_with (first
          | ((with_reducible refine gate_ld 46 _ rfl ?_); refine wl_ldr rfl 46 _ rfl (w.heap.size + 1 + 1) 0 dr.cs _ Tryz.underlying46 rfl (by rw [sizRdq, HTe.out.len]) rfl (range_whole HTe.out.o) ?_)
          | ((with_reducible refine gate_st 46 _ _ rfl ?_); refine wl_str rfl 46 _ _ rfl w.heap.size dr.cs.toArray rdZ.toArray 46 (by rw [sizRdq, List.size_toArray, HTe.out.len]) (by rw [List.size_toArray, List.size_toArray, HTe.out.len]; rfl) (by rw [← Array.all_toList]; exact HTe.out.one) rfl rfl HTe.out.r ?_))
        refine bodyPost_ret (res_rowc_tmp (P := Tryz.prog) (T := 46) (T' := 46) (t := 3) rfl _ _ w.heap.size dr.cs.toArray (0, 0) rfl (setRow_at HTe.out.r) Tryz.underlying46 rfl (by rw [sizRdq, List.size_toArray, HTe.out.len])) rfl ?_
        exact HPP.out _ _ ⟨by rw [show qc = dr.cs from HCC.out]; rfl, setRow_below HTe.out.bel (Nat.le_refl _) _⟩
      · have hqn : ((qe : Int) != 0) = true := by simpa using hq0
        go_wp2_with (first
          | ((with_reducible refine gate_st 46 _ _ rfl ?_); refine wl_str rfl 46 _ _ rfl w.heap.size rdZ.toArray rdZ.toArray 46 (by rw [sizRdq]; rfl) rfl (by rw [← Array.all_toList]; rfl) rfl rfl HTe.out.r ?_))
        refine bodyPost_ret (res_rowc_tmp (P := Tryz.prog) (T := 46) (T' := 46) (t := 3) rfl _ _ w.heap.size rdZ.toArray (0, 0) rfl (setRow_at HTe.out.r) Tryz.underlying46 rfl (by rw [sizRdq]; rfl)) rfl ?_
        exact HPP.out _ _ ⟨by rw [show qc = rdZ by rw [HCC.out, if_neg hq0]]; rfl, setRow_below HTe.out.bel (Nat.le_refl _) _⟩
  by_cases h6 : v = 6
  · subst h6
    have hv1 : Wc.cell? ⟨w.heap.size + 1 + 1, 0, none⟩ = some (.int .i64 6) := hv_HSc
    clear hv_HSc
    have HDR2 : Hid (dr = dNum 2 0 63 5 y0) := by show _ = _; rw [HDR.out]; rfl
    clear HDR
    go_upto_region 10 with (first
      | ((with_reducible refine gate_ld 103 (.tmp 4) rfl ?_); refine wl_ldr rfl 103 _ rfl (w.heap.size + 1) 0 [.slice q1 n1 c1, .int .i64 (y0.e : Int)] _ Tryz.underlying103 rfl (by rw [sizIn]; rfl) rfl (range_whole HSc.out.x) ?_)
      | (go_at_call 32; (refine (inNumber_any q1 n1 c1 y0.e 0 63 5 y0.l _ (HSc.out.ok.below HSc.out.bel)).mono ?_); rintro e' Wa ⟨rfl, hb⟩; have HSa := Lib.hid (HSc.out.below hb); clear hb)
      | ((with_reducible refine gate_st 103 (.tmp 4) _ rfl ?_); refine wl_stR rfl 103 _ _ rfl (w.heap.size + 1) 0 [.slice (tq q1 c1 (kN y0.e y0.l)) (n1 - (kN y0.e y0.l)) (c1 - (kN y0.e y0.l)), .int .i64 ((numIE 0 63 5 y0.e y0.l : Nat) : Int)] (by rw [sizIn]; rfl) rfl rfl (fun u hu => by simp at hu; rcases hu with rfl | rfl <;> rfl) [.slice q1 n1 c1, .int .i64 (y0.e : Int)] 103 HSa.out.x (by simp) (fun Wb h1 h2 => ?_); have HSb := Lib.hid (HSa.out.setX h1 h2 (HSc.out.ok.tail (by have := kN_le y0.e y0.l; have := HSc.out.ok.ln; (try simp only at this); omega))); clear h1 h2; try simp only [Act.put])
      | ((with_reducible refine gate_st 3 _ _ rfl ?_); refine wl_st1G rfl 3 sizI1 _ _ rfl (w.heap.size + 1 + 1) 2 (.int .i64 ((vN y0.e y0.l : Nat) : Int)) rfl rfl rfl y0.cs (RowIn y0.cs 2 [.int .i64 ((vN y0.e y0.l : Nat) : Int)]) _ HSb.out.o (by have := HSc.out.len; (try simp only at this); omega) rfl (fun Wd h1 h2 => ?_); have HSd : Hid (DrSt w Wd 6 (tq q1 c1 (kN y0.e y0.l)) (n1 - (kN y0.e y0.l)) (c1 - (kN y0.e y0.l)) (dNum 2 0 63 5 y0)) := (HSb.out.setO h1 h2 (by rw [rowIn_len (by have := HSc.out.len; (try simp only at this); simp; omega)]; exact HSc.out.len) (by rw [rowIn_before (by have := HSc.out.len; (try simp only at this); simp; omega) (by omega)]; exact HSc.out.vb) (rowIn_all HSc.out.one rfl)); have hv_HSd := HSd.out.verb; clear h1 h2; try simp only [Act.put]))
    obtain ⟨qz, nz, cz, HT⟩ : ∃ qx nx cx, Hid (DrSt w Wd 6 qx nx cx dr) := ⟨_, _, _, by show DrSt _ _ _ _ _ _ dr; rw [HDR2.out]; exact HSd.out⟩
    clear HDR2
    have HQE : Hid ((if dr.e = 0 ∧ 0 < nz then 3 else dr.e) = qe) := by
      show _ = _
      rw [HEE.out]; exact endQ HT.out.ok.ln
    go_upto_region 22 with (first
      | ((with_reducible refine gate_ld 103 (.tmp 4) rfl ?_); refine wl_ldr rfl 103 _ rfl (w.heap.size + 1) 0 [.slice qz nz cz, .int .i64 (dr.e : Int)] _ Tryz.underlying103 rfl (by rw [sizIn]; rfl) rfl (range_whole HT.out.x) ?_)
      | (go_at_call 36; (refine (inEnd_any qz nz cz dr.e _).mono ?_); rintro e' We ⟨he, hbe⟩; have HTe := Lib.hid (HT.out.below hbe); clear hbe; rw [HQE.out] at he; subst he))
    by_cases hq0 : qe = 0
    · subst hq0
      go_wp2_with (first
        | ((with_reducible refine gate_ld 46 _ rfl ?_); refine wl_ldr rfl 46 _ rfl (w.heap.size + 1 + 1) 0 dr.cs _ Tryz.underlying46 rfl (by rw [sizRdq, HTe.out.len]) rfl (range_whole HTe.out.o) ?_)
        | ((with_reducible refine gate_st 46 _ _ rfl ?_); refine wl_str rfl 46 _ _ rfl w.heap.size dr.cs.toArray rdZ.toArray 46 (by rw [sizRdq, List.size_toArray, HTe.out.len]) (by rw [List.size_toArray, List.size_toArray, HTe.out.len]; rfl) (by rw [← Array.all_toList]; exact HTe.out.one) rfl rfl HTe.out.r ?_))
      refine bodyPost_ret (res_rowc_tmp (P := Tryz.prog) (T := 46) (T' := 46) (t := 3) rfl _ _ w.heap.size dr.cs.toArray (0, 0) rfl (setRow_at HTe.out.r) Tryz.underlying46 rfl (by rw [sizRdq, List.size_toArray, HTe.out.len])) rfl ?_
      exact HPP.out _ _ ⟨by rw [show qc = dr.cs from HCC.out]; rfl, setRow_below HTe.out.bel (Nat.le_refl _) _⟩
    · have hqn : ((qe : Int) != 0) = true := by simpa using hq0
      go_wp2_with (first
        | ((with_reducible refine gate_st 46 _ _ rfl ?_); refine wl_str rfl 46 _ _ rfl w.heap.size rdZ.toArray rdZ.toArray 46 (by rw [sizRdq]; rfl) rfl (by rw [← Array.all_toList]; rfl) rfl rfl HTe.out.r ?_))
      refine bodyPost_ret (res_rowc_tmp (P := Tryz.prog) (T := 46) (T' := 46) (t := 3) rfl _ _ w.heap.size rdZ.toArray (0, 0) rfl (setRow_at HTe.out.r) Tryz.underlying46 rfl (by rw [sizRdq]; rfl)) rfl ?_
      exact HPP.out _ _ ⟨by rw [show qc = rdZ by rw [HCC.out, if_neg hq0]]; rfl, setRow_below HTe.out.bel (Nat.le_refl _) _⟩
  by_cases h10 : v = 10
  · subst h10
    have hv1 : Wc.cell? ⟨w.heap.size + 1 + 1, 0, none⟩ = some (.int .i64 10) := hv_HSc
    clear hv_HSc
    have HDR2 : Hid (dr = dOrd (dNum 1 0 1 5 y0)) := by show _ = _; rw [HDR.out]; rfl
    clear HDR
    go_upto_region 7 with (first
      | ((with_reducible refine gate_ld 103 (.tmp 4) rfl ?_); refine wl_ldr rfl 103 _ rfl (w.heap.size + 1) 0 [.slice q1 n1 c1, .int .i64 (y0.e : Int)] _ Tryz.underlying103 rfl (by rw [sizIn]; rfl) rfl (range_whole HSc.out.x) ?_)
      | (go_at_call 32; (refine (inNumber_any q1 n1 c1 y0.e 0 1 5 y0.l _ (HSc.out.ok.below HSc.out.bel)).mono ?_); rintro e' Wa ⟨rfl, hb⟩; have HSa := Lib.hid (HSc.out.below hb); clear hb)
      | ((with_reducible refine gate_st 103 (.tmp 4) _ rfl ?_); refine wl_stR rfl 103 _ _ rfl (w.heap.size + 1) 0 [.slice (tq q1 c1 (kN y0.e y0.l)) (n1 - (kN y0.e y0.l)) (c1 - (kN y0.e y0.l)), .int .i64 ((numIE 0 1 5 y0.e y0.l : Nat) : Int)] (by rw [sizIn]; rfl) rfl rfl (fun u hu => by simp at hu; rcases hu with rfl | rfl <;> rfl) [.slice q1 n1 c1, .int .i64 (y0.e : Int)] 103 HSa.out.x (by simp) (fun Wb h1 h2 => ?_); have HSb := Lib.hid (HSa.out.setX h1 h2 (HSc.out.ok.tail (by have := kN_le y0.e y0.l; have := HSc.out.ok.ln; (try simp only at this); omega))); clear h1 h2; try simp only [Act.put])
      | ((with_reducible refine gate_st 3 _ _ rfl ?_); refine wl_st1G rfl 3 sizI1 _ _ rfl (w.heap.size + 1 + 1) 1 (.int .i64 ((vN y0.e y0.l : Nat) : Int)) rfl rfl rfl y0.cs (RowIn y0.cs 1 [.int .i64 ((vN y0.e y0.l : Nat) : Int)]) _ HSb.out.o (by have := HSc.out.len; (try simp only at this); omega) rfl (fun Wd h1 h2 => ?_); have HSd : Hid (DrSt w Wd 10 (tq q1 c1 (kN y0.e y0.l)) (n1 - (kN y0.e y0.l)) (c1 - (kN y0.e y0.l)) (dNum 1 0 1 5 y0)) := (HSb.out.setO h1 h2 (by rw [rowIn_len (by have := HSc.out.len; (try simp only at this); simp; omega)]; exact HSc.out.len) (by rw [rowIn_before (by have := HSc.out.len; (try simp only at this); simp; omega) (by omega)]; exact HSc.out.vb) (rowIn_all HSc.out.one rfl)); have hv_HSd := HSd.out.verb; clear h1 h2; try simp only [Act.put]))
    go_upto_region 8 with (first
      | ((with_reducible refine gate_ld 103 (.tmp 4) rfl ?_); refine wl_ldr rfl 103 _ rfl (w.heap.size + 1) 0 [.slice (tq q1 c1 (kN y0.e y0.l)) (n1 - kN y0.e y0.l) (c1 - kN y0.e y0.l), .int .i64 ((dNum 1 0 1 5 y0).e : Int)] _ Tryz.underlying103 rfl (by rw [sizIn]; rfl) rfl (range_whole HSd.out.x) ?_)
      | (go_at_call 33; (refine (inOrder_any (tq q1 c1 (kN y0.e y0.l)) (n1 - kN y0.e y0.l) (c1 - kN y0.e y0.l) (dNum 1 0 1 5 y0).e (dNum 1 0 1 5 y0).l w _ HSd.out.ok HSd.out.bel).mono ?_); rintro e' Wa ⟨qo, no, co, rfl, hok, hb⟩; have HKo := Lib.hid hok; have HSa := Lib.hid (HSd.out.below hb); clear hb hok; have HOl := Lib.hid (dOrder_len (dNum 1 0 1 5 y0).l (dNum 1 0 1 5 y0).e); have HOo := Lib.hid (dOrder_one (dNum 1 0 1 5 y0).l (dNum 1 0 1 5 y0).e); have HDo : Hid (dOrd (dNum 1 0 1 5 y0) = ⟨(dOrder (dNum 1 0 1 5 y0).l (dNum 1 0 1 5 y0).e).l, (dOrder (dNum 1 0 1 5 y0).l (dNum 1 0 1 5 y0).e).e, RowIn (dNum 1 0 1 5 y0).cs 3 (dOrder (dNum 1 0 1 5 y0).l (dNum 1 0 1 5 y0).e).cs⟩) := rfl; generalize dOrder (dNum 1 0 1 5 y0).l (dNum 1 0 1 5 y0).e = Dy at *)
      | ((with_reducible refine gate_st 103 (.tmp 4) _ rfl ?_); refine wl_stR rfl 103 _ _ rfl (w.heap.size + 1) 0 [.slice qo no co, .int .i64 (Dy.e : Int)] (by rw [sizIn]; rfl) rfl rfl (fun u hu => by simp at hu; rcases hu with rfl | rfl <;> rfl) [.slice (tq q1 c1 (kN y0.e y0.l)) (n1 - kN y0.e y0.l) (c1 - kN y0.e y0.l), .int .i64 ((dNum 1 0 1 5 y0).e : Int)] 103 HSa.out.x (by simp) (fun Wb h1 h2 => ?_); have HSb := Lib.hid (HSa.out.setX h1 h2 HKo.out); clear h1 h2; try simp only [Act.put])
      | ((with_reducible refine gate_st 42 _ _ rfl ?_); refine wl_stR rfl 42 _ _ rfl (w.heap.size + 1 + 1) 3 Dy.cs (by rw [sizROp, HOl.out]) rfl rfl (List.all_eq_true.1 HOo.out) (dNum 1 0 1 5 y0).cs 46 HSb.out.o (by have := HSd.out.len; rw [HOl.out]; omega) (fun Wg h1 h2 => ?_); have HSe : Hid (DrSt w Wg 10 qo no co (dOrd (dNum 1 0 1 5 y0))) := (by show DrSt _ _ _ _ _ _ (dOrd (dNum 1 0 1 5 y0)); rw [HDo.out]; exact HSb.out.setO h1 h2 (by rw [rowIn_len (by have := HSd.out.len; rw [HOl.out]; omega)]; exact HSd.out.len) (by rw [rowIn_before (by have := HSd.out.len; rw [HOl.out]; omega) (by omega)]; exact HSd.out.vb) (rowIn_all HSd.out.one HOo.out)); have hv_HSe := HSe.out.verb; clear h1 h2 hv1; try simp only [Act.put]))
    obtain ⟨qz, nz, cz, HT⟩ : ∃ qx nx cx, Hid (DrSt w Wg 10 qx nx cx dr) := ⟨_, _, _, by show DrSt _ _ _ _ _ _ dr; rw [HDR2.out]; exact HSe.out⟩
    clear HDR2
    have HQE : Hid ((if dr.e = 0 ∧ 0 < nz then 3 else dr.e) = qe) := by
      show _ = _
      rw [HEE.out]; exact endQ HT.out.ok.ln
    go_upto_region 22 with (first
      | ((with_reducible refine gate_ld 103 (.tmp 4) rfl ?_); refine wl_ldr rfl 103 _ rfl (w.heap.size + 1) 0 [.slice qz nz cz, .int .i64 (dr.e : Int)] _ Tryz.underlying103 rfl (by rw [sizIn]; rfl) rfl (range_whole HT.out.x) ?_)
      | (go_at_call 36; (refine (inEnd_any qz nz cz dr.e _).mono ?_); rintro e' We ⟨he, hbe⟩; have HTe := Lib.hid (HT.out.below hbe); clear hbe; rw [HQE.out] at he; subst he))
    by_cases hq0 : qe = 0
    · subst hq0
      go_wp2_with (first
        | ((with_reducible refine gate_ld 46 _ rfl ?_); refine wl_ldr rfl 46 _ rfl (w.heap.size + 1 + 1) 0 dr.cs _ Tryz.underlying46 rfl (by rw [sizRdq, HTe.out.len]) rfl (range_whole HTe.out.o) ?_)
        | ((with_reducible refine gate_st 46 _ _ rfl ?_); refine wl_str rfl 46 _ _ rfl w.heap.size dr.cs.toArray rdZ.toArray 46 (by rw [sizRdq, List.size_toArray, HTe.out.len]) (by rw [List.size_toArray, List.size_toArray, HTe.out.len]; rfl) (by rw [← Array.all_toList]; exact HTe.out.one) rfl rfl HTe.out.r ?_))
      refine bodyPost_ret (res_rowc_tmp (P := Tryz.prog) (T := 46) (T' := 46) (t := 3) rfl _ _ w.heap.size dr.cs.toArray (0, 0) rfl (setRow_at HTe.out.r) Tryz.underlying46 rfl (by rw [sizRdq, List.size_toArray, HTe.out.len])) rfl ?_
      exact HPP.out _ _ ⟨by rw [show qc = dr.cs from HCC.out]; rfl, setRow_below HTe.out.bel (Nat.le_refl _) _⟩
    · have hqn : ((qe : Int) != 0) = true := by simpa using hq0
      go_wp2_with (first
        | ((with_reducible refine gate_st 46 _ _ rfl ?_); refine wl_str rfl 46 _ _ rfl w.heap.size rdZ.toArray rdZ.toArray 46 (by rw [sizRdq]; rfl) rfl (by rw [← Array.all_toList]; rfl) rfl rfl HTe.out.r ?_))
      refine bodyPost_ret (res_rowc_tmp (P := Tryz.prog) (T := 46) (T' := 46) (t := 3) rfl _ _ w.heap.size rdZ.toArray (0, 0) rfl (setRow_at HTe.out.r) Tryz.underlying46 rfl (by rw [sizRdq]; rfl)) rfl ?_
      exact HPP.out _ _ ⟨by rw [show qc = rdZ by rw [HCC.out, if_neg hq0]]; rfl, setRow_below HTe.out.bel (Nat.le_refl _) _⟩
  by_cases h89 : v = 8 ∨ v = 9
  · have HDR2 : Hid (dr = dNum 1 0 1 5 y0) := by show _ = _; rw [HDR.out, if_neg h1, if_neg h5, if_neg h6, if_pos h89]
    clear HDR
    obtain rfl | rfl := h89
    · have hv1 : Wc.cell? ⟨w.heap.size + 1 + 1, 0, none⟩ = some (.int .i64 8) := hv_HSc
      clear hv_HSc
      go_upto_region 6 with (first
        | ((with_reducible refine gate_ld 103 (.tmp 4) rfl ?_); refine wl_ldr rfl 103 _ rfl (w.heap.size + 1) 0 [.slice q1 n1 c1, .int .i64 (y0.e : Int)] _ Tryz.underlying103 rfl (by rw [sizIn]; rfl) rfl (range_whole HSc.out.x) ?_)
        | (go_at_call 32; (refine (inNumber_any q1 n1 c1 y0.e 0 1 5 y0.l _ (HSc.out.ok.below HSc.out.bel)).mono ?_); rintro e' Wa ⟨rfl, hb⟩; have HSa := Lib.hid (HSc.out.below hb); clear hb)
        | ((with_reducible refine gate_st 103 (.tmp 4) _ rfl ?_); refine wl_stR rfl 103 _ _ rfl (w.heap.size + 1) 0 [.slice (tq q1 c1 (kN y0.e y0.l)) (n1 - (kN y0.e y0.l)) (c1 - (kN y0.e y0.l)), .int .i64 ((numIE 0 1 5 y0.e y0.l : Nat) : Int)] (by rw [sizIn]; rfl) rfl rfl (fun u hu => by simp at hu; rcases hu with rfl | rfl <;> rfl) [.slice q1 n1 c1, .int .i64 (y0.e : Int)] 103 HSa.out.x (by simp) (fun Wb h1 h2 => ?_); have HSb := Lib.hid (HSa.out.setX h1 h2 (HSc.out.ok.tail (by have := kN_le y0.e y0.l; have := HSc.out.ok.ln; (try simp only at this); omega))); clear h1 h2; try simp only [Act.put])
        | ((with_reducible refine gate_st 3 _ _ rfl ?_); refine wl_st1G rfl 3 sizI1 _ _ rfl (w.heap.size + 1 + 1) 1 (.int .i64 ((vN y0.e y0.l : Nat) : Int)) rfl rfl rfl y0.cs (RowIn y0.cs 1 [.int .i64 ((vN y0.e y0.l : Nat) : Int)]) _ HSb.out.o (by have := HSc.out.len; (try simp only at this); omega) rfl (fun Wd h1 h2 => ?_); have HSd : Hid (DrSt w Wd 8 (tq q1 c1 (kN y0.e y0.l)) (n1 - (kN y0.e y0.l)) (c1 - (kN y0.e y0.l)) (dNum 1 0 1 5 y0)) := (HSb.out.setO h1 h2 (by rw [rowIn_len (by have := HSc.out.len; (try simp only at this); simp; omega)]; exact HSc.out.len) (by rw [rowIn_before (by have := HSc.out.len; (try simp only at this); simp; omega) (by omega)]; exact HSc.out.vb) (rowIn_all HSc.out.one rfl)); have hv_HSd := HSd.out.verb; clear h1 h2; try simp only [Act.put]))
      obtain ⟨qz, nz, cz, HT⟩ : ∃ qx nx cx, Hid (DrSt w Wd 8 qx nx cx dr) := ⟨_, _, _, by show DrSt _ _ _ _ _ _ dr; rw [HDR2.out]; exact HSd.out⟩
      clear HDR2
      have HQE : Hid ((if dr.e = 0 ∧ 0 < nz then 3 else dr.e) = qe) := by
        show _ = _
        rw [HEE.out]; exact endQ HT.out.ok.ln
      go_upto_region 22 with (first
        | ((with_reducible refine gate_ld 103 (.tmp 4) rfl ?_); refine wl_ldr rfl 103 _ rfl (w.heap.size + 1) 0 [.slice qz nz cz, .int .i64 (dr.e : Int)] _ Tryz.underlying103 rfl (by rw [sizIn]; rfl) rfl (range_whole HT.out.x) ?_)
        | (go_at_call 36; (refine (inEnd_any qz nz cz dr.e _).mono ?_); rintro e' We ⟨he, hbe⟩; have HTe := Lib.hid (HT.out.below hbe); clear hbe; rw [HQE.out] at he; subst he))
      by_cases hq0 : qe = 0
      · subst hq0
        go_wp2_with (first
          | ((with_reducible refine gate_ld 46 _ rfl ?_); refine wl_ldr rfl 46 _ rfl (w.heap.size + 1 + 1) 0 dr.cs _ Tryz.underlying46 rfl (by rw [sizRdq, HTe.out.len]) rfl (range_whole HTe.out.o) ?_)
          | ((with_reducible refine gate_st 46 _ _ rfl ?_); refine wl_str rfl 46 _ _ rfl w.heap.size dr.cs.toArray rdZ.toArray 46 (by rw [sizRdq, List.size_toArray, HTe.out.len]) (by rw [List.size_toArray, List.size_toArray, HTe.out.len]; rfl) (by rw [← Array.all_toList]; exact HTe.out.one) rfl rfl HTe.out.r ?_))
        refine bodyPost_ret (res_rowc_tmp (P := Tryz.prog) (T := 46) (T' := 46) (t := 3) rfl _ _ w.heap.size dr.cs.toArray (0, 0) rfl (setRow_at HTe.out.r) Tryz.underlying46 rfl (by rw [sizRdq, List.size_toArray, HTe.out.len])) rfl ?_
        exact HPP.out _ _ ⟨by rw [show qc = dr.cs from HCC.out]; rfl, setRow_below HTe.out.bel (Nat.le_refl _) _⟩
      · have hqn : ((qe : Int) != 0) = true := by simpa using hq0
        go_wp2_with (first
          | ((with_reducible refine gate_st 46 _ _ rfl ?_); refine wl_str rfl 46 _ _ rfl w.heap.size rdZ.toArray rdZ.toArray 46 (by rw [sizRdq]; rfl) rfl (by rw [← Array.all_toList]; rfl) rfl rfl HTe.out.r ?_))
        refine bodyPost_ret (res_rowc_tmp (P := Tryz.prog) (T := 46) (T' := 46) (t := 3) rfl _ _ w.heap.size rdZ.toArray (0, 0) rfl (setRow_at HTe.out.r) Tryz.underlying46 rfl (by rw [sizRdq]; rfl)) rfl ?_
        exact HPP.out _ _ ⟨by rw [show qc = rdZ by rw [HCC.out, if_neg hq0]]; rfl, setRow_below HTe.out.bel (Nat.le_refl _) _⟩
    · have hv1 : Wc.cell? ⟨w.heap.size + 1 + 1, 0, none⟩ = some (.int .i64 9) := hv_HSc
      clear hv_HSc
      go_upto_region 6 with (first
        | ((with_reducible refine gate_ld 103 (.tmp 4) rfl ?_); refine wl_ldr rfl 103 _ rfl (w.heap.size + 1) 0 [.slice q1 n1 c1, .int .i64 (y0.e : Int)] _ Tryz.underlying103 rfl (by rw [sizIn]; rfl) rfl (range_whole HSc.out.x) ?_)
        | (go_at_call 32; (refine (inNumber_any q1 n1 c1 y0.e 0 1 5 y0.l _ (HSc.out.ok.below HSc.out.bel)).mono ?_); rintro e' Wa ⟨rfl, hb⟩; have HSa := Lib.hid (HSc.out.below hb); clear hb)
        | ((with_reducible refine gate_st 103 (.tmp 4) _ rfl ?_); refine wl_stR rfl 103 _ _ rfl (w.heap.size + 1) 0 [.slice (tq q1 c1 (kN y0.e y0.l)) (n1 - (kN y0.e y0.l)) (c1 - (kN y0.e y0.l)), .int .i64 ((numIE 0 1 5 y0.e y0.l : Nat) : Int)] (by rw [sizIn]; rfl) rfl rfl (fun u hu => by simp at hu; rcases hu with rfl | rfl <;> rfl) [.slice q1 n1 c1, .int .i64 (y0.e : Int)] 103 HSa.out.x (by simp) (fun Wb h1 h2 => ?_); have HSb := Lib.hid (HSa.out.setX h1 h2 (HSc.out.ok.tail (by have := kN_le y0.e y0.l; have := HSc.out.ok.ln; (try simp only at this); omega))); clear h1 h2; try simp only [Act.put])
        | ((with_reducible refine gate_st 3 _ _ rfl ?_); refine wl_st1G rfl 3 sizI1 _ _ rfl (w.heap.size + 1 + 1) 1 (.int .i64 ((vN y0.e y0.l : Nat) : Int)) rfl rfl rfl y0.cs (RowIn y0.cs 1 [.int .i64 ((vN y0.e y0.l : Nat) : Int)]) _ HSb.out.o (by have := HSc.out.len; (try simp only at this); omega) rfl (fun Wd h1 h2 => ?_); have HSd : Hid (DrSt w Wd 9 (tq q1 c1 (kN y0.e y0.l)) (n1 - (kN y0.e y0.l)) (c1 - (kN y0.e y0.l)) (dNum 1 0 1 5 y0)) := (HSb.out.setO h1 h2 (by rw [rowIn_len (by have := HSc.out.len; (try simp only at this); simp; omega)]; exact HSc.out.len) (by rw [rowIn_before (by have := HSc.out.len; (try simp only at this); simp; omega) (by omega)]; exact HSc.out.vb) (rowIn_all HSc.out.one rfl)); have hv_HSd := HSd.out.verb; clear h1 h2; try simp only [Act.put]))
      obtain ⟨qz, nz, cz, HT⟩ : ∃ qx nx cx, Hid (DrSt w Wd 9 qx nx cx dr) := ⟨_, _, _, by show DrSt _ _ _ _ _ _ dr; rw [HDR2.out]; exact HSd.out⟩
      clear HDR2
      have HQE : Hid ((if dr.e = 0 ∧ 0 < nz then 3 else dr.e) = qe) := by
        show _ = _
        rw [HEE.out]; exact endQ HT.out.ok.ln
      go_upto_region 22 with (first
        | ((with_reducible refine gate_ld 103 (.tmp 4) rfl ?_); refine wl_ldr rfl 103 _ rfl (w.heap.size + 1) 0 [.slice qz nz cz, .int .i64 (dr.e : Int)] _ Tryz.underlying103 rfl (by rw [sizIn]; rfl) rfl (range_whole HT.out.x) ?_)
        | (go_at_call 36; (refine (inEnd_any qz nz cz dr.e _).mono ?_); rintro e' We ⟨he, hbe⟩; have HTe := Lib.hid (HT.out.below hbe); clear hbe; rw [HQE.out] at he; subst he))
      by_cases hq0 : qe = 0
      · subst hq0
        go_wp2_with (first
          | ((with_reducible refine gate_ld 46 _ rfl ?_); refine wl_ldr rfl 46 _ rfl (w.heap.size + 1 + 1) 0 dr.cs _ Tryz.underlying46 rfl (by rw [sizRdq, HTe.out.len]) rfl (range_whole HTe.out.o) ?_)
          | ((with_reducible refine gate_st 46 _ _ rfl ?_); refine wl_str rfl 46 _ _ rfl w.heap.size dr.cs.toArray rdZ.toArray 46 (by rw [sizRdq, List.size_toArray, HTe.out.len]) (by rw [List.size_toArray, List.size_toArray, HTe.out.len]; rfl) (by rw [← Array.all_toList]; exact HTe.out.one) rfl rfl HTe.out.r ?_))
        refine bodyPost_ret (res_rowc_tmp (P := Tryz.prog) (T := 46) (T' := 46) (t := 3) rfl _ _ w.heap.size dr.cs.toArray (0, 0) rfl (setRow_at HTe.out.r) Tryz.underlying46 rfl (by rw [sizRdq, List.size_toArray, HTe.out.len])) rfl ?_
        exact HPP.out _ _ ⟨by rw [show qc = dr.cs from HCC.out]; rfl, setRow_below HTe.out.bel (Nat.le_refl _) _⟩
      · have hqn : ((qe : Int) != 0) = true := by simpa using hq0
        go_wp2_with (first
          | ((with_reducible refine gate_st 46 _ _ rfl ?_); refine wl_str rfl 46 _ _ rfl w.heap.size rdZ.toArray rdZ.toArray 46 (by rw [sizRdq]; rfl) rfl (by rw [← Array.all_toList]; rfl) rfl rfl HTe.out.r ?_))
        refine bodyPost_ret (res_rowc_tmp (P := Tryz.prog) (T := 46) (T' := 46) (t := 3) rfl _ _ w.heap.size rdZ.toArray (0, 0) rfl (setRow_at HTe.out.r) Tryz.underlying46 rfl (by rw [sizRdq]; rfl)) rfl ?_
        exact HPP.out _ _ ⟨by rw [show qc = rdZ by rw [HCC.out, if_neg hq0]]; rfl, setRow_below HTe.out.bel (Nat.le_refl _) _⟩
  · have HDR2 : Hid (dr = y0) := by show _ = _; rw [HDR.out, if_neg h1, if_neg h5, if_neg h6, if_neg h89, if_neg h10]
    clear HDR
    have hd : (decide ((8 : Int) ≤ (v : Int)) = false) ∨ (decide ((8 : Int) ≤ (v : Int)) = true ∧ decide ((v : Int) ≤ 10) = false) := by
      by_cases h : v < 8
      · left; simp; omega
      · right; simp; omega
    have hn1 : ((v : Int) == 1) = false := by simp; omega
    have hn10 : ((v : Int) == 10) = false := by simp; omega
    have hn6 : ((v : Int) == 6) = false := by simp; omega
    have hn5 : ((v : Int) == 5) = false := by simp; omega
    have hv1 : Wc.cell? ⟨w.heap.size + 1 + 1, 0, none⟩ = some (.int .i64 (v : Int)) := hv_HSc
    clear hv_HSc h1 h5 h6 h10 h89
    rcases hd with hd | ⟨hd, hd2⟩
    · go_upto_region 21 with fail
      obtain ⟨qz, nz, cz, HT⟩ : ∃ qx nx cx, Hid (DrSt w Wc v qx nx cx dr) := ⟨_, _, _, by show DrSt _ _ _ _ _ _ dr; rw [HDR2.out]; exact HSc.out⟩
      clear HDR2
      have HQE : Hid ((if dr.e = 0 ∧ 0 < nz then 3 else dr.e) = qe) := by
        show _ = _
        rw [HEE.out]; exact endQ HT.out.ok.ln
      go_upto_region 22 with (first
        | ((with_reducible refine gate_ld 103 (.tmp 4) rfl ?_); refine wl_ldr rfl 103 _ rfl (w.heap.size + 1) 0 [.slice qz nz cz, .int .i64 (dr.e : Int)] _ Tryz.underlying103 rfl (by rw [sizIn]; rfl) rfl (range_whole HT.out.x) ?_)
        | (go_at_call 36; (refine (inEnd_any qz nz cz dr.e _).mono ?_); rintro e' We ⟨he, hbe⟩; have HTe := Lib.hid (HT.out.below hbe); clear hbe; rw [HQE.out] at he; subst he))
      by_cases hq0 : qe = 0
      · subst hq0
        go_wp2_with (first
          | ((with_reducible refine gate_ld 46 _ rfl ?_); refine wl_ldr rfl 46 _ rfl (w.heap.size + 1 + 1) 0 dr.cs _ Tryz.underlying46 rfl (by rw [sizRdq, HTe.out.len]) rfl (range_whole HTe.out.o) ?_)
          | ((with_reducible refine gate_st 46 _ _ rfl ?_); refine wl_str rfl 46 _ _ rfl w.heap.size dr.cs.toArray rdZ.toArray 46 (by rw [sizRdq, List.size_toArray, HTe.out.len]) (by rw [List.size_toArray, List.size_toArray, HTe.out.len]; rfl) (by rw [← Array.all_toList]; exact HTe.out.one) rfl rfl HTe.out.r ?_))
        refine bodyPost_ret (res_rowc_tmp (P := Tryz.prog) (T := 46) (T' := 46) (t := 3) rfl _ _ w.heap.size dr.cs.toArray (0, 0) rfl (setRow_at HTe.out.r) Tryz.underlying46 rfl (by rw [sizRdq, List.size_toArray, HTe.out.len])) rfl ?_
        exact HPP.out _ _ ⟨by rw [show qc = dr.cs from HCC.out]; rfl, setRow_below HTe.out.bel (Nat.le_refl _) _⟩
      · have hqn : ((qe : Int) != 0) = true := by simpa using hq0
        go_wp2_with (first
          | ((with_reducible refine gate_st 46 _ _ rfl ?_); refine wl_str rfl 46 _ _ rfl w.heap.size rdZ.toArray rdZ.toArray 46 (by rw [sizRdq]; rfl) rfl (by rw [← Array.all_toList]; rfl) rfl rfl HTe.out.r ?_))
        refine bodyPost_ret (res_rowc_tmp (P := Tryz.prog) (T := 46) (T' := 46) (t := 3) rfl _ _ w.heap.size rdZ.toArray (0, 0) rfl (setRow_at HTe.out.r) Tryz.underlying46 rfl (by rw [sizRdq]; rfl)) rfl ?_
        exact HPP.out _ _ ⟨by rw [show qc = rdZ by rw [HCC.out, if_neg hq0]]; rfl, setRow_below HTe.out.bel (Nat.le_refl _) _⟩
    · go_upto_region 21 with fail
      obtain ⟨qz, nz, cz, HT⟩ : ∃ qx nx cx, Hid (DrSt w Wc v qx nx cx dr) := ⟨_, _, _, by show DrSt _ _ _ _ _ _ dr; rw [HDR2.out]; exact HSc.out⟩
      clear HDR2
      have HQE : Hid ((if dr.e = 0 ∧ 0 < nz then 3 else dr.e) = qe) := by
        show _ = _
        rw [HEE.out]; exact endQ HT.out.ok.ln
      go_upto_region 22 with (first
        | ((with_reducible refine gate_ld 103 (.tmp 4) rfl ?_); refine wl_ldr rfl 103 _ rfl (w.heap.size + 1) 0 [.slice qz nz cz, .int .i64 (dr.e : Int)] _ Tryz.underlying103 rfl (by rw [sizIn]; rfl) rfl (range_whole HT.out.x) ?_)
        | (go_at_call 36; (refine (inEnd_any qz nz cz dr.e _).mono ?_); rintro e' We ⟨he, hbe⟩; have HTe := Lib.hid (HT.out.below hbe); clear hbe; rw [HQE.out] at he; subst he))
      by_cases hq0 : qe = 0
      · subst hq0
        go_wp2_with (first
          | ((with_reducible refine gate_ld 46 _ rfl ?_); refine wl_ldr rfl 46 _ rfl (w.heap.size + 1 + 1) 0 dr.cs _ Tryz.underlying46 rfl (by rw [sizRdq, HTe.out.len]) rfl (range_whole HTe.out.o) ?_)
          | ((with_reducible refine gate_st 46 _ _ rfl ?_); refine wl_str rfl 46 _ _ rfl w.heap.size dr.cs.toArray rdZ.toArray 46 (by rw [sizRdq, List.size_toArray, HTe.out.len]) (by rw [List.size_toArray, List.size_toArray, HTe.out.len]; rfl) (by rw [← Array.all_toList]; exact HTe.out.one) rfl rfl HTe.out.r ?_))
        refine bodyPost_ret (res_rowc_tmp (P := Tryz.prog) (T := 46) (T' := 46) (t := 3) rfl _ _ w.heap.size dr.cs.toArray (0, 0) rfl (setRow_at HTe.out.r) Tryz.underlying46 rfl (by rw [sizRdq, List.size_toArray, HTe.out.len])) rfl ?_
        exact HPP.out _ _ ⟨by rw [show qc = dr.cs from HCC.out]; rfl, setRow_below HTe.out.bel (Nat.le_refl _) _⟩
      · have hqn : ((qe : Int) != 0) = true := by simpa using hq0
        go_wp2_with (first
          | ((with_reducible refine gate_st 46 _ _ rfl ?_); refine wl_str rfl 46 _ _ rfl w.heap.size rdZ.toArray rdZ.toArray 46 (by rw [sizRdq]; rfl) rfl (by rw [← Array.all_toList]; rfl) rfl rfl HTe.out.r ?_))
        refine bodyPost_ret (res_rowc_tmp (P := Tryz.prog) (T := 46) (T' := 46) (t := 3) rfl _ _ w.heap.size rdZ.toArray (0, 0) rfl (setRow_at HTe.out.r) Tryz.underlying46 rfl (by rw [sizRdq]; rfl)) rfl ?_
        exact HPP.out _ _ ⟨by rw [show qc = rdZ by rw [HCC.out, if_neg hq0]]; rfl, setRow_below HTe.out.bel (Nat.le_refl _) _⟩
end Go.Proofs.YtbfefdedjcppaaaGreatDoor
