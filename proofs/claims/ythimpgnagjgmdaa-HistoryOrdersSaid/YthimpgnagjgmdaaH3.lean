/- The law's ofs of chapter 30: calls, as the document's. -/
import Derived.Test.YthimpgnagjgmdaaH2
import Derived.Test.YthimpgnagjgmdaaGO
import Derived.Test.YthimpgnagjgmdaaG5
namespace Go.Proofs.Ythimpgnagjgmdaa
open Go.RowKit

/-- A call without writes. -/
def nilW (x : Ca) : Ca := { x with q := none, n := 0, c := 0 }
theorem built_rCa (x : Ca) : Try.prog.built 51 [(0, .int .i64 x.se), (1, .int .i64 x.be), (2, .int .i64 x.en), (3, .int .i64 x.po), (4, .agg (opC x.op).toArray), (6, .int .u64 x.at_), (7, .bool x.pub), (8, .agg (rpC x.rep).toArray)] = some (caC (nilW x)).toArray := by
  obtain ⟨se, be, en, po, ⟨n0, n1, n2, n3, n4, n5, n6, n, t, s, hn, ht⟩, q, m, c, at_, pub, ⟨e, tx, g, st, rn, hg⟩⟩ := x
  obtain ⟨a0, a1, a2, a3, a4, a5, a6, a7, a8, a9, a10, a11, rfl⟩ := twelve n hn
  obtain ⟨a, b, c', d, e', f, g', i, j, k, rfl⟩ := ten t ht
  obtain ⟨aa, bb, cc, dd, ee, ff, gg, ii, jj, kk, rfl⟩ := ten g hg
  kernel_rfl
theorem exec_bdC {o : Oper} {a : Act} {w : World} (ho : o.op = .build 51 #[(0, .tmp 19), (1, .tmp 21), (2, .tmp 23), (3, .tmp 25), (4, .tmp 28), (6, .tmp 30), (7, .tmp 32), (8, .tmp 35)]) (x : Ca) (h0 : a.eval (.tmp 19) = .int .i64 x.se) (h1 : a.eval (.tmp 21) = .int .i64 x.be) (h2 : a.eval (.tmp 23) = .int .i64 x.en) (h3 : a.eval (.tmp 25) = .int .i64 x.po) (h4 : a.eval (.tmp 28) = .agg (opC x.op).toArray) (h6 : a.eval (.tmp 30) = .int .u64 x.at_) (h7 : a.eval (.tmp 32) = .bool x.pub) (h8 : a.eval (.tmp 35) = .agg (rpC x.rep).toArray) :
    (execOp a.eval o).run Try.prog w = .ok (.value (.agg (caC (nilW x)).toArray)) w := by
  have := run_build (P := Try.prog) w 51 #[(0, .int .i64 x.se), (1, .int .i64 x.be), (2, .int .i64 x.en), (3, .int .i64 x.po), (4, .agg (opC x.op).toArray), (6, .int .u64 x.at_), (7, .bool x.pub), (8, .agg (rpC x.rep).toArray)] _ (built_rCa x)
  unfold execOp
  simp only [ho, List.map_toArray, List.map_cons, List.map_nil, h0, h1, h2, h3, h4, h6, h7, h8, Sem.run_bind, this, Result.andThen_ok, Sem.run_pure]
theorem ag37 (w : World) : (isAgg 37).run Try.prog w = .ok false w := by simp [isAgg, run_underlying Try.underlying37]
def z51 : Array Value := #[Value.int IntKind.i64 0, Value.int IntKind.i64 0, Value.int IntKind.i64 0, Value.int IntKind.i64 0, Value.int IntKind.i64 0, Value.int IntKind.i64 0, Value.int IntKind.i64 0, Value.int IntKind.i64 0, Value.int IntKind.i64 0, Value.int IntKind.i64 0, Value.int IntKind.i64 0, Value.int IntKind.u8 0, Value.int IntKind.u8 0, Value.int IntKind.u8 0, Value.int IntKind.u8 0, Value.int IntKind.u8 0, Value.int IntKind.u8 0, Value.int IntKind.u8 0, Value.int IntKind.u8 0, Value.int IntKind.u8 0, Value.int IntKind.u8 0, Value.int IntKind.u8 0, Value.int IntKind.u8 0, Value.int IntKind.u8 0, Value.int IntKind.u8 0, Value.int IntKind.u8 0, Value.int IntKind.u8 0, Value.int IntKind.u8 0, Value.int IntKind.u8 0, Value.int IntKind.u8 0, Value.int IntKind.u8 0, Value.int IntKind.u8 0, Value.int IntKind.u8 0, Value.string ⟨#[]⟩, Value.slice none 0 0, Value.int IntKind.u64 0, Value.bool false, Value.int IntKind.i64 0, Value.string ⟨#[]⟩, Value.int IntKind.u8 0, Value.int IntKind.u8 0, Value.int IntKind.u8 0, Value.int IntKind.u8 0, Value.int IntKind.u8 0, Value.int IntKind.u8 0, Value.int IntKind.u8 0, Value.int IntKind.u8 0, Value.int IntKind.u8 0, Value.int IntKind.u8 0, Value.int IntKind.i64 0, Value.int IntKind.i64 0]
/-- What of a call is told anew: all but where its writes lie. -/
def core (x : Ca) : Ca := { x with q := none, c := 0 }
theorem sizRW1 : (Try.prog.info? 47).map (·.size) = some 1 := by kernel_rfl
theorem agRW (w : World) : (isAgg 47).run Try.prog w = .ok false w := by simp [isAgg, run_underlying Try.underlying47]
theorem exec_fR5 {o : Oper} {a : Act} {w : World} (x : Operand) (ho : o.op = .fieldAddr 51 x 5) (b f : Nat) (hx : a.eval x = .pointer (some ⟨b, f, none⟩)) : (execOp a.eval o).run Try.prog w = .ok (.value (.pointer (some ⟨b, f + 34, none⟩))) w := by
  unfold execOp
  simp only [ho, hx]
  simp [go_sem]
theorem wrR_one' (x : WrD) : ∀ u ∈ wrR x, u.oneCell' = true := fun u hu => List.all_eq_true.1 (wrR_one x) u hu
theorem infoRW : (Try.prog.info? 70).map (fun i => (i.zero, i.size, i.bytes)) = some (some (.agg (wrR wr0).toArray), 35, 136) := by kernel_rfl
theorem infoRCa : (Try.prog.info? 51).map (fun i => (i.zero, i.size, i.bytes)) = some (some (.agg (caC ca0).toArray), 51, 224) := by kernel_rfl
theorem wrR0_sz : (Value.agg (wrR wr0).toArray).cells.size = 35 := by show (wrR wr0).toArray.size = 35; simp [wrR_len]
/-- Where the inner drawn region stands. -/
def C10 (w W : World) (B rb : Nat) (x : Ca) (v0 : Value) (zs : List WrD) (y : WrD) (r : Nat) (gv : Value × Value) (v : World) : Prop :=
  match r with
  | 0 => Below W.heap.size W v
  | 1 => Below W.heap.size W v
  | 2 => ∃ b2, gv.1 = .slice (some ⟨b2, 0, none⟩) 1 1 ∧ Below W.heap.size W v ∧ v.heap[b2]? = some (.cells (wrR y).toArray 70 (0, 0))
  | 3 => Below B w v ∧ OwnE wrR 70 35 v B gv.2 (zs ++ [y]) ∧ ∀ k, k < W.heap.size → some k ≠ v0.ownBlock → v.heap[k]? = W.heap[k]?
  | _ => ∃ q c, gv.2 = .slice q (zs ++ [y]).length c ∧ Below B w v ∧ OwnE wrR 70 35 v B gv.2 (zs ++ [y]) ∧ v.heap[rb]? = some (.cells (caC { x with q := q, n := (zs ++ [y]).length, c := c }).toArray 51 (0, 0)) ∧ ∀ k, k < W.heap.size → some k ≠ v0.ownBlock → k ≠ rb → v.heap[k]? = W.heap[k]?
set_option maxRecDepth 100000 in
set_option maxHeartbeats 16000000 in
theorem ofs30_any (q : Option Addr) (n c : Nat) (xs : List Ca) (w : World) (hn : xs.length = n) (hn30 : n ≤ 30) (hq : SlAt caC 51 w q xs) (ho : ∀ x ∈ xs, OkIn w x) (hw : ∀ x ∈ xs, x.n ≤ 20) :
    Calls Try.prog 6 #[.slice q n c] w fun e w' => ∃ v', e = .returned v' ∧ ∃ ys : List Ca, ys.map core = xs.map core ∧ OwnE caC 51 51 w' w.heap.size v' ys ∧ Below w.heap.size w w' := by
  have HN := Lib.hid hn
  have HQ := Lib.hid hq
  have HO := Lib.hid ho
  have HW := Lib.hid hw
  clear hn hq ho hw
  go_enter Try.func6, Try.ntmps6
  go_wp2_with fail
  go_loopw [3, 4] (fun vo vi wr => ∃ (k : Nat) (ys : List Ca), k ≤ n ∧ vi = .int .i64 k ∧ ys.length = k ∧ Hid (ys.map core = (xs.take k).map core) ∧ Hid (OwnE caC 51 51 wr w.heap.size vo ys) ∧ Hid (Below w.heap.size w wr)) (fun _ vi _ => 30 - (intOf vi).toNat)
  case atStart => exact ⟨0, [], Nat.zero_le _, rfl, rfl, rfl, OwnE.nil _ _, Below.refl _ _⟩
  case round =>
    obtain ⟨k, ys, hkn, rfl, hyl, HCo, HOw, HB⟩ := hrel
    by_cases h1 : k < n
    · have h1i : (k : Int) < n := by omega
      obtain ⟨b, o, rfl, hbs, hro⟩ := HQ.out k (by rw [HN.out]; exact h1)
      obtain ⟨x, hx⟩ : ∃ x, x = xs[k]'(by rw [HN.out]; exact h1) := ⟨_, rfl⟩
      rw [← hx] at hro
      have HRow : Hid (wr.rangeAt b (o + k * 51) (caC x)) := range_of_block hro (HB.out.block b hbs)
      have HX := Lib.hid hx
      clear hro hx
      go_upto_region 6 with (first | ((with_reducible refine gate_ld 42 (.tmp 16) rfl ?_); refine wl_ldr rfl 42 _ rfl b (o + k * 51) (caC x) _ Try.underlying42 rfl (by rw [sizCa, caC_len]) rfl HRow.out ?_) | ((with_reducible refine gate_st 42 (.tmp 5) _ rfl ?_); refine wl_strn rfl _ _ _ rfl (caC x).toArray cz _ (by rw [sizCa]; simp [caC_len]) (by simp [caC_len, cz]) (by rw [← Array.all_toList]; exact caC_one x) (by simp [Act.eval]) rfl ?_))
      have HB4 := Lib.hid (HB.out.alloc HB.out.size (.cells (caC x).toArray 42))
      have HN4 : Hid ((wr.alloc (.cells (caC x).toArray 42)).heap[wr.heap.size]? = some (.cells (caC x).toArray 42 (0, 0))) := heap_alloc_new _ _
      have HO4 := Lib.hid (HOw.out.below (below_alloc1 wr (.cells (caC x).toArray 42)))
      have HWs : Hid (w.heap.size ≤ wr.heap.size) := HB.out.size
      generalize wr.alloc (.cells (caC x).toArray 42) = W4 at *
      generalize wr.heap.size = cb at *
      have hcb := lt_heap HN4.out
      clear HRow HOw HB
      simp only [Act.put]
      refine wp_region_onevar [(18, .pointer (some ⟨cb, 0, none⟩)), (19, .int .i64 x.se), (20, .pointer (some ⟨cb, 1, none⟩)), (21, .int .i64 x.be), (22, .pointer (some ⟨cb, 2, none⟩)), (23, .int .i64 x.en), (24, .pointer (some ⟨cb, 3, none⟩)), (25, .int .i64 x.po), (26, .pointer (some ⟨cb, 4, none⟩)), (27, .agg (opC x.op).toArray), (28, .agg (opC x.op).toArray), (29, .pointer (some ⟨cb, 35, none⟩)), (30, .int .u64 x.at_), (31, .pointer (some ⟨cb, 36, none⟩)), (32, .bool x.pub), (33, .pointer (some ⟨cb, 37, none⟩)), (34, .agg (rpC x.rep).toArray), (35, .agg (rpC x.rep).toArray), (36, .agg (caC (nilW x)).toArray)] 6 z51 (caC (nilW x)).toArray 51 (by kernel_rfl) (by kernel_rfl) rfl (by simp) (by simp) _ _ rfl rfl
        ⟨rfl, rfl, fun a w => by kernel_rfl⟩
        ⟨rfl, rfl, fun a' w' g hd hp hg => exec_str _ (.tmp 6) (.tmp 36) rfl g (caC (nilW x)).toArray z51 _ (by rw [sizRCa, List.size_toArray, caC_len]) (by rw [List.size_toArray, caC_len]; rfl) (by rw [← Array.all_toList]; exact caC_one _) hp (hd 18 (by simp) (by kernel_rfl)) hg⟩
        (by kernel_rfl) ?_ ?_
      · intro i hi a v hfr hdep hbel K hK
        have hi19 : i < 19 := hi
        obtain rfl | rfl | rfl | rfl | rfl | rfl | rfl | rfl | rfl | rfl | rfl | rfl | rfl | rfl | rfl | rfl | rfl | rfl | rfl : i = 0 ∨ i = 1 ∨ i = 2 ∨ i = 3 ∨ i = 4 ∨ i = 5 ∨ i = 6 ∨ i = 7 ∨ i = 8 ∨ i = 9 ∨ i = 10 ∨ i = 11 ∨ i = 12 ∨ i = 13 ∨ i = 14 ∨ i = 15 ∨ i = 16 ∨ i = 17 ∨ i = 18 := by omega
        · exact wpOp_val rfl rfl (exec_fC (.tmp 5) 0 0 (by simp) rfl cb 0 (hfr.off 5 (by simp))) (by simpa using hK v (Below.refl _ _))
        · exact wpOp_val rfl rfl (exec_ld1 3 ag3 (.tmp 18) rfl cb 0 _ (hdep 0 (by simp) (by kernel_rfl)) (by rw [cell_of (hbel.block _ hcb), cell_blk HN4.out, List.getElem?_toArray]; exact ca_cell x 0 _ rfl)) (by simpa using hK v (Below.refl _ _))
        · exact wpOp_val rfl rfl (exec_fC (.tmp 5) 1 1 (by simp) rfl cb 0 (hfr.off 5 (by simp))) (by simpa using hK v (Below.refl _ _))
        · exact wpOp_val rfl rfl (exec_ld1 3 ag3 (.tmp 20) rfl cb 1 _ (hdep 2 (by simp) (by kernel_rfl)) (by rw [cell_of (hbel.block _ hcb), cell_blk HN4.out, List.getElem?_toArray]; exact ca_cell x 1 _ rfl)) (by simpa using hK v (Below.refl _ _))
        · exact wpOp_val rfl rfl (exec_fC (.tmp 5) 2 2 (by simp) rfl cb 0 (hfr.off 5 (by simp))) (by simpa using hK v (Below.refl _ _))
        · exact wpOp_val rfl rfl (exec_ld1 3 ag3 (.tmp 22) rfl cb 2 _ (hdep 4 (by simp) (by kernel_rfl)) (by rw [cell_of (hbel.block _ hcb), cell_blk HN4.out, List.getElem?_toArray]; exact ca_cell x 2 _ rfl)) (by simpa using hK v (Below.refl _ _))
        · exact wpOp_val rfl rfl (exec_fC (.tmp 5) 3 3 (by simp) rfl cb 0 (hfr.off 5 (by simp))) (by simpa using hK v (Below.refl _ _))
        · exact wpOp_val rfl rfl (exec_ld1 3 ag3 (.tmp 24) rfl cb 3 _ (hdep 6 (by simp) (by kernel_rfl)) (by rw [cell_of (hbel.block _ hcb), cell_blk HN4.out, List.getElem?_toArray]; exact ca_cell x 3 _ rfl)) (by simpa using hK v (Below.refl _ _))
        · exact wpOp_val rfl rfl (exec_fC (.tmp 5) 4 4 (by simp) rfl cb 0 (hfr.off 5 (by simp))) (by simpa using hK v (Below.refl _ _))
        · exact wpOp_ldr rfl rfl 35 (.tmp 26) rfl cb 4 (opC x.op) _ Try.underlying35 rfl (by rw [sizOp, opC_len]) (hdep 8 (by simp) (by kernel_rfl)) (range_of_block (by have := ca_op (range_whole HN4.out); rwa [Nat.zero_add] at this) (hbel.block _ hcb)) (by simpa using hK v (Below.refl _ _))
        · exact wpOp_enter rfl rfl (exec_call1 rfl (enters_of Try.func18 (by kernel_rfl) rfl) (x := .tmp 27) (v := .agg (opC x.op).toArray) (hdep 9 (by simp) (by kernel_rfl)) v) (of25_any x.op v) hK
        · exact wpOp_val rfl rfl (exec_fC (.tmp 5) 6 35 (by simp) rfl cb 0 (hfr.off 5 (by simp))) (by simpa using hK v (Below.refl _ _))
        · exact wpOp_val rfl rfl (exec_ld1 37 ag37 (.tmp 29) rfl cb 35 _ (hdep 11 (by simp) (by kernel_rfl)) (by rw [cell_of (hbel.block _ hcb), cell_blk HN4.out, List.getElem?_toArray]; exact ca_at x)) (by simpa using hK v (Below.refl _ _))
        · exact wpOp_val rfl rfl (exec_fC (.tmp 5) 7 36 (by simp) rfl cb 0 (hfr.off 5 (by simp))) (by simpa using hK v (Below.refl _ _))
        · exact wpOp_val rfl rfl (exec_ld1 4 ag4 (.tmp 31) rfl cb 36 _ (hdep 13 (by simp) (by kernel_rfl)) (by rw [cell_of (hbel.block _ hcb), cell_blk HN4.out, List.getElem?_toArray]; exact ca_pub x)) (by simpa using hK v (Below.refl _ _))
        · exact wpOp_val rfl rfl (exec_fC (.tmp 5) 8 37 (by simp) rfl cb 0 (hfr.off 5 (by simp))) (by simpa using hK v (Below.refl _ _))
        · exact wpOp_ldr rfl rfl 40 (.tmp 33) rfl cb 37 (rpC x.rep) _ Try.underlying40 rfl (by rw [sizRp, rpC_len]) (hdep 15 (by simp) (by kernel_rfl)) (range_of_block (by have := ca_rp (range_whole HN4.out); rwa [Nat.zero_add] at this) (hbel.block _ hcb)) (by simpa using hK v (Below.refl _ _))
        · exact wpOp_enter rfl rfl (exec_call1 rfl (enters_of Try.func19 (by kernel_rfl) rfl) (x := .tmp 34) (v := .agg (rpC x.rep).toArray) (hdep 16 (by simp) (by kernel_rfl)) v) (told25_any x.rep v) hK
        · exact wpOp_val rfl rfl (exec_bdC rfl x (hdep 1 (by simp) (by kernel_rfl)) (hdep 3 (by simp) (by kernel_rfl)) (hdep 5 (by simp) (by kernel_rfl)) (hdep 7 (by simp) (by kernel_rfl)) (hdep 10 (by simp) (by kernel_rfl)) (hdep 12 (by simp) (by kernel_rfl)) (hdep 14 (by simp) (by kernel_rfl)) (hdep 17 (by simp) (by kernel_rfl))) (by simpa using hK v (Below.refl _ _))
      · intro W g hg0 hbel hg
        have HN5 := Lib.hid ((hbel.block _ hcb).trans HN4.out)
        have HO5 := Lib.hid (HO4.out.below hbel)
        have HB5 := Lib.hid (HB4.out.trans (hbel.mono HB4.out.size))
        have HR5 := Lib.hid hg
        have HRb : Hid (cb < g ∧ ∀ b, u3.ownBlock = some b → b ≠ g) := ⟨by omega, fun b hb => by have := (HO4.out.lt b hb).2; omega⟩
        have HGB : Hid (w.heap.size ≤ g) := Nat.le_trans HB4.out.size hg0
        clear hg hbel HO4 HB4 HN4 hg0
        simp only [puts, List.cons_append, List.nil_append, List.setIfInBounds_toArray, List.set_cons_zero, List.set_cons_succ]
        obtain ⟨ws, hwl, hws⟩ := HO.out x (by rw [HX.out]; exact List.getElem_mem _)
        have hx20 := HW.out x (by rw [HX.out]; exact List.getElem_mem _)
        have HWl := Lib.hid hwl
        have HWS := Lib.hid hws
        clear hwl hws
        go_wp2_with fail
        go_loopw [7] (fun vi wi => ∃ (m : Nat) (q' : Option Addr) (c' : Nat) (zs : List WrD), m ≤ x.n ∧ vi = .int .i64 m ∧ zs.length = m ∧ Hid (wi.heap[g]? = some (.cells (caC { x with q := q', n := m, c := c' }).toArray 51 (0, 0))) ∧ Hid (OwnE wrR 70 35 wi w.heap.size (.slice q' m c') zs) ∧ Hid (wi.heap[cb]? = some (.cells (caC x).toArray 42 (0, 0))) ∧ Hid (OwnE caC 51 51 wi w.heap.size u3 ys) ∧ Hid (Below w.heap.size w wi)) (fun vi _ => x.n - (intOf vi).toNat)
        case atStart => exact ⟨0, none, 0, [], Nat.zero_le _, rfl, rfl, HR5, OwnE.nil _ _, HN5, HO5, HB5⟩
        case round =>
          clear HR5 HN5 HO5 HB5
          obtain ⟨m, q', c', zs, hmn, rfl, hzl, HG, HOz, HNc, HOy, HBi⟩ := hrel
          have hcw : wr.cell? ⟨cb, 34, none⟩ = some (.slice x.q x.n x.c) := by rw [cell_blk HNc.out, List.getElem?_toArray]; exact ca_w x
          by_cases hm : m < x.n
          · have hmi : (m : Int) < x.n := by omega
            obtain ⟨wb, wo, hxq, hwb, hwr⟩ := HWS.out m (by rw [HWl.out]; exact hm)
            obtain ⟨y, hy⟩ : ∃ y, y = ws[m]'(by rw [HWl.out]; exact hm) := ⟨_, rfl⟩
            rw [← hy] at hwr
            clear hy
            have HWr : Hid (∀ v, Below w.heap.size w v → v.rangeAt wb (wo + m * 35) (wrC y)) := fun v hb => range_of_block hwr (hb.block _ hwb)
            clear hwr
            go_upto_region 10 with fail
            clear hcw
            have hgl := lt_heap HG.out
            have hcl := lt_heap HNc.out
            refine wp_region_chainG (C10 w wr w.heap.size g x (.slice q' m c') zs y) (fun gv => [some (44, .pointer (some ⟨g, 34, none⟩)), some (45, .slice q' m c'), some (46, .pointer (some ⟨cb, 34, none⟩)), some (47, .slice x.q x.n x.c), some (48, .int .i64 (m : Int)), some (49, .pointer (some ⟨wb, wo + m * 35, none⟩)), some (50, .agg (wrC y).toArray), some (51, .agg (wrR y).toArray), some (52, gv.1), some (53, gv.2), some (54, .pointer (some ⟨g, 34, none⟩)), none]) [7, 8, 9, 11] (undef, undef)
              (by kernel_rfl) (by kernel_rfl) (fun _ => rfl) (fun _ _ => rfl) (by simp) (by simp) (by decide) (by decide) (fun r hr => by have h2 : r + 1 < 4 := hr; obtain rfl | rfl | rfl : r = 0 ∨ r = 1 ∨ r = 2 := (by omega) <;> (show _ = true; kernel_rfl))
              (Below.refl _ _).drew ?_ ?_ ?_
            · intro i hi hE gv a v r hfr hdep hC hkk K hK
              have hi12 : i < 12 := hi
              have hbb : Below w.heap.size w v ∨ ¬ r ≤ 3 := by
                rcases (by omega : r = 0 ∨ r = 1 ∨ r = 2 ∨ r = 3 ∨ ¬ r ≤ 3) with rfl | rfl | rfl | rfl | h
                · exact Or.inl (HBi.out.trans (Below.mono hC HBi.out.size))
                · exact Or.inl (HBi.out.trans (Below.mono hC HBi.out.size))
                · obtain ⟨_, _, h, _⟩ := hC
                  exact Or.inl (HBi.out.trans (Below.mono h HBi.out.size))
                · exact Or.inl hC.1
                · exact Or.inr h
              have hkeep : r ≤ 3 → ∀ k, k < wr.heap.size → some k ≠ (Value.slice q' m c').ownBlock → v.heap[k]? = wr.heap[k]? := fun hr k hk hne => by
                rcases (by omega : r = 0 ∨ r = 1 ∨ r = 2 ∨ r = 3) with rfl | rfl | rfl | rfl
                · exact Below.block hC k hk
                · exact Below.block hC k hk
                · obtain ⟨_, _, h, _⟩ := hC
                  exact h.block k hk
                · exact hC.2.2 k hk hne
              have ngo : some g ≠ (Value.slice q' m c').ownBlock := fun e => by
                obtain ⟨cs, hc⟩ := own_type HOz.out e.symm
                rw [HG.out] at hc
                simp only [Option.some.injEq, Obj.cells.injEq] at hc
                exact absurd hc.2.1 (by decide)
              have nco : some cb ≠ (Value.slice q' m c').ownBlock := fun e => by
                obtain ⟨cs, hc⟩ := own_type HOz.out e.symm
                rw [HNc.out] at hc
                simp only [Option.some.injEq, Obj.cells.injEq] at hc
                exact absurd hc.2.1 (by decide)
              obtain rfl | rfl | rfl | rfl | rfl | rfl | rfl | rfl | rfl | rfl | rfl | rfl : i = 0 ∨ i = 1 ∨ i = 2 ∨ i = 3 ∨ i = 4 ∨ i = 5 ∨ i = 6 ∨ i = 7 ∨ i = 8 ∨ i = 9 ∨ i = 10 ∨ i = 11 := by omega
              · exact wpOp_val rfl rfl (exec_fR5 (.tmp 6) rfl g 0 (hfr.off 6 (by simp))) hK
              · have hr3 : r ≤ 3 := by
                  rcases Nat.lt_or_ge 3 r with h | h
                  · exact absurd (hkk 3 (by simp) h) (by decide +kernel)
                  · exact h
                exact wpOp_val rfl rfl (exec_ld1 47 agRW (.tmp 44) rfl g 34 (.slice q' m c') (hdep 0 (by kernel_rfl) 44 _ rfl) (by rw [cell_of (hkeep hr3 g hgl ngo), cell_blk HG.out, List.getElem?_toArray]; exact ca_w { x with q := q', n := m, c := c' })) hK
              · exact wpOp_val rfl rfl (exec_fC (.tmp 5) 5 34 (by simp) rfl cb 0 (hfr.off 5 (by simp))) hK
              · have hr3 : r ≤ 3 := by
                  rcases Nat.lt_or_ge 3 r with h | h
                  · exact absurd (hkk 3 (by simp) h) (by decide +kernel)
                  · exact h
                exact wpOp_val rfl rfl (exec_ld1 36 ag36 (.tmp 46) rfl cb 34 (.slice x.q x.n x.c) (hdep 2 (by kernel_rfl) 46 _ rfl) (by rw [cell_of (hkeep hr3 cb hcl nco), cell_blk HNc.out, List.getElem?_toArray]; exact ca_w x)) hK
              · exact wpOp_mv rfl rfl (.tmp 7) rfl _ (hfr.off 7 (by simp)) hK
              · exact wpOp_ix rfl rfl 36 78 (.tmp 47) (.tmp 48) rfl Try.underlying36 35 sizWr wb wo x.n x.c m (by rw [← hxq]; exact hdep 3 (by kernel_rfl) 47 _ rfl) (hdep 4 (by kernel_rfl) 48 _ rfl) hm hK
              · have hr3 : r ≤ 3 := by
                  rcases Nat.lt_or_ge 3 r with h | h
                  · exact absurd (hkk 3 (by simp) h) (by decide +kernel)
                  · exact h
                exact wpOp_ldr rfl rfl 78 (.tmp 49) rfl wb (wo + m * 35) (wrC y) _ Try.underlying78 rfl (by rw [sizWr, wrC_len]) (hdep 5 (by kernel_rfl) 49 _ rfl) (HWr.out v (hbb.resolve_right fun h => h hr3)) hK
              · exact absurd (by simp) hE
              · exact absurd (by simp) hE
              · exact absurd (by simp) hE
              · exact wpOp_val rfl rfl (exec_fR5 (.tmp 6) rfl g 0 (hfr.off 6 (by simp))) hK
              · exact absurd (by simp) hE
            · intro r hr gv a v hfr hdep hC K hK
              have hr4 : r < 4 := hr
              have hzz : zs.length ≤ 20 := by omega
              obtain rfl | rfl | rfl | rfl : r = 0 ∨ r = 1 ∨ r = 2 ∨ r = 3 := by omega
              · refine wpOp_call rfl rfl (exec_calls rfl (enters_of Try.func20 (by kernel_rfl) rfl) (vs := #[.agg (wrC y).toArray]) (by simp [show a.eval (.tmp 50) = _ from hdep 6 (by kernel_rfl) 50 _ rfl]) v) (of14_any y v) ?_
                rintro e w' ⟨rfl, hb⟩
                exact ⟨_, rfl, hK gv w' (fun _ _ _ => rfl) (Below.trans hC (hb.mono (Below.size hC)))⟩
              · refine wpOp_wp rfl rfl (op_bs1 47 70 136 (.agg (wrR wr0).toArray) Try.underlying47 infoRW wrR0_sz (by omega) (by omega) wrR_len (.tmp 51) rfl y (hdep 7 (by kernel_rfl) 51 _ rfl) (hK (.slice (some ⟨v.heap.size, 0, none⟩) 1 1, gv.2) _ (fun i hi _ => ?_) ⟨v.heap.size, rfl, Below.alloc hC (Below.size hC) _, heap_alloc_new _ _⟩))
                by_cases h : i < 12
                · have h2 : i = 0 ∨ i = 1 ∨ i = 2 ∨ i = 3 ∨ i = 4 ∨ i = 5 ∨ i = 6 ∨ i = 7 ∨ i = 8 ∨ i = 9 ∨ i = 10 ∨ i = 11 := by omega
                  rcases h2 with rfl | rfl | rfl | rfl | rfl | rfl | rfl | rfl | rfl | rfl | rfl | rfl <;> first | rfl | exact absurd rfl hi
                · rw [List.getElem?_eq_none (by simp; omega), List.getElem?_eq_none (by simp; omega)]
              · obtain ⟨b2, hg1, hb, h2⟩ := hC
                refine wpOp_wp rfl rfl (op_app 47 70 136 (.agg (wrR wr0).toArray) Try.underlying47 infoRW wrR0_sz (by omega) wrR_len wrR_one' (.tmp 45) (.tmp 52) rfl w.heap.size (.slice q' m c') zs (hdep 1 (by kernel_rfl) 45 _ rfl) (HOz.out.below hb) (some ⟨b2, 0, none⟩) 1 1 [y] ((hdep 8 (by kernel_rfl) 52 _ rfl).trans hg1) rfl (fun i hi => ?_) (fun e => by cases e) (by omega) (by unfold maxLen; omega) (Nat.le_trans HBi.out.size hb.size) (fun v' w' hv hgr _ => hK (gv.1, v') w' (fun i hi _ => ?_) ⟨?_, hv, fun k hk hne => ?_⟩))
                · obtain rfl : i = 0 := by simp at hi; exact hi
                  exact ⟨b2, 0, rfl, lt_heap h2, by simpa using range_whole h2⟩
                · by_cases h : i < 12
                  · have h2 : i = 0 ∨ i = 1 ∨ i = 2 ∨ i = 3 ∨ i = 4 ∨ i = 5 ∨ i = 6 ∨ i = 7 ∨ i = 8 ∨ i = 9 ∨ i = 10 ∨ i = 11 := by omega
                    rcases h2 with rfl | rfl | rfl | rfl | rfl | rfl | rfl | rfl | rfl | rfl | rfl | rfl <;> first | rfl | exact absurd rfl hi
                  · rw [List.getElem?_eq_none (by simp; omega), List.getElem?_eq_none (by simp; omega)]
                · exact HBi.out.trans ((hb.mono HBi.out.size).trans (grown_below hgr (fun b hb' => (HOz.out.lt b hb').1) (Nat.le_trans HBi.out.size hb.size)))
                · exact (hgr.block k (Nat.lt_of_lt_of_le hk hb.size) hne).trans (hb.block k hk)
              · obtain ⟨hb, ho, hk2⟩ := hC
                obtain ⟨q2, c2, hg2⟩ := ho.slice
                have ngo : some g ≠ (Value.slice q' m c').ownBlock := fun e => by
                  obtain ⟨cs, hc⟩ := own_type HOz.out e.symm
                  rw [HG.out] at hc
                  simp only [Option.some.injEq, Obj.cells.injEq] at hc
                  exact absurd hc.2.1 (by decide)
                have hg4 := (hk2 g hgl ngo).trans HG.out
                refine wpOp_skip rfl rfl (exec_st1 47 sizRW1 (.tmp 54) (.tmp 53) rfl g 34 (.slice q2 (zs ++ [y]).length c2) (hdep 10 (by kernel_rfl) 54 _ rfl) ((hdep 9 (by kernel_rfl) 53 _ rfl).trans hg2) rfl (caC { x with q := q', n := m, c := c' }) _ hg4 (by rw [caC_len]; omega)) (hK gv _ (fun _ _ _ => rfl) ?_)
                rw [caC_w]
                have hgB : w.heap.size ≤ g := HGB.out
                refine ⟨q2, c2, hg2, hb.trans (setRow_below (Below.refl _ _) hgB _), ho.block fun k hk => setRow_other _ _ _ _ fun e => ?_, setRow_at hg4, fun k hk h1 h2 => (setRow_other _ _ _ _ h2).trans (hk2 k hk h1)⟩
                subst e
                obtain ⟨cs, hc⟩ := own_type ho hk
                rw [hg4] at hc
                simp only [Option.some.injEq, Obj.cells.injEq] at hc
                exact absurd hc.2.1 (by decide)
            · intro gv v hC
              obtain ⟨q2, c2, hg2, hb, ho, hg4, hk2⟩ := hC
              rw [hg2] at ho
              have hzl1 : (zs ++ [y]).length = m + 1 := by simp [hzl]
              rw [hzl1] at ho hg4
              have HG' := Lib.hid hg4
              have HOz' := Lib.hid ho
              have HB' := Lib.hid hb
              have nco : some cb ≠ (Value.slice q' m c').ownBlock := fun e => by
                obtain ⟨cs, hc⟩ := own_type HOz.out e.symm
                rw [HNc.out] at hc
                simp only [Option.some.injEq, Obj.cells.injEq] at hc
                exact absurd hc.2.1 (by decide)
              have HNc' := Lib.hid ((hk2 cb hcl nco (by have := HRb.out.1; omega)).trans HNc.out)
              have HOy' := Lib.hid (HOy.out.block (w' := v) fun k hk => hk2 k (HOy.out.lt k hk).2 (fun e => by
                obtain ⟨cs, hc⟩ := own_type HOz.out e.symm
                obtain ⟨cs2, hc2⟩ := own_type HOy.out hk
                rw [hc2] at hc
                simp only [Option.some.injEq, Obj.cells.injEq] at hc
                exact absurd hc.2.1 (by decide)) (HRb.out.2 k hk))
              clear hb ho hg4 hk2 hg2
              simp only [puts, List.filterMap_cons, List.filterMap_nil, _root_.id, List.setIfInBounds_toArray, List.set_cons_zero, List.set_cons_succ]
              go_wp2_with fail
              go_roundw
              case rel => exact ⟨m + 1, q2, c2, zs ++ [y], by omega, by go_num, by simp [hzl], HG', HOz', HNc', HOy', HB'⟩
              case measure => simp [intOf]; omega
          · have hmi : ¬ (m : Int) < x.n := by omega
            obtain rfl : m = x.n := by omega
            have hyl30 : ys.length ≤ 30 := by omega
            obtain ⟨x', hx'⟩ : ∃ x' : Ca, x' = { x with q := q', n := x.n, c := c' } := ⟨_, rfl⟩
            rw [← hx'] at HG
            have HR6 := Lib.hid (range_whole HG.out)
            have HC6 : Hid ((ys ++ [x']).map core = (xs.take (k + 1)).map core) := by
              show _ = _
              rw [List.take_succ_eq_append_getElem (by rw [HN.out]; exact h1), List.map_append, List.map_append, HCo.out, ← HX.out, hx']
              rfl
            clear hx'
            go_wp2_with (first | ((with_reducible refine gate_ld 51 (.tmp 6) rfl ?_); refine wl_ldr rfl 51 _ rfl g 0 (caC x') _ Try.underlying51 rfl (by rw [sizRCa, caC_len]) rfl HR6.out ?_) | (refine wl_bs1 (k := 51) 24 51 224 (.agg (caC ca0).toArray) Try.underlying24 infoRCa ca0_sz (by omega) (by omega) caC_len rfl (.tmp 56) rfl x' rfl ?_) | (at_builtin; refine wl_app1 (k := 51) 24 51 224 (.agg (caC ca0).toArray) Try.underlying24 infoRCa ca0_sz (by omega) caC_len caC_one' rfl (.tmp 55) (.tmp 57) rfl w.heap.size u3 ys rfl (HOy.out.below (below_alloc1 _ _)) _ _ x' rfl (range_whole (heap_alloc_new _ _)) (by omega) (by unfold maxLen; omega) (HBi.out.alloc HBi.out.size _).size (fun v' w' hv hg => ?_); have HV := Lib.hid hv; have HGr := Lib.hid (grown_below hg (fun b hb => (HOy.out.lt b hb).1) (HBi.out.alloc HBi.out.size _).size); clear hv hg))
            go_roundw
            case rel => exact ⟨k + 1, ys ++ [x'], by omega, by go_num, by simp [hyl], HC6, HV, (HBi.out.alloc HBi.out.size _).trans HGr.out⟩
            case measure => simp [intOf]; omega
    · have h1i : ¬ (k : Int) < n := by omega
      go_wp2_with fail
      go_ret
      exact ⟨_, rfl, ys, by rw [HCo.out, List.take_of_length_le (by rw [HN.out]; omega)], HOw.out, HB.out⟩
end Go.Proofs.Ythimpgnagjgmdaa
