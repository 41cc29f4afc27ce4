/- line. -/
import Derived.Test.YtpnmficlebnajaaF4
import Derived.Test.YtpnmficlebnajaaGX
namespace Go.Proofs.Ytpnmficlebnajaa
open Go.RowKit

theorem list12 (l : List UInt8) (h : l.length = 12) : ∃ a b c d e f g i j k m n, l = [a, b, c, d, e, f, g, i, j, k, m, n] :=
  match l, h with
  | [a, b, c, d, e, f, g, i, j, k, m, n], _ => ⟨a, b, c, d, e, f, g, i, j, k, m, n, rfl⟩
theorem builtE (x : Ent) : Try.prog.built 44 [(0, .agg (bC x.n)), (1, .string x.t)] = some (entC x).toArray := by
  obtain ⟨n, hn, t⟩ := x
  obtain ⟨a, b, c, d, e, f, g, i, j, k, m, n, rfl⟩ := list12 n hn
  kernel_rfl
theorem run_buildE (x : Ent) (w : World) : (Instr.build 44 #[(0, .agg (bC x.n)), (1, .string x.t)]).run Try.prog w = .ok (.agg (entC x).toArray) w := run_build w _ _ _ (builtE x)
def entL (n : List UInt8) (t : ByteArray) : List Value := (bC n).toList ++ [.string t]
theorem entC_eq (x : Ent) : entC x = entL x.n x.t := rfl
theorem run_buildL (n : List UInt8) (h : n.length = 12) (t : ByteArray) (w : World) : (Instr.build 44 #[(0, .agg (bC n)), (1, .string t)]).run Try.prog w = .ok (.agg (entL n t).toArray) w := run_buildE ⟨n, h, t⟩ w
theorem run_buildE0 (w : World) : (Instr.build 44 #[]).run Try.prog w = .ok (.agg (entC ent0).toArray) w := run_build w _ _ _ (by kernel_rfl)
/-- A store of a whole entry. -/
theorem st_E {ops : Array Oper} {rest : List Oper} {o : Oper} {a : Act} {w : World} {Q : Exit → Act → World → Prop} (hgd : o.guard = none) (x y : Operand) (ho : o.op = .store 44 x y) (g : Nat) (e old : Ent) (T' : TypeId)
    (hx : a.eval x = .pointer (some ⟨g, 0, none⟩)) (hy : a.eval y = .agg (entC e).toArray) (hg : w.heap[g]? = some (.cells (entC old).toArray T'))
    (h : wpList Try.prog ops Q rest (a.put o.dst undef) (w.setRow g (entC e).toArray)) : wpList Try.prog ops Q (o :: rest) a w :=
  wl_str hgd _ x y ho g _ (entC old).toArray T' (sizE'' e) (by rw [entC_sz, entC_sz]) (entC_all e) hx hy hg h
theorem lineR_bad {l : List UInt8} {e : Nat} (h : lineE l = e) (he : e ≠ 0) : entC (lineR l) = entC ent0 := by rw [lineR, if_neg (by rw [h]; exact he)]; rfl
theorem lineR_ok {l : List UInt8} (h : lineE l = 0) : lineR l = lineX l := by rw [lineR, if_pos h]

set_option maxRecDepth 100000 in
set_option maxHeartbeats 2000000 in
theorem line_any (s : ByteArray) (w : World) (hs : s.size ≤ 1000000) :
    Calls Try.prog 37 #[.string s] w fun e w' => e = .returned (.tuple #[.agg (entC (lineR s.data.toList)).toArray, .int .i64 (lineE s.data.toList : Nat)]) ∧ Below w.heap.size w w' := by
  have HI : Hid (∀ W, Calls Try.prog 36 #[.string s, .int .u8 61] W fun e w' => e = .returned (.int .i64 (Lib.indexByte s.data.toList 61)) ∧ w' = W) := fun W => Try.strings_IndexByte s 61 W
  have hb0 := run_buildE0
  have HG0 : Hid ((w.alloc (.cells (entC ent0).toArray 44)).heap[w.heap.size]? = some (.cells (entC ent0).toArray 44)) := heap_alloc_new _ _
  have HB0 : Hid (Below w.heap.size w (w.alloc (.cells (entC ent0).toArray 44))) := below_alloc1 _ _
  by_cases h1 : Lib.indexByte s.data.toList 61 < 0
  · have HE : Hid (lineE s.data.toList = 3) := by show lineE _ = 3; rw [lineE, if_pos h1]
    have HR := Lib.hid (lineR_bad HE.out (by omega))
    generalize Lib.indexByte s.data.toList 61 = p at *
    rw [HE.out, HR.out]
    go_enter Try.func37, Try.ntmps37
    go_wp2_with (first
      | (go_at_call 36; (refine (HI.out _).mono ?_); rintro e w1 ⟨rfl, rfl⟩)
      | ((with_reducible refine gate_st 44 _ _ rfl ?_); refine st_E rfl _ _ rfl w.heap.size ent0 ent0 _ rfl rfl HG0.out ?_))
    refine bodyPost_ret (res_rowc_tmp rfl _ _ w.heap.size _ _ rfl (setRow_at HG0.out) Try.underlying44 rfl (sizE'' ent0)) rfl ⟨rfl, setRow_below HB0.out (Nat.le_refl _) _⟩
  obtain ⟨k, k1, k2, k3, k4, k5⟩ := idx_some h1
  have hat : lineAt s.data.toList = k := k2
  have hks : k < s.size := by simpa using k3
  have hks' : (k : Int) < s.size := by omega
  have HEX : Hid (lineE s.data.toList = if isName (s.data.toList.take k) = false then 15 else if unOk (s.data.toList.drop (k + 1)) = false then 3 else 0) := by
    show lineE _ = _
    rw [lineE, if_neg h1, hat]
  have HX : Hid (lineX s.data.toList = ⟨parseN (s.data.toList.take k), parseN_length _, unT (s.data.toList.drop (k + 1))⟩) := by
    show lineX _ = _
    simp only [lineX, hat]
  rw [k1] at HI
  have e1 : (s.extract 0 k).data.toList = s.data.toList.take k := by rw [Lib.extract_data, List.drop_zero, Nat.sub_zero]
  have e2 : (s.extract (k + 1) s.size).data.toList = s.data.toList.drop (k + 1) := by rw [Lib.extract_data, List.take_of_length_le (by simp)]
  have HP : Hid (∀ W, Calls Try.prog 50 #[.string (s.extract 0 k)] W fun e w' => e = .returned (.tuple #[.agg (bC (parseN (s.data.toList.take k))), .int .i64 (parseE (s.data.toList.take k))]) ∧ Below W.heap.size W w') := fun W => by
    have := parse_any (s.extract 0 k) W (by rw [ByteArray.size_extract]; unfold maxLen; omega)
    rwa [e1] at this
  have HU : Hid (∀ W, Calls Try.prog 51 #[.string (s.extract (k + 1) s.size)] W fun e w' => e = .returned (.tuple #[.string (unT (s.data.toList.drop (k + 1))), .bool (unOk (s.data.toList.drop (k + 1)))]) ∧ Below W.heap.size W w') := fun W => by
    have := unescape_any (s.extract (k + 1) s.size) W (by rw [ByteArray.size_extract]; omega)
    rwa [e2] at this
  clear k1 k2 k3 k4 k5 h1 hat e1 e2
  have h12 := parseN_length (s.data.toList.take k)
  by_cases hn : isName (s.data.toList.take k) = false
  · have HE : Hid (lineE s.data.toList = 15) := by show lineE _ = 15; rw [HEX.out, if_pos hn]
    have HR := Lib.hid (lineR_bad HE.out (by omega))
    have HE15 : parseE (s.data.toList.take k) = 15 := by rw [parseE, hn]; rfl
    rw [HE15] at HP
    rw [HE.out, HR.out]
    have H12 := Lib.hid h12
    clear HEX HX HU HE15 hn h12
    generalize parseN (s.data.toList.take k) = nm at *
    go_enter Try.func37, Try.ntmps37
    go_wp2_with (first
      | (go_at_call 36; (refine (HI.out _).mono ?_); rintro e w1 ⟨rfl, rfl⟩)
      | (go_at_call 50; (refine (HP.out _).mono ?_); rintro e w1 ⟨rfl, hb1⟩; have HB1 : Hid (Below w.heap.size w w1) := HB0.out.trans (hb1.mono (by simp)); have HG1 : Hid (w1.heap[w.heap.size]? = some (.cells (entC ent0).toArray 44)) := (hb1.block _ (by simp)).trans HG0.out; clear hb1)
      | ((with_reducible refine gate_st 40 _ _ rfl ?_); refine st23n rfl _ _ rfl nm rfl rfl H12.out ?_)
      | ((with_reducible refine gate_st 44 _ _ rfl ?_); refine st_E rfl _ _ rfl w.heap.size ent0 ent0 _ rfl rfl ((heap_alloc_old _ _ (lt_heap HG1.out)).trans HG1.out) ?_))
    refine bodyPost_ret (res_rowc_tmp rfl _ _ w.heap.size _ _ rfl (setRow_at ((heap_alloc_old _ _ (lt_heap HG1.out)).trans HG1.out)) Try.underlying44 rfl (sizE'' ent0)) rfl ⟨rfl, setRow_below (HB1.out.alloc HB1.out.size _) (Nat.le_refl _) _⟩
  rw [if_neg hn] at HEX
  have HE0 : parseE (s.data.toList.take k) = 0 := by rw [parseE, if_pos (by simpa using hn)]
  rw [HE0] at HP
  have H12 := Lib.hid h12
  by_cases hu : unOk (s.data.toList.drop (k + 1)) = false
  · have HE : Hid (lineE s.data.toList = 3) := by show lineE _ = 3; rw [HEX.out, if_pos hu]
    have HR := Lib.hid (lineR_bad HE.out (by omega))
    rw [hu] at HU
    rw [HE.out, HR.out]
    clear HEX HX HE0 hn h12 hu
    generalize parseN (s.data.toList.take k) = nm at *
    go_enter Try.func37, Try.ntmps37
    go_wp2_with (first
      | (go_at_call 36; (refine (HI.out _).mono ?_); rintro e w1 ⟨rfl, rfl⟩)
      | (go_at_call 50; (refine (HP.out _).mono ?_); rintro e w1 ⟨rfl, hb1⟩; have HB1 : Hid (Below w.heap.size w w1) := HB0.out.trans (hb1.mono (by simp)); have HG1 : Hid (w1.heap[w.heap.size]? = some (.cells (entC ent0).toArray 44)) := (hb1.block _ (by simp)).trans HG0.out; clear hb1)
      | ((with_reducible refine gate_st 40 _ _ rfl ?_); refine st23n rfl _ _ rfl nm rfl rfl H12.out ?_)
      | (go_at_call 51; (refine (HU.out _).mono ?_); rintro e w2 ⟨rfl, hb2⟩; have HB2 : Hid (Below w.heap.size w w2) := (HB1.out.alloc HB1.out.size _).trans (hb2.mono (by have := HB1.out.size; simp; omega)); have HG2 : Hid (w2.heap[w.heap.size]? = some (.cells (entC ent0).toArray 44)) := (hb2.block _ (by have := lt_heap HG1.out; simp; omega)).trans ((heap_alloc_old _ _ (lt_heap HG1.out)).trans HG1.out); clear hb2)
      | ((with_reducible refine gate_st 44 _ _ rfl ?_); refine st_E rfl _ _ rfl w.heap.size ent0 ent0 _ rfl rfl HG2.out ?_))
    refine bodyPost_ret (res_rowc_tmp rfl _ _ w.heap.size _ _ rfl (setRow_at HG2.out) Try.underlying44 rfl (sizE'' ent0)) rfl ⟨rfl, setRow_below HB2.out (Nat.le_refl _) _⟩
  · have HE : Hid (lineE s.data.toList = 0) := by show lineE _ = 0; rw [HEX.out, if_neg hu]
    have HR := Lib.hid (lineR_ok HE.out)
    have hu' : unOk (s.data.toList.drop (k + 1)) = true := by simpa using hu
    rw [hu'] at HU
    rw [HE.out, HR.out, HX.out]
    rw [entC_eq]
    dsimp only
    clear HEX HX HE0 hn hu hu' HE HR h12
    generalize parseN (s.data.toList.take k) = nm at *
    generalize unT (s.data.toList.drop (k + 1)) = tx at *
    go_enter Try.func37, Try.ntmps37
    go_wp2_with (first
      | (go_at_call 36; (refine (HI.out _).mono ?_); rintro e w1 ⟨rfl, rfl⟩)
      | (go_at_call 50; (refine (HP.out _).mono ?_); rintro e w1 ⟨rfl, hb1⟩; have HB1 : Hid (Below w.heap.size w w1) := HB0.out.trans (hb1.mono (by simp)); have HG1 : Hid (w1.heap[w.heap.size]? = some (.cells (entC ent0).toArray 44)) := (hb1.block _ (by simp)).trans HG0.out; clear hb1)
      | ((with_reducible refine gate_st 40 _ _ rfl ?_); refine st23n rfl _ _ rfl nm rfl rfl H12.out ?_)
      | (go_at_call 51; (refine (HU.out _).mono ?_); rintro e w2 ⟨rfl, hb2⟩; have HB2 : Hid (Below w.heap.size w w2) := (HB1.out.alloc HB1.out.size _).trans (hb2.mono (by have := HB1.out.size; simp; omega)); have HG2 : Hid (w2.heap[w.heap.size]? = some (.cells (entC ent0).toArray 44)) := (hb2.block _ (by have := lt_heap HG1.out; simp; omega)).trans ((heap_alloc_old _ _ (lt_heap HG1.out)).trans HG1.out); have HG3 : Hid (w2.heap[w1.heap.size]? = some (.cells (bC nm) 40)) := (hb2.block _ (by simp)).trans (heap_alloc_new _ _); clear hb2)
      | (with_reducible refine ld23 rfl _ rfl w1.heap.size rfl nm H12.out (0, 0) HG3.out ?_)
      | ((with_reducible refine gate_bd 44 #[(0, .tmp 36), (1, .tmp 37)] rfl ?_); refine wl_bd rfl 44 [(0, .tmp 36), (1, .tmp 37)] rfl _ rfl (entL nm tx).toArray (builtE ⟨nm, H12.out, tx⟩) ?_)
      | ((with_reducible refine gate_st 44 _ _ rfl ?_); refine st_E rfl _ _ rfl w.heap.size ⟨nm, H12.out, tx⟩ ent0 _ rfl rfl HG2.out ?_))
    refine bodyPost_ret (res_rowc_tmp rfl _ _ w.heap.size _ _ rfl (setRow_at HG2.out) Try.underlying44 rfl (sizE'' ⟨nm, H12.out, tx⟩)) rfl ⟨rfl, setRow_below HB2.out (Nat.le_refl _) _⟩
end Go.Proofs.Ytpnmficlebnajaa
