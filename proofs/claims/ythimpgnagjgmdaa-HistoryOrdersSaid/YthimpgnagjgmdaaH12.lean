/- The chapter's example. -/
import Derived.Test.YthimpgnagjgmdaaH11
namespace Go.Proofs.Ythimpgnagjgmdaa
open Go.RowKit

def kk0 : Ca := { ca0 with at_ := 3, po := 1 }
def kk1 : Ca := { ca0 with at_ := 3, po := 2, pub := true }
def kk2 : Ca := { ca0 with at_ := 2, po := 9 }
def kk3 : Ca := { ca0 with at_ := 1, po := -1 }
theorem builtK0 : Try.prog.built 42 [(6, .int .u64 3), (3, .int .i64 1)] = some (caC kk0).toArray := by kernel_rfl
theorem builtK1 : Try.prog.built 42 [(6, .int .u64 3), (3, .int .i64 2), (7, .bool true)] = some (caC kk1).toArray := by kernel_rfl
theorem builtK2 : Try.prog.built 42 [(6, .int .u64 2), (3, .int .i64 9)] = some (caC kk2).toArray := by kernel_rfl
theorem builtK3 : Try.prog.built 42 [(6, .int .u64 1), (3, .int .i64 (-1))] = some (caC kk3).toArray := by kernel_rfl
def kks : List Ca := [kk0, kk1, kk2, kk3]
theorem idx_kks : idx kks 4 = [0, 1, 2] := by kernel_rfl
theorem ord_kks : ordS kks = [2, 1, 0] := by kernel_rfl
theorem wl_bs4 {P : Program} {α : Type} {enc : α → List Value} {k : Nat} {ops : Array Oper} {rest : List Oper} {o : Oper} {a : Act} {w : World} {Q : Exit → Act → World → Prop} (T E : TypeId) (bytes : Nat) (z : Value) (hT : P.underlying T = some (.slice E)) (hinf : (P.info? E).map (fun i => (i.zero, i.size, i.bytes)) = some (some z, k, bytes)) (hk0 : 0 < k) (hk2 : k ≤ 1000000) (hk : ∀ x, (enc x).length = k)
    (hw : Region.wanted o (yielded ops a.tmps) = true) (x0 x1 x2 x3 : Operand) (ho : o.op = .buildSlice T 4 #[(0, x0), (1, x1), (2, x2), (3, x3)]) (y0 y1 y2 y3 : α) (h0 : a.eval x0 = .agg (enc y0).toArray) (h1 : a.eval x1 = .agg (enc y1).toArray) (h2 : a.eval x2 = .agg (enc y2).toArray) (h3 : a.eval x3 = .agg (enc y3).toArray)
    (h : wpList P ops Q rest (a.put o.dst (.slice (some ⟨w.heap.size, 0, none⟩) 4 4)) (w.alloc (.cells ([y0, y1, y2, y3].flatMap enc).toArray E))) : wpList P ops Q (o :: rest) a w :=
  wpList_step fun _ hK => by
    rw [if_pos hw]
    obtain ⟨ie, hie, hz, hsz, hby⟩ := info_parts hinf
    have hb := run_buildSlice (P := P) w T E 4 #[(0, .agg (enc y0).toArray), (1, .agg (enc y1).toArray), (2, .agg (enc y2).toArray), (3, .agg (enc y3).toArray)] ([y0, y1, y2, y3].flatMap enc).toArray ie z hT hie hz (by rw [hsz]; omega) (by rw [hsz]; omega) (by
      rw [hsz]
      have := Great.fill_whole (s := k) hk0 [.agg (enc y0).toArray, .agg (enc y1).toArray, .agg (enc y2).toArray, .agg (enc y3).toArray] ((Array.range (4 * k)).map (z.cells[· % z.cells.size]!)) (fun v hv => by
        simp at hv
        rcases hv with rfl | rfl | rfl | rfl
        · show (enc y0).toArray.size = k; simp [hk]
        · show (enc y1).toArray.size = k; simp [hk]
        · show (enc y2).toArray.size = k; simp [hk]
        · show (enc y3).toArray.size = k; simp [hk]) (by simp)
      simp only [List.zipIdx_cons, List.zipIdx_nil, List.map_cons, List.map_nil] at this
      rw [this]
      simp [Value.cells])
    unfold Oper.wp execOp
    have hp : (#[(0, x0), (1, x1), (2, x2), (3, x3)].map fun (p : Nat × Operand) => (p.1, a.eval p.2)) = #[(0, Value.agg (enc y0).toArray), (1, Value.agg (enc y1).toArray), (2, Value.agg (enc y2).toArray), (3, Value.agg (enc y3).toArray)] := by simp [h0, h1, h2, h3]
    simp only [ho, Sem.run_bind, hp, hb, Result.andThen_ok]
    exact hK _ _ h
set_option maxRecDepth 100000 in
set_option maxHeartbeats 8000000 in
theorem known30_any (w : World) : Calls Try.prog 9 #[] w fun e w' => e = .returned (.bool true) ∧ Below w.heap.size w w' := by
  obtain ⟨W1, hW1⟩ : ∃ W1, W1 = w.alloc (.cells (kks.flatMap caC).toArray 42) := ⟨_, rfl⟩
  have HB1 : Hid (Below w.heap.size w W1) := by rw [hW1]; exact below_alloc1 _ _
  have HN1 : Hid (W1.heap[w.heap.size]? = some (.cells (kks.flatMap caC).toArray 42 (0, 0))) := by rw [hW1]; exact heap_alloc_new _ _
  have KO := Lib.hid (orderS_any (some ⟨w.heap.size, 0, none⟩) 4 4 kks W1 rfl (by omega) (by rw [idx_kks]; simp) (fun i hi => ⟨w.heap.size, 0, rfl, lt_heap HN1.out, range_nth caC_len (range_whole HN1.out) i hi⟩))
  rw [idx_kks, ord_kks] at KO
  have HW := Lib.hid hW1
  clear hW1
  go_enter Try.func9, Try.ntmps9
  go_upto_region 2 with (first
    | ((with_reducible refine gate_bd 42 _ rfl ?_); refine wl_bd rfl _ [(6, .const (.int .u64 3)), (3, .const (.int .i64 1))] rfl [(6, .int .u64 3), (3, .int .i64 1)] rfl (caC kk0).toArray builtK0 ?_)
    | ((with_reducible refine gate_bd 42 _ rfl ?_); refine wl_bd rfl _ [(6, .const (.int .u64 3)), (3, .const (.int .i64 2)), (7, .const (.bool true))] rfl [(6, .int .u64 3), (3, .int .i64 2), (7, .bool true)] rfl (caC kk1).toArray builtK1 ?_)
    | ((with_reducible refine gate_bd 42 _ rfl ?_); refine wl_bd rfl _ [(6, .const (.int .u64 2)), (3, .const (.int .i64 9))] rfl [(6, .int .u64 2), (3, .int .i64 9)] rfl (caC kk2).toArray builtK2 ?_)
    | ((with_reducible refine gate_bd 42 _ rfl ?_); refine wl_bd rfl _ [(6, .const (.int .u64 1)), (3, .const (.int .i64 (-1)))] rfl [(6, .int .u64 1), (3, .int .i64 (-1))] rfl (caC kk3).toArray builtK3 ?_)
    | (refine wl_bs4 (k := 51) 22 42 224 (.agg (caC ca0).toArray) Try.underlying22 infoCa (by omega) (by omega) caC_len rfl (.tmp 3) (.tmp 4) (.tmp 5) (.tmp 6) rfl kk0 kk1 kk2 kk3 rfl rfl rfl rfl ?_; rw [show w.alloc (.cells ([kk0, kk1, kk2, kk3].flatMap caC).toArray 42) = W1 from HW.out.symm]))
  go_upto_region 3 with (go_at_call 11; (refine KO.out.mono ?_); rintro e W2 ⟨v, rfl, g, cap, tail, rfl, hi, hb⟩; have HI := Lib.hid hi; have HB2 := Lib.hid (HB1.out.trans (hb.mono HB1.out.size)); clear hi hb)
  have c0 : W2.cell? ⟨g, 0, none⟩ = some (.int .i64 2) := HI.out.cell 0 (by decide)
  have c1 : W2.cell? ⟨g, 1, none⟩ = some (.int .i64 1) := HI.out.cell 1 (by decide)
  have c2 : W2.cell? ⟨g, 2, none⟩ = some (.int .i64 0) := HI.out.cell 2 (by decide)
  go_wp2_with fail
  go_ret
  exact ⟨rfl, HB2.out⟩
end Go.Proofs.Ythimpgnagjgmdaa
