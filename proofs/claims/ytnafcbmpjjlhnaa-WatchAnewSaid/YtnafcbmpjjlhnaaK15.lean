/- Watch: a registry's first watcher. -/
import Derived.Test.YtnafcbmpjjlhnaaK14
namespace Go.Proofs.Ytnafcbmpjjlhnaa
open Go.RowKit

/-- A registry's cells with one watcher. -/
def rgC (j : Nat) (v : Value) : List Value := (List.replicate 8 (Value.pointer none)).take j ++ [v] ++ (List.replicate 8 (Value.pointer none)).drop (j + 1)
def rg0 : List Value := List.replicate 8 (Value.pointer none)
theorem builtWt0 (a0 a1 a2 a3 a4 a5 a6 a7 a8 a9 a10 a11 a12 a13 a14 a15 a16 a17 a18 a19 a20 a21 a22 a23 a24 : UInt8) (d s : Int) : Try.prog.built 67 [(0, .agg (pC [a0, a1, a2, a3, a4, a5, a6, a7, a8, a9, a10, a11, a12, a13, a14, a15, a16, a17, a18, a19, a20, a21, a22, a23, a24] d).toArray), (1, .int .u64 s)] = some (wtC [a0, a1, a2, a3, a4, a5, a6, a7, a8, a9, a10, a11, a12, a13, a14, a15, a16, a17, a18, a19, a20, a21, a22, a23, a24] d s (.slice none 0 0) false).toArray := by kernel_rfl
theorem builtWt (k : List UInt8) (hk : k.length = 25) (d s : Int) : Try.prog.built 67 [(0, .agg (pC k d).toArray), (1, .int .u64 s)] = some (wtC k d s (.slice none 0 0) false).toArray := by
  obtain ⟨a0, a1, a2, a3, a4, a5, a6, a7, a8, a9, a10, a11, a12, a13, a14, a15, a16, a17, a18, a19, a20, a21, a22, a23, a24, rfl⟩ := list25 k hk
  exact builtWt0 ..
theorem exec_bdW {o : Oper} {a : Act} {w : World} (x y : Operand) (ho : o.op = .build 67 #[(0, x), (1, y)]) (k : List UInt8) (hk : k.length = 25) (d s : Int) (hx : a.eval x = .agg (pC k d).toArray) (hy : a.eval y = .int .u64 s) : (execOp a.eval o).run Try.prog w = .ok (.value (.agg (wtC k d s (.slice none 0 0) false).toArray)) w := by
  have := run_build (P := Try.prog) w 67 #[(0, .agg (pC k d).toArray), (1, .int .u64 s)] _ (builtWt k hk d s)
  unfold execOp
  simp only [ho, List.map_toArray, List.map_cons, List.map_nil, hx, hy, Sem.run_bind, this, Result.andThen_ok, Sem.run_pure]
theorem exec_f0 {o : Oper} {a : Act} {w : World} (x : Operand) (ho : o.op = .fieldAddr 37 x 0) (b : Nat) (hx : a.eval x = .pointer (some ⟨b, 0, none⟩)) : (execOp a.eval o).run Try.prog w = .ok (.value (.pointer (some ⟨b, 0, none⟩))) w := by
  unfold execOp
  simp only [ho, hx]
  simp [go_sem]
theorem exec_ix8 {o : Oper} {a : Act} {w : World} (x y : Operand) (ho : o.op = .indexAddr 35 x y) (b j : Nat) (hj : j < 8) (hx : a.eval x = .pointer (some ⟨b, 0, none⟩)) (hy : a.eval y = .int .i64 (j : Int)) : (execOp a.eval o).run Try.prog w = .ok (.value (.pointer (some ⟨b, j, none⟩))) w := by
  have h1 : (j : Int) < 8 := by omega
  unfold execOp
  simp only [ho, hx, hy]
  simp [go_sem, Try.underlying35, h1, hj]
theorem exec_boxW {o : Oper} {a : Act} {w : World} (x : Operand) (ho : o.op = .box 67 x) (cs : List Value) (hx : a.eval x = .agg cs.toArray) : (execOp a.eval o).run Try.prog w = .ok (.value (.pointer (some ⟨w.heap.size, 0, none⟩))) (w.alloc (.cells cs.toArray 67)) := by
  unfold execOp
  simp only [ho, hx]
  simp [go_sem]
theorem siz34 : (Try.prog.info? 34).map (·.size) = some 1 := by kernel_rfl
set_option maxRecDepth 100000 in
set_option maxHeartbeats 8000000 in
theorem watch_any (g j : Nat) (hj : j < 8) (k : List UInt8) (hk : k.length = 25) (d s : Int) (w : World) (hg : w.heap[g]? = some (.cells rg0.toArray 37 (0, 0))) (hd : depOk d = true) :
    Calls Try.prog 5 #[.pointer (some ⟨g, 0, none⟩), .int .i64 (j : Int), .agg (pC k d).toArray, .int .u64 s] w fun e w' => e = .returned (.int .i64 0) ∧
      w'.heap[w.heap.size + 1]? = some (.cells (wtC k d s (.slice none 0 0) false).toArray 67 (0, 0)) ∧ w'.heap[g]? = some (.cells (rgC j (.pointer (some ⟨w.heap.size + 1, 0, none⟩))).toArray 37 (0, 0)) ∧ Turn [g] w w' := by
  have hgl := lt_heap hg
  have HK := Lib.hid hk
  have hdd : 0 ≤ d ∧ d ≤ 5 := of_decide_eq_true hd
  have HT : Hid (Turn [g] w (w.alloc (.cells (pC k d).toArray 32))) := Turn.alloc _ _ _
  have HGW : Hid ((w.alloc (.cells (pC k d).toArray 32)).heap[g]? = some (.cells rg0.toArray 37 (0, 0))) := (heap_alloc_old _ _ hgl).trans hg
  have HPW : Hid ((w.alloc (.cells (pC k d).toArray 32)).heap[w.heap.size]? = some (.cells (pC k d).toArray 32 (0, 0))) := heap_alloc_new _ _
  have HSz : Hid ((w.alloc (.cells (pC k d).toArray 32)).heap.size = w.heap.size + 1) := by show _ = _; simp
  have hgp : g ≠ w.heap.size := by omega
  have h0 : ¬ (j : Int) < 0 := by omega
  have h8 : ¬ (8 : Int) ≤ (j : Int) := by omega
  have hd0 : ¬ d < 0 := by omega
  have hd5 : ¬ 5 < d := by omega
  have hdc : (w.alloc (.cells (pC k d).toArray 32)).cell? ⟨w.heap.size, 25, none⟩ = some (.int .i64 d) := by rw [cell_blk HPW.out]; exact pC_d hk d
  have hrc : (w.alloc (.cells (pC k d).toArray 32)).cell? ⟨g, j, none⟩ = some (.pointer none) := by rw [cell_blk HGW.out, List.getElem?_toArray]; unfold rg0; rw [List.getElem?_replicate, if_pos hj]
  clear hg hd hdd hk
  go_enter Try.func5, Try.ntmps5
  go_upto_region 7 with fail
  clear hdc hrc
  generalize w.alloc (.cells (pC k d).toArray 32) = W1 at *
  refine wp_region_chain (fun r v => v = match r with | 0 => { W1 with drawn := W1.drawn + 1 } | 1 => ({ W1 with drawn := W1.drawn + 1 }).alloc (.cells (wtC k d s (.slice none 0 0) false).toArray 67) | _ => (({ W1 with drawn := W1.drawn + 1 }).alloc (.cells (wtC k d s (.slice none 0 0) false).toArray 67)).setRow g (rgC j (.pointer (some ⟨W1.heap.size, 0, none⟩))).toArray)
    [some (37, .pointer (some ⟨g, 0, none⟩)), some (38, .int .i64 (j : Int)), some (39, .agg (pC k d).toArray), some (40, .int .u64 s), some (41, .agg (wtC k d s (.slice none 0 0) false).toArray), some (42, .pointer (some ⟨W1.heap.size, 0, none⟩)), some (43, .pointer (some ⟨g, 0, none⟩)), some (44, .pointer (some ⟨g, 0, none⟩)), some (45, .pointer (some ⟨g, j, none⟩)), none] [5, 9]
    (by kernel_rfl) (by kernel_rfl) rfl (by simp) (by simp) (by decide) (by decide) (fun r hr => by have h2 : r + 1 < 2 := hr; obtain rfl : r = 0 := (by omega); show _ = true; kernel_rfl) rfl ?_ ?_ ?_
  · intro i hi hE a v r hfr hdep hC hkk K hK
    have hi10 : i < 10 := hi
    obtain rfl | rfl | rfl | rfl | rfl | rfl | rfl | rfl | rfl | rfl : i = 0 ∨ i = 1 ∨ i = 2 ∨ i = 3 ∨ i = 4 ∨ i = 5 ∨ i = 6 ∨ i = 7 ∨ i = 8 ∨ i = 9 := by omega
    · exact wpOp_mv rfl rfl (.tmp 0) rfl _ (hfr.off 0 (by simp)) hK
    · exact wpOp_mv rfl rfl (.tmp 1) rfl _ (hfr.off 1 (by simp)) hK
    · have hv : v.heap[w.heap.size]? = W1.heap[w.heap.size]? := by
        rcases (by omega : r = 0 ∨ r = 1 ∨ 2 ≤ r) with rfl | rfl | h
        · subst hC; rfl
        · subst hC; exact heap_alloc_old _ _ (lt_heap HPW.out)
        · exact absurd (hkk 1 (by simp) h) (by decide +kernel)
      exact wpOp_ldr rfl rfl 32 (.tmp 6) rfl w.heap.size 0 (pC k d) _ Try.underlying32 rfl (by rw [sizPre, pC_len HK.out]) (hfr.off 6 (by simp)) (range_of_block (range_whole HPW.out) hv) hK
    · exact wpOp_mv rfl rfl (.tmp 3) rfl _ (hfr.off 3 (by simp)) hK
    · exact wpOp_val rfl rfl (exec_bdW (.tmp 39) (.tmp 40) rfl k HK.out d s (hdep 2 (by kernel_rfl) 39 _ rfl) (hdep 3 (by kernel_rfl) 40 _ rfl)) hK
    · exact absurd (by simp) hE
    · exact wpOp_val rfl rfl (exec_nil (.tmp 37) rfl ⟨g, 0, none⟩ (hdep 0 (by kernel_rfl) 37 _ rfl)) hK
    · exact wpOp_val rfl rfl (exec_f0 (.tmp 43) rfl g (hdep 6 (by kernel_rfl) 43 _ rfl)) hK
    · exact wpOp_val rfl rfl (exec_ix8 (.tmp 44) (.tmp 38) rfl g j hj (hdep 7 (by kernel_rfl) 44 _ rfl) (hdep 1 (by kernel_rfl) 38 _ rfl)) hK
    · exact absurd (by simp) hE
  · intro r hr a v hfr hdep hC K hK
    have hr2 : r < 2 := hr
    obtain rfl | rfl : r = 0 ∨ r = 1 := by omega
    · subst hC
      exact wpOp_val rfl rfl (exec_boxW (.tmp 41) rfl _ (hdep 4 (by kernel_rfl) 41 _ rfl)) (hK _ rfl)
    · subst hC
      exact wpOp_skip rfl rfl (exec_st1 34 siz34 (.tmp 45) (.tmp 42) rfl g j _ (hdep 8 (by kernel_rfl) 45 _ rfl) (hdep 5 (by kernel_rfl) 42 _ rfl) rfl rg0 37 ((heap_alloc_old _ _ (lt_heap HGW.out)).trans HGW.out) (by simp [rg0]; omega)) (hK _ rfl)
  · intro v hC
    have HV : Hid (v.heap[W1.heap.size]? = some (.cells (wtC k d s (.slice none 0 0) false).toArray 67 (0, 0)) ∧ v.heap[g]? = some (.cells (rgC j (.pointer (some ⟨W1.heap.size, 0, none⟩))).toArray 37 (0, 0)) ∧ Turn [g] W1 v) := by
      have hgl1 := lt_heap HGW.out
      rw [hC]
      refine ⟨(setRow_other _ _ _ _ (by omega)).trans (heap_alloc_new _ _), setRow_at ((heap_alloc_old _ _ hgl1).trans HGW.out), ?_⟩
      exact (Turn.drew _ W1).trans ((Turn.alloc _ _ _).trans ⟨rfl, rfl, rfl, by simp, fun b _ hr => setRow_other _ _ _ _ (by simpa using hr)⟩)
    clear hC
    simp only [puts, List.filterMap_cons, List.filterMap_nil, _root_.id, List.setIfInBounds_toArray, List.set_cons_zero, List.set_cons_succ]
    go_wp2_with fail
    go_ret
    rw [HSz.out] at HV
    exact ⟨rfl, HV.out.1, HV.out.2.1, HT.out.trans HV.out.2.2⟩
end Go.Proofs.Ytnafcbmpjjlhnaa
