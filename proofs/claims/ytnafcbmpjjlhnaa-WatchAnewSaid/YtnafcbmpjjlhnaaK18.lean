/- Resync. -/
import Derived.Test.YtnafcbmpjjlhnaaK17
namespace Go.Proofs.Ytnafcbmpjjlhnaa
open Go.RowKit

theorem rg0_len : rg0.length = 8 := rfl
theorem rgC_len {j : Nat} (hj : j < 8) (v : Value) : (rgC j v).length = 8 := by simp [rgC]; omega
theorem rgC_get {j : Nat} (hj : j < 8) (v : Value) : (rgC j v).toArray[j]? = some v := by
  rw [List.getElem?_toArray]
  unfold rgC
  rw [List.append_assoc, List.getElem?_append_right (by simp; omega)]
  simp [show j - min j 8 = 0 by omega]
theorem rgC_put {j : Nat} (hj : j < 8) (v u : Value) : (rgC j v).take j ++ [u] ++ (rgC j v).drop (j + 1) = rgC j u := by
  have h1 : ((List.replicate 8 (Value.pointer none)).take j).length = j := by simp; omega
  unfold rgC
  rw [List.append_assoc, List.append_assoc, List.append_assoc, List.take_left' h1, ← List.append_assoc, List.drop_append, List.drop_append]
  simp [h1, show min j 8 = j by omega]
theorem exec_fW0 {o : Oper} {a : Act} {w : World} (x : Operand) (ho : o.op = .fieldAddr 67 x 0) (b : Nat) (hx : a.eval x = .pointer (some ⟨b, 0, none⟩)) : (execOp a.eval o).run Try.prog w = .ok (.value (.pointer (some ⟨b, 0, none⟩))) w := by
  unfold execOp
  simp only [ho, hx]
  simp [go_sem]
set_option maxRecDepth 100000 in
set_option maxHeartbeats 8000000 in
theorem resync_any (g j p : Nat) (hj : j < 8) (k : List UInt8) (hk : k.length = 25) (d s0 s : Int) (qv : Value) (st : Bool) (w : World) (hg : w.heap[g]? = some (.cells (rgC j (.pointer (some ⟨p, 0, none⟩))).toArray 37 (0, 0))) (hp : w.heap[p]? = some (.cells (wtC k d s0 qv st).toArray 67 (0, 0))) :
    Calls Try.prog 9 #[.pointer (some ⟨g, 0, none⟩), .int .i64 (j : Int), .int .u64 s] w fun e w' => e = .returned (.int .i64 0) ∧
      w'.heap[w.heap.size]? = some (.cells (wtC k d s (.slice none 0 0) false).toArray 67 (0, 0)) ∧ w'.heap[g]? = some (.cells (rgC j (.pointer (some ⟨w.heap.size, 0, none⟩))).toArray 37 (0, 0)) ∧ Turn [g] w w' := by
  have HG := Lib.hid hg
  have HP := Lib.hid hp
  have HK := Lib.hid hk
  have hgl := lt_heap hg
  have h0 : ¬ (j : Int) < 0 := by omega
  have h8 : ¬ (8 : Int) ≤ (j : Int) := by omega
  have hrc : w.cell? ⟨g, j, none⟩ = some (.pointer (some ⟨p, 0, none⟩)) := by rw [cell_blk hg]; exact rgC_get hj _
  have HRC := Lib.hid hrc
  clear hg hp hk
  go_enter Try.func9, Try.ntmps9
  go_upto_region 7 with fail
  clear hrc
  refine wp_region_chain (fun r v => v = match r with | 0 => { w with drawn := w.drawn + 1 } | 1 => ({ w with drawn := w.drawn + 1 }).alloc (.cells (wtC k d s (.slice none 0 0) false).toArray 67) | _ => (({ w with drawn := w.drawn + 1 }).alloc (.cells (wtC k d s (.slice none 0 0) false).toArray 67)).setRow g (rgC j (.pointer (some ⟨w.heap.size, 0, none⟩))).toArray)
    [some (25, .pointer (some ⟨g, 0, none⟩)), some (26, .int .i64 (j : Int)), some (27, .pointer (some ⟨g, 0, none⟩)), some (28, .int .i64 (j : Int)), some (29, .pointer (some ⟨g, 0, none⟩)), some (30, .pointer (some ⟨g, 0, none⟩)), some (31, .pointer (some ⟨g, j, none⟩)), some (32, .pointer (some ⟨p, 0, none⟩)), some (33, .pointer (some ⟨p, 0, none⟩)), some (34, .pointer (some ⟨p, 0, none⟩)), some (35, .agg (pC k d).toArray), some (36, .int .u64 s), some (37, .agg (wtC k d s (.slice none 0 0) false).toArray), some (38, .pointer (some ⟨w.heap.size, 0, none⟩)), some (39, .pointer (some ⟨g, 0, none⟩)), some (40, .pointer (some ⟨g, 0, none⟩)), some (41, .pointer (some ⟨g, j, none⟩)), none] [13, 17]
    (by kernel_rfl) (by kernel_rfl) rfl (by simp) (by simp) (by decide) (by decide) (fun r hr => by have h2 : r + 1 < 2 := hr; obtain rfl : r = 0 := (by omega); show _ = true; kernel_rfl) rfl ?_ ?_ ?_
  · intro i hi hE a v r hfr hdep hC hkk K hK
    have hi18 : i < 18 := hi
    have hkeep : r ≤ 1 → ∀ b, b < w.heap.size → v.heap[b]? = w.heap[b]? := fun hr b hb => by
      rcases (by omega : r = 0 ∨ r = 1) with rfl | rfl
      · subst hC; rfl
      · subst hC; exact heap_alloc_old _ _ hb
    obtain rfl | rfl | rfl | rfl | rfl | rfl | rfl | rfl | rfl | rfl | rfl | rfl | rfl | rfl | rfl | rfl | rfl | rfl : i = 0 ∨ i = 1 ∨ i = 2 ∨ i = 3 ∨ i = 4 ∨ i = 5 ∨ i = 6 ∨ i = 7 ∨ i = 8 ∨ i = 9 ∨ i = 10 ∨ i = 11 ∨ i = 12 ∨ i = 13 ∨ i = 14 ∨ i = 15 ∨ i = 16 ∨ i = 17 := by omega
    · exact wpOp_mv rfl rfl (.tmp 0) rfl _ (hfr.off 0 (by simp)) hK
    · exact wpOp_mv rfl rfl (.tmp 1) rfl _ (hfr.off 1 (by simp)) hK
    · exact wpOp_mv rfl rfl (.tmp 0) rfl _ (hfr.off 0 (by simp)) hK
    · exact wpOp_mv rfl rfl (.tmp 1) rfl _ (hfr.off 1 (by simp)) hK
    · exact wpOp_val rfl rfl (exec_nil (.tmp 27) rfl ⟨g, 0, none⟩ (hdep 2 (by kernel_rfl) 27 _ rfl)) hK
    · exact wpOp_val rfl rfl (exec_f0 (.tmp 29) rfl g (hdep 4 (by kernel_rfl) 29 _ rfl)) hK
    · exact wpOp_val rfl rfl (exec_ix8 (.tmp 30) (.tmp 28) rfl g j hj (hdep 5 (by kernel_rfl) 30 _ rfl) (hdep 3 (by kernel_rfl) 28 _ rfl)) hK
    · have hr1 : r ≤ 1 := by
        rcases Nat.lt_or_ge 1 r with h | h
        · exact absurd (hkk 1 (by simp) h) (by decide +kernel)
        · exact h
      exact wpOp_val rfl rfl (exec_ld1 34 ag34 (.tmp 31) rfl g j (.pointer (some ⟨p, 0, none⟩)) (hdep 6 (by kernel_rfl) 31 _ rfl) ((cell_of (hkeep hr1 g hgl) j).trans HRC.out)) hK
    · exact wpOp_val rfl rfl (exec_nil (.tmp 32) rfl ⟨p, 0, none⟩ (hdep 7 (by kernel_rfl) 32 _ rfl)) hK
    · exact wpOp_val rfl rfl (exec_fW0 (.tmp 33) rfl p (hdep 8 (by kernel_rfl) 33 _ rfl)) hK
    · have hr1 : r ≤ 1 := by
        rcases Nat.lt_or_ge 1 r with h | h
        · exact absurd (hkk 1 (by simp) h) (by decide +kernel)
        · exact h
      exact wpOp_ldr rfl rfl 32 (.tmp 34) rfl p 0 (pC k d) _ Try.underlying32 rfl (by rw [sizPre, pC_len HK.out]) (hdep 9 (by kernel_rfl) 34 _ rfl) (range_of_block (range_app_left (range_whole HP.out)) (hkeep hr1 p (lt_heap HP.out))) hK
    · exact wpOp_mv rfl rfl (.tmp 2) rfl _ (hfr.off 2 (by simp)) hK
    · exact wpOp_val rfl rfl (exec_bdW (.tmp 35) (.tmp 36) rfl k HK.out d s (hdep 10 (by kernel_rfl) 35 _ rfl) (hdep 11 (by kernel_rfl) 36 _ rfl)) hK
    · exact absurd (by simp) hE
    · exact wpOp_val rfl rfl (exec_nil (.tmp 25) rfl ⟨g, 0, none⟩ (hdep 0 (by kernel_rfl) 25 _ rfl)) hK
    · exact wpOp_val rfl rfl (exec_f0 (.tmp 39) rfl g (hdep 14 (by kernel_rfl) 39 _ rfl)) hK
    · exact wpOp_val rfl rfl (exec_ix8 (.tmp 40) (.tmp 26) rfl g j hj (hdep 15 (by kernel_rfl) 40 _ rfl) (hdep 1 (by kernel_rfl) 26 _ rfl)) hK
    · exact absurd (by simp) hE
  · intro r hr a v hfr hdep hC K hK
    have hr2 : r < 2 := hr
    obtain rfl | rfl : r = 0 ∨ r = 1 := by omega
    · subst hC
      exact wpOp_val rfl rfl (exec_boxW (.tmp 37) rfl _ (hdep 12 (by kernel_rfl) 37 _ rfl)) (hK _ rfl)
    · subst hC
      refine wpOp_skip rfl rfl (exec_st1 34 siz34 (.tmp 41) (.tmp 38) rfl g j _ (hdep 16 (by kernel_rfl) 41 _ rfl) (hdep 13 (by kernel_rfl) 38 _ rfl) rfl (rgC j (.pointer (some ⟨p, 0, none⟩))) 37 ((heap_alloc_old _ _ hgl).trans HG.out) (by rw [rgC_len hj]; omega)) (hK _ ?_)
      rw [rgC_put hj]
      rfl
  · intro v hC
    have HV : Hid (v.heap[w.heap.size]? = some (.cells (wtC k d s (.slice none 0 0) false).toArray 67 (0, 0)) ∧ v.heap[g]? = some (.cells (rgC j (.pointer (some ⟨w.heap.size, 0, none⟩))).toArray 37 (0, 0)) ∧ Turn [g] w v) := by
      rw [hC]
      refine ⟨(setRow_other _ _ _ _ (by omega)).trans (heap_alloc_new _ _), setRow_at ((heap_alloc_old _ _ hgl).trans HG.out), ?_⟩
      exact (Turn.drew _ w).trans ((Turn.alloc _ _ _).trans ⟨rfl, rfl, rfl, by simp, fun b _ hr => setRow_other _ _ _ _ (by simpa using hr)⟩)
    clear hC
    simp only [puts, List.filterMap_cons, List.filterMap_nil, _root_.id, List.setIfInBounds_toArray, List.set_cons_zero, List.set_cons_succ]
    go_wp2_with fail
    go_ret
    exact ⟨rfl, HV.out.1, HV.out.2.1, HV.out.2.2⟩
end Go.Proofs.Ytnafcbmpjjlhnaa
