/- The document's Counts and ahead. -/
import Derived.Test.YthimpgnagjgmdaaH22
namespace Go.Proofs.Ythimpgnagjgmdaa
open Go.RowKit Go.Sort

set_option maxRecDepth 100000 in
set_option maxHeartbeats 8000000 in
theorem refCounts_any (x : Ca) (w : World) : Calls Try.prog 8 #[.agg (caC x).toArray] w fun e w' => e = .returned (.bool (countB x)) ∧ Below w.heap.size w w' := by
  have HB := Lib.hid (below_alloc1 w (.cells (caC x).toArray 51))
  have HN := heap_alloc_new w (.cells (caC x).toArray 51)
  have c3 : (w.alloc (.cells (caC x).toArray 51)).cell? ⟨w.heap.size, 3, none⟩ = some (.int .i64 x.po) := by rw [cell_blk HN, List.getElem?_toArray]; exact ca_cell x 3 _ rfl
  have c2 : (w.alloc (.cells (caC x).toArray 51)).cell? ⟨w.heap.size, 2, none⟩ = some (.int .i64 x.en) := by rw [cell_blk HN, List.getElem?_toArray]; exact ca_cell x 2 _ rfl
  have c36 : (w.alloc (.cells (caC x).toArray 51)).cell? ⟨w.heap.size, 36, none⟩ = some (.bool x.pub) := by rw [cell_blk HN, List.getElem?_toArray]; exact ca_pub x
  have c34 : (w.alloc (.cells (caC x).toArray 51)).cell? ⟨w.heap.size, 34, none⟩ = some (.slice x.q x.n x.c) := by rw [cell_blk HN, List.getElem?_toArray]; exact ca_w x
  have c37 : (w.alloc (.cells (caC x).toArray 51)).cell? ⟨w.heap.size, 37, none⟩ = some (.int .i64 x.rep.err) := by rw [cell_blk HN, List.getElem?_toArray]; exact ca_rep x 0 _ rfl
  have c50 : (w.alloc (.cells (caC x).toArray 51)).cell? ⟨w.heap.size, 50, none⟩ = some (.int .i64 x.rep.n) := by rw [cell_blk HN, List.getElem?_toArray]; exact ca_rep x 13 _ (rpC_end _).2
  have HC : Hid (countB x = (!(decide (x.po < 0) || (decide (x.en < 0) && !x.pub)) && ((decide (x.en < 0) || decide (0 < x.n)) || (x.rep.err != 6 && (x.rep.err != 11 || x.rep.n != 0))))) := rfl
  generalize countB x = z at *
  obtain ⟨po, hpo⟩ : ∃ v, v = x.po := ⟨_, rfl⟩
  obtain ⟨en, hen⟩ : ∃ v, v = x.en := ⟨_, rfl⟩
  obtain ⟨pub, hpub⟩ : ∃ v, v = x.pub := ⟨_, rfl⟩
  obtain ⟨er, her⟩ : ∃ v, v = x.rep.err := ⟨_, rfl⟩
  obtain ⟨rn, hrn⟩ : ∃ v, v = x.rep.n := ⟨_, rfl⟩
  obtain ⟨nw, hnw⟩ : ∃ v, v = x.n := ⟨_, rfl⟩
  rw [← hpo] at c3 HC
  rw [← hen] at c2 HC
  rw [← hpub] at c36 HC
  rw [← her] at c37 HC
  rw [← hrn] at c50 HC
  rw [← hnw] at c34 HC
  clear hpo hen hpub her hrn hnw HN
  have fin : ∀ (b : Bool), z = b → Hid (z = b) := fun _ h => h
  by_cases h1 : po < 0
  · have HZ := fin false (by rw [HC.out]; simp [h1])
    clear HC fin
    go_enter Try.func8, Try.ntmps8
    go_wp2_with fail
    go_ret
    exact ⟨ret_bool HZ.out.symm, HB.out⟩
  by_cases h2 : en < 0
  · cases pub with
    | false =>
      have HZ := fin false (by rw [HC.out]; simp [h2])
      clear HC fin
      go_enter Try.func8, Try.ntmps8
      go_wp2_with fail
      go_ret
      exact ⟨ret_bool HZ.out.symm, HB.out⟩
    | true =>
      have HZ := fin true (by rw [HC.out]; simp [h1, h2])
      clear HC fin
      go_enter Try.func8, Try.ntmps8
      go_wp2_with fail
      go_ret
      exact ⟨ret_bool HZ.out.symm, HB.out⟩
  by_cases h3 : 0 < nw
  · have h3i : (0 : Int) < nw := by omega
    have HZ := fin true (by rw [HC.out]; simp [h1, h2, h3])
    clear HC fin
    go_enter Try.func8, Try.ntmps8
    go_wp2_with fail
    go_ret
    exact ⟨ret_bool HZ.out.symm, HB.out⟩
  have h3i : ¬ (0 : Int) < nw := by omega
  have h3z : nw = 0 := by omega
  subst h3z
  by_cases h4 : er = 6
  · subst h4
    have HZ := fin false (by rw [HC.out]; simp [h1, h2])
    clear HC fin
    go_enter Try.func8, Try.ntmps8
    go_wp2_with fail
    go_ret
    exact ⟨ret_bool HZ.out.symm, HB.out⟩
  have f4 : (er != 6) = true := by simpa using h4
  by_cases h5 : er = 11
  · subst h5
    by_cases h6 : rn = 0
    · subst h6
      have HZ := fin false (by rw [HC.out]; simp [h1, h2])
      clear HC fin
      go_enter Try.func8, Try.ntmps8
      go_wp2_with fail
      go_ret
      exact ⟨ret_bool HZ.out.symm, HB.out⟩
    · have f6 : (rn == 0) = false := by simpa using h6
      have HZ := fin true (by rw [HC.out]; simp [h1, h2, h6])
      clear HC fin
      go_enter Try.func8, Try.ntmps8
      go_wp2_with fail
      go_ret
      exact ⟨ret_bool HZ.out.symm, HB.out⟩
  · have f5 : (er == 11) = false := by simpa using h5
    have HZ := fin true (by rw [HC.out]; simp [h1, h2, h4, h5])
    clear HC fin
    go_enter Try.func8, Try.ntmps8
    go_wp2_with fail
    go_ret
    exact ⟨ret_bool HZ.out.symm, HB.out⟩
set_option maxRecDepth 100000 in
set_option maxHeartbeats 8000000 in
theorem ahead_any (x y : Ca) (w : World) : Calls Try.prog 27 #[.agg (caC x).toArray, .agg (caC y).toArray] w fun e w' => e = .returned (.bool (aheadB x y)) ∧ Below w.heap.size w w' := by
  have HB := Lib.hid (below_alloc2 w (.cells (caC x).toArray 51) (.cells (caC y).toArray 51))
  have HN1 := heap_alloc_new w (.cells (caC x).toArray 51)
  have HN0 : (((w.alloc (.cells (caC x).toArray 51)).alloc (.cells (caC y).toArray 51))).heap[w.heap.size]? = some (.cells (caC x).toArray 51 (0, 0)) := by
    exact (heap_alloc_old _ _ (lt_heap HN1)).trans HN1
  have HN2 : (((w.alloc (.cells (caC x).toArray 51)).alloc (.cells (caC y).toArray 51))).heap[w.heap.size + 1]? = some (.cells (caC y).toArray 51 (0, 0)) := by
    have := heap_alloc_new (w.alloc (.cells (caC x).toArray 51)) (.cells (caC y).toArray 51)
    simpa using this
  have HC : Hid (aheadB x y = if x.at_ = y.at_ then (if x.pub = y.pub then decide (x.po < y.po) else x.pub) else decide (x.at_ < y.at_)) := rfl
  generalize aheadB x y = z at *
  go_enter Try.func27, Try.ntmps27
  go_upto_region 1 with fail
  generalize ((w.alloc (.cells (caC x).toArray 51)).alloc (.cells (caC y).toArray 51)) = W0 at *
  have c35 : W0.cell? ⟨w.heap.size, 35, none⟩ = some (.int .u64 x.at_) := by rw [cell_blk HN0, List.getElem?_toArray]; exact ca_at x
  have d35 : W0.cell? ⟨w.heap.size + 1, 35, none⟩ = some (.int .u64 y.at_) := by rw [cell_blk HN2, List.getElem?_toArray]; exact ca_at y
  have c36 : W0.cell? ⟨w.heap.size, 36, none⟩ = some (.bool x.pub) := by rw [cell_blk HN0, List.getElem?_toArray]; exact ca_pub x
  have d36 : W0.cell? ⟨w.heap.size + 1, 36, none⟩ = some (.bool y.pub) := by rw [cell_blk HN2, List.getElem?_toArray]; exact ca_pub y
  have c3 : W0.cell? ⟨w.heap.size, 3, none⟩ = some (.int .i64 x.po) := by rw [cell_blk HN0, List.getElem?_toArray]; exact ca_cell x 3 _ rfl
  have d3 : W0.cell? ⟨w.heap.size + 1, 3, none⟩ = some (.int .i64 y.po) := by rw [cell_blk HN2, List.getElem?_toArray]; exact ca_cell y 3 _ rfl
  obtain ⟨xa, hxa⟩ : ∃ v, v = x.at_ := ⟨_, rfl⟩
  obtain ⟨ya, hya⟩ : ∃ v, v = y.at_ := ⟨_, rfl⟩
  obtain ⟨xp, hxp⟩ : ∃ v, v = x.pub := ⟨_, rfl⟩
  obtain ⟨yp, hyp⟩ : ∃ v, v = y.pub := ⟨_, rfl⟩
  obtain ⟨xo, hxo⟩ : ∃ v, v = x.po := ⟨_, rfl⟩
  obtain ⟨yo, hyo⟩ : ∃ v, v = y.po := ⟨_, rfl⟩
  rw [← hxa] at c35 HC
  rw [← hya] at d35 HC
  rw [← hxp] at c36 HC
  rw [← hyp] at d36 HC
  rw [← hxo] at c3 HC
  rw [← hyo] at d3 HC
  clear hxa hya hxp hyp hxo hyo HN0 HN1 HN2
  have fin : ∀ (b : Bool), z = b → Hid (z = b) := fun _ h => h
  by_cases h1 : xa = ya
  · subst h1
    by_cases h2 : xp = yp
    · subst h2
      have HZ := fin (decide (xo < yo)) (by rw [HC.out]; simp)
      clear HC fin
      go_wp2_with fail
      go_ret
      exact ⟨by rw [HZ.out]; simp, HB.out⟩
    · have HZ := fin xp (by rw [HC.out]; simp [h2])
      clear HC fin
      cases xp <;> cases yp
      all_goals first
        | exact absurd rfl h2
        | (go_wp2_with fail
           go_ret
           exact ⟨ret_bool HZ.out.symm, HB.out⟩)
  · have f1 : (xa != ya) = true := by simpa using h1
    have HZ := fin (decide (xa < ya)) (by rw [HC.out]; simp [h1])
    clear HC fin
    go_wp2_with fail
    go_ret
    exact ⟨by rw [HZ.out]; simp, HB.out⟩
end Go.Proofs.Ythimpgnagjgmdaa
