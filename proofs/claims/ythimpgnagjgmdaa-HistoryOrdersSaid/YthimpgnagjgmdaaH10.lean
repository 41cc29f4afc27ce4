/- SortStableFunc of fewer than twenty ints; Counts. -/
import Derived.Test.YthimpgnagjgmdaaH9
namespace Go.Proofs.Ythimpgnagjgmdaa
open Go.RowKit Go.Sort

set_option maxRecDepth 100000 in
set_option maxHeartbeats 8000000 in
theorem stableI_any (bx g cap n : Nat) (cF : Int → Int → Int) (V : Int → Prop) (d : Array Int) (tail : List Value) (T : TypeId) (w : World) (hF : CloF bx g cF V w) (hV : ∀ i, i < d.size → V d[i]!) (hd : IRow w g d tail T) (hn : d.size = n) (hsz : n < 20) :
    Calls Try.prog 33 #[.slice (some ⟨g, 0, none⟩) n cap, .int .i64 n, .func (.func 22) #[] #[.pointer (some ⟨bx, 0, none⟩)]] w fun e w' =>
      e = .returned (.tuple #[]) ∧ IRow w' g (Sort.insertionSort (ltF cF) d 0 n) tail T ∧ Turn [g] w w' := by
  have KI := Lib.hid (insI_any bx g cap 0 n cF V d tail T w hF hV hd (Nat.zero_le _) (by omega) (by omega))
  rw [hn] at KI
  clear hd hF hV hn
  have hg : ¬ (20 : Int) ≤ n := by omega
  go_enter Try.func33, Try.ntmps33
  go_wp2_with fail
  go_loopw [7, 8] (fun va vb wr => va = .int .i64 0 ∧ vb = .int .i64 20 ∧ wr = w) (fun _ _ _ => 0)
  case atStart => exact ⟨rfl, rfl, rfl⟩
  case round =>
    obtain ⟨rfl, rfl, rfl⟩ := hrel
    go_wp2_with (go_at_call 36; (refine KI.out.mono ?_); rintro e W2 ⟨rfl, hw2, ht2⟩; have HW2 := Lib.hid hw2; have HT2 := Lib.hid ht2; clear hw2 ht2)
    go_loopw [6] (fun va wr2 => va = .int .i64 20 ∧ Hid (IRow wr2 g (Sort.insertionSort (ltF cF) d 0 n) tail T) ∧ Hid (Turn [g] wr wr2)) (fun _ _ => 0)
    case atStart => exact ⟨rfl, HW2, HT2⟩
    case round =>
      obtain ⟨rfl, HW3, HT3⟩ := hrel
      have hg2 : ¬ (20 : Int) < n := by omega
      go_wp2_with fail
      go_end0
      exact ⟨rfl, HW3.out, HT3.out⟩
set_option maxRecDepth 100000 in
set_option maxHeartbeats 4000000 in
theorem sortI_any (bx g cap n : Nat) (cF : Int → Int → Int) (V : Int → Prop) (d : Array Int) (tail : List Value) (T : TypeId) (w : World) (hF : CloF bx g cF V w) (hV : ∀ i, i < d.size → V d[i]!) (hd : IRow w g d tail T) (hn : d.size = n) (hsz : n < 20) :
    Calls Try.prog 21 #[.slice (some ⟨g, 0, none⟩) n cap, .func (.func 22) #[] #[.pointer (some ⟨bx, 0, none⟩)]] w fun e w' =>
      e = .returned (.tuple #[]) ∧ IRow w' g (Sort.insertionSort (ltF cF) d 0 n) tail T ∧ Turn [g] w w' := by
  have KS := Lib.hid (stableI_any bx g cap n cF V d tail T w hF hV hd hn hsz)
  clear hd hF hV hn
  go_enter Try.func21, Try.ntmps21
  go_wp2_with (go_at_call 33; (refine KS.out.mono ?_); rintro e W2 ⟨rfl, hw2, ht2⟩; have HW2 := Lib.hid hw2; have HT2 := Lib.hid ht2; clear hw2 ht2)
  go_end0
  exact ⟨rfl, HW2.out, HT2.out⟩
def countB (x : Ca) : Bool := !(decide (x.po < 0) || (decide (x.en < 0) && !x.pub)) && ((decide (x.en < 0) || decide (0 < x.n)) || (x.rep.err != 6 && (x.rep.err != 11 || x.rep.n != 0)))
set_option maxRecDepth 100000 in
set_option maxHeartbeats 8000000 in
theorem counts_any (x : Ca) (w : World) : Calls Try.prog 7 #[.agg (caC x).toArray] w fun e w' => e = .returned (.bool (countB x)) ∧ Below w.heap.size w w' := by
  have HB := Lib.hid (below_alloc1 w (.cells (caC x).toArray 42))
  have HN := heap_alloc_new w (.cells (caC x).toArray 42)
  have c3 : (w.alloc (.cells (caC x).toArray 42)).cell? ⟨w.heap.size, 3, none⟩ = some (.int .i64 x.po) := by rw [cell_blk HN, List.getElem?_toArray]; exact ca_cell x 3 _ rfl
  have c2 : (w.alloc (.cells (caC x).toArray 42)).cell? ⟨w.heap.size, 2, none⟩ = some (.int .i64 x.en) := by rw [cell_blk HN, List.getElem?_toArray]; exact ca_cell x 2 _ rfl
  have c36 : (w.alloc (.cells (caC x).toArray 42)).cell? ⟨w.heap.size, 36, none⟩ = some (.bool x.pub) := by rw [cell_blk HN, List.getElem?_toArray]; exact ca_pub x
  have c34 : (w.alloc (.cells (caC x).toArray 42)).cell? ⟨w.heap.size, 34, none⟩ = some (.slice x.q x.n x.c) := by rw [cell_blk HN, List.getElem?_toArray]; exact ca_w x
  have c37 : (w.alloc (.cells (caC x).toArray 42)).cell? ⟨w.heap.size, 37, none⟩ = some (.int .i64 x.rep.err) := by rw [cell_blk HN, List.getElem?_toArray]; exact ca_rep x 0 _ rfl
  have c50 : (w.alloc (.cells (caC x).toArray 42)).cell? ⟨w.heap.size, 50, none⟩ = some (.int .i64 x.rep.n) := by rw [cell_blk HN, List.getElem?_toArray]; exact ca_rep x 13 _ (rpC_end _).2
  have HC : Hid (countB x = (!(decide (x.po < 0) || (decide (x.en < 0) && !x.pub)) && ((decide (x.en < 0) || decide (0 < x.n)) || (x.rep.err != 6 && (x.rep.err != 11 || x.rep.n != 0))))) := rfl
  generalize countB x = z at *
  obtain ⟨po, hpo⟩ : ∃ v, v = x.po := ⟨_, rfl⟩
  obtain ⟨en, hen⟩ : ∃ v, v = x.en := ⟨_, rfl⟩
  obtain ⟨pub, hpub⟩ : ∃ v, v = x.pub := ⟨_, rfl⟩
  obtain ⟨er, her⟩ : ∃ v, v = x.rep.err := ⟨_, rfl⟩
  obtain ⟨rn, hrn⟩ : ∃ v, v = x.rep.n := ⟨_, rfl⟩
  obtain ⟨nw, hnw⟩ : ∃ v, v = x.n := ⟨_, rfl⟩
  rw [← hpo] at c3 HC
  rw [← hen] at c2 HC
  rw [← hpub] at c36 HC
  rw [← her] at c37 HC
  rw [← hrn] at c50 HC
  rw [← hnw] at c34 HC
  clear hpo hen hpub her hrn hnw HN
  have fin : ∀ (b : Bool), z = b → Hid (z = b) := fun _ h => h
  by_cases h1 : po < 0
  · have HZ := fin false (by rw [HC.out]; simp [h1])
    clear HC fin
    go_enter Try.func7, Try.ntmps7
    go_wp2_with fail
    go_ret
    exact ⟨ret_bool HZ.out.symm, HB.out⟩
  by_cases h2 : en < 0
  · cases pub with
    | false =>
      have HZ := fin false (by rw [HC.out]; simp [h2])
      clear HC fin
      go_enter Try.func7, Try.ntmps7
      go_wp2_with fail
      go_ret
      exact ⟨ret_bool HZ.out.symm, HB.out⟩
    | true =>
      have HZ := fin true (by rw [HC.out]; simp [h1, h2])
      clear HC fin
      go_enter Try.func7, Try.ntmps7
      go_wp2_with fail
      go_ret
      exact ⟨ret_bool HZ.out.symm, HB.out⟩
  by_cases h3 : 0 < nw
  · have h3i : (0 : Int) < nw := by omega
    have HZ := fin true (by rw [HC.out]; simp [h1, h2, h3])
    clear HC fin
    go_enter Try.func7, Try.ntmps7
    go_wp2_with fail
    go_ret
    exact ⟨ret_bool HZ.out.symm, HB.out⟩
  have h3i : ¬ (0 : Int) < nw := by omega
  have h3z : nw = 0 := by omega
  subst h3z
  by_cases h4 : er = 6
  · subst h4
    have HZ := fin false (by rw [HC.out]; simp [h1, h2])
    clear HC fin
    go_enter Try.func7, Try.ntmps7
    go_wp2_with fail
    go_ret
    exact ⟨ret_bool HZ.out.symm, HB.out⟩
  have f4 : (er != 6) = true := by simpa using h4
  by_cases h5 : er = 11
  · subst h5
    by_cases h6 : rn = 0
    · subst h6
      have HZ := fin false (by rw [HC.out]; simp [h1, h2])
      clear HC fin
      go_enter Try.func7, Try.ntmps7
      go_wp2_with fail
      go_ret
      exact ⟨ret_bool HZ.out.symm, HB.out⟩
    · have f6 : (rn != 0) = true := by simpa using h6
      have HZ := fin true (by rw [HC.out]; simp [h1, h2, h6])
      clear HC fin
      go_enter Try.func7, Try.ntmps7
      go_wp2_with fail
      go_ret
      exact ⟨ret_bool HZ.out.symm, HB.out⟩
  · have f5 : (er != 11) = true := by simpa using h5
    have HZ := fin true (by rw [HC.out]; simp [h1, h2, h4, h5])
    clear HC fin
    go_enter Try.func7, Try.ntmps7
    go_wp2_with fail
    go_ret
    exact ⟨ret_bool HZ.out.symm, HB.out⟩
end Go.Proofs.Ythimpgnagjgmdaa
