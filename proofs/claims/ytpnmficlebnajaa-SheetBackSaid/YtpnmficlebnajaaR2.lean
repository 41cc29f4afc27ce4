/- The reference's Pad. -/
import Derived.Test.YtpnmficlebnajaaR
namespace Go.Proofs.Ytpnmficlebnajaa
open Go.RowKit

theorem res_row22 {fn : Func} {p : Tmp} (h : fn.results = #[.cell p 39]) (tmps : Array Value) (w : World) (g : Nat) (l : List UInt8) (fr : Nat × Nat)
    (hp : tmps.getD p undef = .pointer (some ⟨g, 0, none⟩)) (hg : w.heap[g]? = some (.cells (bC l) 39 fr)) (hl : l.length = 12) :
    (results fn tmps).run Try.prog w = .ok (.agg (bC l)) w :=
  results_cell_row h tmps w g 39 (bC l) fr _ hp hg Try.underlying39 rfl (by rw [info22, bC_size, hl])
theorem ld22 {ops : Array Oper} {rest : List Oper} {o : Oper} {a : Act} {w : World} {Q : Exit → Act → World → Prop} (hgd : o.guard = none) (x : Operand) (ho : o.op = .load 39 x)
    (g : Nat) (hx : a.eval x = .pointer (some ⟨g, 0, none⟩)) (l : List UInt8) (hl : l.length = 12) (fr : Nat × Nat) (hg : w.heap[g]? = some (.cells (bC l) 39 fr))
    (h : wpList Try.prog ops Q rest (a.put o.dst (.agg (bC l))) w) : wpList Try.prog ops Q (o :: rest) a w :=
  wpList_load_row hgd 39 x ho g hx 39 (bC l) fr _ hg Try.underlying39 rfl (by rw [info22, bC_size, hl]) h
theorem st22 {ops : Array Oper} {rest : List Oper} {o : Oper} {a : Act} {w : World} {Q : Exit → Act → World → Prop} (hgd : o.guard = none) (x y : Operand) (ho : o.op = .store 39 x y)
    (g : Nat) (l : List UInt8) (hx : a.eval x = .pointer (some ⟨g, 0, none⟩)) (hy : a.eval y = .agg (bC l)) (hl : l.length = 12)
    (old : List UInt8) (hg : w.heap[g]? = some (.cells (bC old) 39 (0, 0))) (hold : old.length = 12)
    (h : wpList Try.prog ops Q rest (a.put o.dst undef) (w.setRow g (bC l))) : wpList Try.prog ops Q (o :: rest) a w :=
  wpList_store_row hgd 39 x y ho g (bC l) hx hy 39 (bC old) hg (by rw [info22, bC_size, hl]) (by rw [bC_size, bC_size, hl, hold]) (bC_one l) h

theorem pad_take (l : List UInt8) (k : Nat) (h : l.length ≤ k ∨ 12 ≤ k) : pad (l.take k) = pad l := by
  rcases h with h | h
  · rw [List.take_of_length_le h]
  · unfold pad
    rw [List.take_take, Nat.min_eq_left h]
    by_cases hl : l.length ≤ 12
    · rw [List.take_of_length_le (show l.length ≤ k by omega)]
    · simp; omega

set_option maxHeartbeats 400000 in
theorem pad_any (s : ByteArray) (w : World) (hs : s.size ≤ maxLen) :
    Calls Try.prog 34 #[.string s] w fun e w' => e = .returned (.agg (bC (pad s.data.toList))) ∧ Below w.heap.size w w' := by
  unfold maxLen at hs
  go_enter Try.func34, Try.ntmps34
  go_wp2_with fail
  rw [← bC_z12]
  go_loopw [4] (fun i wr => ∃ k : Nat, k ≤ s.size ∧ k ≤ 12 ∧ i = .int .i64 k ∧ wr = (w.alloc (.cells (bC z12) 39)).alloc (.cells (bC (pad (s.data.toList.take k))) 39)) (fun i _ => s.size - (intOf i).toNat)
  case atStart => exact ⟨0, Nat.zero_le _, Nat.zero_le _, rfl, by rw [List.take_zero, pad_nil]⟩
  case round =>
    obtain ⟨k, hk, hk12, rfl, rfl⟩ := hrel
    by_cases hlt : k < s.size ∧ k < 12
    · obtain ⟨hlt, hlt2⟩ := hlt
      have hc := bC_get (pad (s.data.toList.take k)) k (by rw [pad_length]; omega)
      go_wp2_with fail
      go_roundw
      case rel =>
        refine ⟨k + 1, by omega, by omega, by go_num, ?_⟩
        rw [bC_set, ← at_list s k hlt, pad_snoc s.data.toList k (by simpa using hlt) (by omega)]
      case measure => simp [intOf]; omega
    · have hp : pad (s.data.toList.take k) = pad s.data.toList := pad_take _ _ (by rw [Array.length_toList]; show s.size ≤ k ∨ 12 ≤ k; omega)
      rw [hp]
      clear hp
      have hq : k < s.size → ¬ k < 12 := fun a b => hlt ⟨a, b⟩
      clear hlt
      by_cases hlt : k < s.size
      · have hlt2 := hq hlt
        clear hq
        go_wp2_with (first
          | (with_reducible refine ld22 rfl _ rfl (w.heap.size + 1) rfl (pad s.data.toList) (pad_length _) (0, 0) (heap_alloc2_new _ _ _) ?_)
          | (with_reducible refine st22 rfl _ _ rfl w.heap.size (pad s.data.toList) rfl rfl (pad_length _) z12 (heap_alloc2_old _ _ _) rfl ?_))
        refine bodyPost_ret (res_row22 rfl _ _ w.heap.size (pad s.data.toList) (0, 0) rfl (setRow_heap _ _ _ _ _ _ (heap_alloc2_old _ _ _)) (pad_length _)) rfl ?_
        exact ⟨rfl, below_setRow (below_alloc2 _ _ _) (Nat.le_refl _) _⟩
      · clear hq
        go_wp2_with (first
          | (with_reducible refine ld22 rfl _ rfl (w.heap.size + 1) rfl (pad s.data.toList) (pad_length _) (0, 0) (heap_alloc2_new _ _ _) ?_)
          | (with_reducible refine st22 rfl _ _ rfl w.heap.size (pad s.data.toList) rfl rfl (pad_length _) z12 (heap_alloc2_old _ _ _) rfl ?_))
        refine bodyPost_ret (res_row22 rfl _ _ w.heap.size (pad s.data.toList) (0, 0) rfl (setRow_heap _ _ _ _ _ _ (heap_alloc2_old _ _ _)) (pad_length _)) rfl ?_
        exact ⟨rfl, below_setRow (below_alloc2 _ _ _) (Nat.le_refl _) _⟩

end Go.Proofs.Ytpnmficlebnajaa
