/- Sheet: rows of a call's own, stored into and put together. -/
import Derived.Test.YtpnmficlebnajaaF10
import Derived.Laws.OwnMore
import Derived.Test.YtpnmficlebnajaaGX
namespace Go.Proofs.Ytpnmficlebnajaa
open Go.RowKit

/-- What a row of one's own lies like. -/
theorem OwnE.form {α : Type} {enc : α → List Value} {k : Nat} {E : TypeId} {w : World} {base : Nat} {v : Value} {xs : List α} (h : OwnE enc E k w base v xs) (hn : 0 < xs.length) : ∃ g cap, v = .slice (some ⟨g, 0, none⟩) xs.length cap ∧ base ≤ g ∧ g < w.heap.size ∧ xs.length ≤ cap ∧ cap ≤ maxLen := by
  obtain ⟨h1, ⟨rfl, h2⟩ | ⟨g, cap, cur, rfl, hg, hh, hc, hm, hs, ht⟩⟩ := h
  · omega
  · exact ⟨g, cap, rfl, hg, lt_heap hh, hc, hm⟩
theorem flat_set {α : Type} {enc : α → List Value} {k : Nat} (hk : ∀ x, (enc x).length = k) (y : α) (c : Nat) (u : Value) : ∀ (xs : List α) (j : Nat) (h : j < xs.length), c < k → enc y = (enc xs[j]).set c u → (xs.flatMap enc).set (j * k + c) u = (xs.set j y).flatMap enc
  | [], j, h, _, _ => by simp at h
  | x :: xs, 0, _, hc, he => by
    simp only [List.getElem_cons_zero] at he
    simp only [Nat.zero_mul, Nat.zero_add, List.flatMap_cons, List.set_cons_zero]
    rw [List.set_append_left _ _ (by rw [hk]; exact hc), he]
  | x :: xs, j + 1, h, hc, he => by
    simp only [List.getElem_cons_succ] at he
    have ih := flat_set hk y c u xs j (by simpa using h) hc he
    simp only [List.flatMap_cons, List.set_cons_succ]
    rw [List.set_append_right _ _ (by rw [hk, Nat.succ_mul]; omega), hk, show (j + 1) * k + c - k = j * k + c by rw [Nat.succ_mul]; omega, ih]
/-- A cell of an element, stored. -/
theorem OwnE.stored {α : Type} {enc : α → List Value} {k : Nat} (hk : ∀ x, (enc x).length = k) {E : TypeId} {w : World} {base g n cap : Nat} {xs : List α} (h : OwnE enc E k w base (.slice (some ⟨g, 0, none⟩) n cap) xs) (hn : n = xs.length) (j : Nat) (hj : j < xs.length) (c : Nat) (hc : c < k) (u : Value) (y : α) (he : enc y = (enc xs[j]).set c u) :
    OwnE enc E k (w.setCell ⟨g, j * k + c, none⟩ u) base (.slice (some ⟨g, 0, none⟩) n cap) (xs.set j y) ∧ w.grownBy (w.setCell ⟨g, j * k + c, none⟩ u) (some g) := by
  subst hn
  have := World.ownsRow.stored h (j * k + c) u
  unfold OwnE
  rw [← flat_set hk y c u xs j hj hc he, List.length_set]
  exact this
theorem OwnE.cell {α : Type} {enc : α → List Value} {k : Nat} (hk : ∀ x, (enc x).length = k) {E : TypeId} {w : World} {base g n cap : Nat} {xs : List α} (h : OwnE enc E k w base (.slice (some ⟨g, 0, none⟩) n cap) xs) (j : Nat) (hj : j < xs.length) : w.rangeAt g (j * k) (enc xs[j]) ∧ ∀ c, w.frozen? ⟨g, j * k + c, none⟩ = false := by
  obtain ⟨q, cap', hv, _, _, hq, _⟩ := h.at hk
  simp only [Value.slice.injEq] at hv
  obtain ⟨rfl, rfl, rfl⟩ := hv
  refine ⟨?_, fun c => World.ownsRow.frozenAt h _⟩
  obtain ⟨h1, ⟨h2, _⟩ | ⟨g', cap'', cur, h2, hg, hh, hc, hm, hs, ht⟩⟩ := h
  · simp at h2
  · simp only [Value.slice.injEq, Option.some.injEq, Addr.mk.injEq, and_true, true_and] at h2
    obtain ⟨rfl, rfl⟩ := h2
    have := range_nth hk (w := w) (b := g) (o := 0) (xs := xs) (fun j u hu => by
      rw [Nat.zero_add, cell_blk hh]
      have hj := (List.getElem?_eq_some_iff.1 hu).1
      rw [← ht, List.getElem?_take_of_lt (by rw [← ht, List.length_take] at hj; omega)] at hu
      simpa using hu) j hj
    rwa [Nat.zero_add] at this
/-- A row of one's own stays while another one turns. -/
theorem OwnE.grown {α : Type} {enc : α → List Value} {k : Nat} {E : TypeId} {w w' : World} {base : Nat} {v : Value} {xs : List α} {row : Option Nat} (h : OwnE enc E k w base v xs) (hg : w.grownBy w' row) (hne : ∀ g, v.ownBlock = some g → row ≠ some g) : OwnE enc E k w' base v xs :=
  h.block fun g hv => hg.block g (h.lt g hv).2 (fun e => hne g hv e.symm)

theorem OwnE.slAt {α : Type} {enc : α → List Value} {k : Nat} (hk : ∀ x, (enc x).length = k) {E : TypeId} {w : World} {base n cap : Nat} {q : Option Addr} {xs : List α} (h : OwnE enc E k w base (.slice q n cap) xs) : SlAt enc k w q xs := by
  obtain ⟨q', cap', hv, _, _, hq, _⟩ := h.at hk
  simp only [Value.slice.injEq] at hv
  rw [hv.1]; exact hq
section
variable {ops : Array Oper} {o : Oper} {a : Act} {w : World} {K : Act → World → Prop} {Q : Exit → Act → World → Prop}
theorem app_Eo (s x : Operand) (ho : o.op = .call { callee := .builtin .append, args := #[s, x], argTypes := #[22, 22] })
    (base : Nat) (v : Value) (xs : List Ent) (hs : a.eval s = v) (hown : OwnE entC 44 13 w base v xs) (q : Option Addr) (m c : Nat) (ys : List Ent) (hx : a.eval x = .slice q m c) (hm : ys.length = m) (hq : SlAt entC 13 w q ys) (hq0 : q = none → c = 0)
    (hlen : xs.length + m ≤ 1000000) (hbase : base ≤ w.heap.size)
    (h : ∀ v' w', OwnE entC 44 13 w' base v' (xs ++ ys) → w.grownBy w' v.ownBlock → (v'.ownBlock = v.ownBlock ∨ v'.ownBlock = some w.heap.size) → K (a.put o.dst v') w') : o.wp Try.prog a w K Q :=
  op_app (k := 13) _ _ 32 _ Try.underlying22 infoE (entC_sz ent0) (by omega) entC_len entC_one s x ho base v xs hs hown q m c ys hx hm hq hq0 (by omega) (by unfold maxLen; omega) hbase h
theorem bs0_Eo (ho : o.op = .buildSlice 22 0 #[]) (base : Nat) (hb : base ≤ w.heap.size)
    (h : ∀ v' w', OwnE entC 44 13 w' base v' [] → w.grownBy w' none → v'.ownBlock = some w.heap.size → K (a.put o.dst v') w') : o.wp Try.prog a w K Q :=
  op_bs0 (enc := entC) (k := 13) _ _ Try.underlying22 sizE ho base hb h
theorem bs1_Eo (x : Operand) (ho : o.op = .buildSlice 22 1 #[(0, x)]) (y : Ent) (hx : a.eval x = .agg (entC y).toArray)
    (h : K (a.put o.dst (.slice (some ⟨w.heap.size, 0, none⟩) 1 1)) (w.alloc (.cells (entC y).toArray 44))) : o.wp Try.prog a w K Q :=
  op_bs1 (k := 13) _ _ 32 _ Try.underlying22 infoE (entC_sz ent0) (by omega) (by omega) entC_len x ho y hx h
theorem slat_one {b : Nat} {y : Ent} (hb : b < w.heap.size) (h : w.rangeAt b 0 (entC y)) : SlAt entC 13 w (some ⟨b, 0, none⟩) [y] := fun i hi => by
  obtain rfl : i = 0 := by simpa using hi
  exact ⟨b, 0, rfl, hb, by simpa using h⟩
theorem y_loadE (x : Operand) (ho : o.op = .load 44 x) (b i : Nat) (y : Ent) (hx : a.eval x = .pointer (some ⟨b, i, none⟩)) (hc : w.rangeAt b i (entC y)) : (execOp a.eval o).run Try.prog w = .ok (.value (.agg (entC y).toArray)) w := by
  have := run_loadAt_mid (P := Try.prog) _ b i 44 (entC y) _ hc Try.underlying44 rfl (sizE' y)
  unfold execOp
  simp only [ho, hx, Sem.run_bind, this, Result.andThen_ok, Sem.run_pure]
theorem y_lo (x y : Operand) (ho : o.op = .slice 22 x (some y) none none) (q : Option Addr) (n co j : Nat) (hx : a.eval x = .slice q n co) (hy : a.eval y = .int .i64 (j : Nat)) (hj : j ≤ n) : (execOp a.eval o).run Try.prog w = .ok (.value (.slice (cutQ 13 q j co) (n - j) (co - j))) w := by
  have := run_sl_lo (P := Try.prog) (k := 13) Try.underlying22 sizE q n co j hj w
  unfold execOp
  simp only [ho, hx, hy, Option.map_some, Option.map_none, Sem.run_bind, this, Result.andThen_ok, Sem.run_pure]
theorem y_hi (x y : Operand) (ho : o.op = .slice 22 x none (some y) none) (q : Option Addr) (n co j : Nat) (hx : a.eval x = .slice q n co) (hy : a.eval y = .int .i64 (j : Nat)) (hj : j ≤ co) : (execOp a.eval o).run Try.prog w = .ok (.value (.slice q j co)) w := by
  have := run_sl_hi (P := Try.prog) (k := 13) Try.underlying22 sizE q n co j hj w
  unfold execOp
  simp only [ho, hx, hy, Option.map_some, Option.map_none, Sem.run_bind, this, Result.andThen_ok, Sem.run_pure]
end
theorem ask_q (n : List UInt8) (W : World) : (binOp .eql 9 (.string ⟨(textQ n).toArray⟩) (.string ⟨#[63]⟩)).run Try.prog W = .ok (.bool (!rightB n)) W := by
  cases hr : rightB n
  · have : textQ n = [63] := by rw [textQ, hr]; rfl
    rw [this]; exact eql9 _ W
  · have hne : (textQ n) ≠ [63] := by
      rw [textQ, if_pos hr]
      intro e
      have h1 := hr
      rw [rightB, Bool.and_eq_true, isName, Bool.and_eq_true, List.all_eq_true] at h1
      rw [textL, if_pos hr] at e
      have := h1.1.2 63 (by rw [e]; simp)
      revert this; decide +kernel
    have hf : ((⟨(textQ n).toArray⟩ : ByteArray).toList == (⟨#[63]⟩ : ByteArray).toList) = false := by
      rw [ByteArray.toList_eq, ByteArray.toList_eq]
      simpa using hne
    go_simp
theorem ask_b (n : List UInt8) : ((⟨(textQ n).toArray⟩ : ByteArray).toList == [63]) = !rightB n := by
  cases hr : rightB n
  · have : textQ n = [63] := by rw [textQ, hr]; rfl
    rw [this]; rw [ByteArray.toList_eq]; rfl
  · have hne : (textQ n) ≠ [63] := by
      rw [textQ, if_pos hr]
      intro e
      have h1 := hr
      rw [rightB, Bool.and_eq_true, isName, Bool.and_eq_true, List.all_eq_true] at h1
      rw [textL, if_pos hr] at e
      have := h1.1.2 63 (by rw [e]; simp)
      revert this; decide +kernel
    rw [ByteArray.toList_eq]
    simpa using hne
theorem lt_place {out : List Ent} {n : List UInt8} {j : Nat} (h : j < placeL out n) : ∃ h2 : j < out.length, lessR out[j].n n = true := by
  have h2 : j < out.length := by have := placeL_le out n; omega
  refine ⟨h2, take_place (out := out) (n := n) out[j] ?_⟩
  rw [List.mem_iff_getElem]
  exact ⟨j, by rw [List.length_take]; omega, by rw [List.getElem_take]⟩
end Go.Proofs.Ytpnmficlebnajaa
