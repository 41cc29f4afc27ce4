/- Worlds, blocks; slices of rows of cells that a call made, or was handed. Over any program. -/
import Derived.Test.YtagdedjclbmlkaaRows
import Derived.WalkKit
import Derived.Deep.CutBlock
import Derived.WalkSpells
import Derived.WalkLawsBesides
import Derived.Lib.Hide
import Derived.BigQuiet
import Derived.Outline
import Derived.Lib.QuietBelow
import Derived.Deep.MidRow
import Derived.Deep.WholeRow
import Derived.Deep.Quiet
import Derived.Deep.Cut
import Derived.Great.BuildSlice
import Derived.Great.FillDense
import Derived.Laws.AppendOwn
namespace Go.Proofs.Ytagdedjclbmlkaa
open Go.RowKit

theorem ret_bool {a b : Bool} (h : a = b) : Ending.returned (.bool a) = .returned (.bool b) := by rw [h]
theorem lt_heap {w : World} {g : Nat} {x : Obj} (h : w.heap[g]? = some x) : g < w.heap.size := by
  rcases Nat.lt_or_ge g w.heap.size with h' | h'
  · exact h'
  · simp [Array.getElem?_eq_none h'] at h
theorem cell_blk {w : World} {b : Nat} {cs : Array Value} {T : TypeId} {fr : Nat × Nat} (h : w.heap[b]? = some (.cells cs T fr)) (i : Nat) : w.cell? ⟨b, i, none⟩ = cs[i]? := by simp [World.cell?, h]
theorem cell_of {w w' : World} {g : Nat} (he : w'.heap[g]? = w.heap[g]?) (i : Nat) : w'.cell? ⟨g, i, none⟩ = w.cell? ⟨g, i, none⟩ := by simp only [World.cell?, he]
theorem frozen_of {w w' : World} {g : Nat} (he : w'.heap[g]? = w.heap[g]?) (i : Nat) : w'.frozen? ⟨g, i, none⟩ = w.frozen? ⟨g, i, none⟩ := by simp only [World.frozen?, he]
theorem cell_new1 (w : World) (v : Value) (T : TypeId) : (w.alloc (.cells #[v] T)).cell? ⟨w.heap.size, 0, none⟩ = some v := by rw [cell_blk (heap_alloc_new _ _)]; rfl
theorem cellB {B : Nat} {w w' : World} (hb : Below B w w') {b i : Nat} (h : b < B) : w'.cell? ⟨b, i, none⟩ = w.cell? ⟨b, i, none⟩ := hb.cell (p := ⟨b, i, none⟩) h
theorem below_alloc1 (w : World) (A : Obj) : Below w.heap.size w (w.alloc A) := (Below.refl _ _).alloc (Nat.le_refl _) _
theorem below_alloc2 (w : World) (A B : Obj) : Below w.heap.size w ((w.alloc A).alloc B) :=
  ((Below.refl _ _).alloc (Nat.le_refl _) _).alloc (by simp) _
theorem bcell {W w1 : World} (hb : Below W.heap.size W w1) : (∀ b o, b < W.heap.size → w1.cell? ⟨b, o, none⟩ = W.cell? ⟨b, o, none⟩) ∧ (∀ b o, b < W.heap.size → w1.frozen? ⟨b, o, none⟩ = W.frozen? ⟨b, o, none⟩) :=
  ⟨fun b o h => hb.cell (p := ⟨b, o, none⟩) h, fun b o h => hb.frozen (p := ⟨b, o, none⟩) h⟩

/-- One block turned. -/
def putB (w : World) (r : Nat) (o : Obj) : World := { w with heap := w.heap.setIfInBounds r o }
theorem putB_same (w : World) (r : Nat) (o o' : Obj) (h : w.heap[r]? = some o') : (putB w r o).heap[r]? = some o := by
  simp [putB, lt_heap h]
theorem putB_other (w : World) (r k : Nat) (o : Obj) (h : k ≠ r) : (putB w r o).heap[k]? = w.heap[k]? := by
  simp only [putB, Array.getElem?_setIfInBounds]
  rw [if_neg (Ne.symm h)]
theorem putB_size (w : World) (r : Nat) (o : Obj) : (putB w r o).heap.size = w.heap.size := by simp [putB]
theorem heap_setCell_self {w : World} {b i : Nat} {cs : Array Value} {T : TypeId} {fr : Nat × Nat} (v : Value) (h : w.heap[b]? = some (.cells cs T fr)) : (w.setCell ⟨b, i, none⟩ v).heap[b]? = some (.cells (cs.setIfInBounds i v) T fr) := by
  simp only [World.setCell]
  rw [Array.getElem?_modify, if_pos rfl, h]; rfl
theorem heap_setCell_other {w : World} {b i k : Nat} (v : Value) (h : k ≠ b) : (w.setCell ⟨b, i, none⟩ v).heap[k]? = w.heap[k]? := by
  simp only [World.setCell]
  rw [Array.getElem?_modify, if_neg (Ne.symm h)]

/-- The blocks of S alone may have turned; blocks may have been laid. -/
structure Turn (S : List Nat) (w w' : World) : Prop where
  os : w'.os = w.os
  tape : w'.tape = w.tape
  output : w'.output = w.output
  size : w.heap.size ≤ w'.heap.size
  block : ∀ k, k < w.heap.size → k ∉ S → w'.heap[k]? = w.heap[k]?
theorem Turn.refl (S : List Nat) (w : World) : Turn S w w := ⟨rfl, rfl, rfl, Nat.le_refl _, fun _ _ _ => rfl⟩
theorem Turn.trans {S : List Nat} {a b c : World} (h : Turn S a b) (k : Turn S b c) : Turn S a c :=
  ⟨k.os.trans h.os, k.tape.trans h.tape, k.output.trans h.output, Nat.le_trans h.size k.size, fun i hi hr => (k.block i (by have := h.size; omega) hr).trans (h.block i hi hr)⟩
theorem Turn.mono {S T : List Nat} {w w' : World} (h : Turn S w w') (hs : ∀ k, k < w.heap.size → k ∈ S → k ∈ T) : Turn T w w' :=
  ⟨h.os, h.tape, h.output, h.size, fun k hk ht => h.block k hk fun hm => ht (hs k hk hm)⟩
theorem Turn.of_below {S : List Nat} {w w' : World} (h : Below w.heap.size w w') : Turn S w w' := ⟨h.os, h.tape, h.output, h.size, fun k hk _ => h.block k hk⟩
theorem Turn.put (r : Nat) (w : World) (o : Obj) : Turn [r] w (putB w r o) := ⟨rfl, rfl, rfl, by rw [putB_size]; exact Nat.le_refl _, fun k _ hr => putB_other w r k o (by simpa using hr)⟩
theorem Turn.below {S : List Nat} {B : Nat} {w w' : World} (h : Turn S w w') (hS : ∀ k ∈ S, B ≤ k) (hB : B ≤ w.heap.size) : Below B w w' :=
  ⟨h.os, h.tape, h.output, h.size, fun k hk => h.block k (by omega) (fun hm => by have := hS k hm; omega)⟩
theorem Turn.drew (S : List Nat) (w : World) : Turn S w { w with drawn := w.drawn + 1 } := ⟨rfl, rfl, rfl, Nat.le_refl _, fun _ _ _ => rfl⟩
theorem Turn.drewN {S : List Nat} {a w : World} (h : Turn S a w) (n : Nat) : Turn S a (w.drewN n) := h.trans ⟨rfl, rfl, rfl, Nat.le_refl _, fun _ _ _ => rfl⟩
theorem Turn.setCell (b i : Nat) (v : Value) (w : World) : Turn [b] w (w.setCell ⟨b, i, none⟩ v) :=
  ⟨rfl, rfl, rfl, by simp [World.setCell], fun k _ hr => heap_setCell_other v (by simpa using hr)⟩
theorem Turn.alloc (S : List Nat) (w : World) (o : Obj) : Turn S w (w.alloc o) := Turn.of_below (below_alloc1 w o)

/-! Ranges of cells. -/
theorem range_of_block {w w' : World} {b o : Nat} {cs : List Value} (h : w.rangeAt b o cs) (he : w'.heap[b]? = w.heap[b]?) : w'.rangeAt b o cs := fun j v hv => by
  rw [cell_of he]; exact h j v hv
theorem range_of_cells {w : World} {g : Nat} {cs : Array Value} {t : TypeId} {fr : Nat × Nat} (hg : w.heap[g]? = some (.cells cs t fr)) (i : Nat) (vs : List Value) (h : ∀ j v, vs[j]? = some v → cs[i + j]? = some v) : w.rangeAt g i vs := fun j v hv => by
  rw [cell_blk hg]; exact h j v hv
theorem range_whole {w : World} {g : Nat} {vs : List Value} {t : TypeId} {fr : Nat × Nat} (hg : w.heap[g]? = some (.cells vs.toArray t fr)) : w.rangeAt g 0 vs :=
  range_of_cells hg 0 vs fun j v hv => by simpa using hv
theorem range_app_left {w : World} {b o : Nat} {xs ys : List Value} (h : w.rangeAt b o (xs ++ ys)) : w.rangeAt b o xs := fun j v hv =>
  h j v (by rw [List.getElem?_append_left (List.getElem?_eq_some_iff.1 hv).1]; exact hv)
theorem range_app_right {w : World} {b o : Nat} {xs ys : List Value} (h : w.rangeAt b o (xs ++ ys)) (n : Nat) (hn : xs.length = n) : w.rangeAt b (o + n) ys := fun j v hv => by
  rw [Nat.add_assoc]
  refine h (n + j) v ?_
  rw [List.getElem?_append_right (by omega), hn, Nat.add_sub_cancel_left]; exact hv

/-! Elements of k cells each. -/
section
variable {α : Type} {enc : α → List Value} {k : Nat}
theorem flat_len (hk : ∀ x, (enc x).length = k) : ∀ xs : List α, (xs.flatMap enc).length = xs.length * k
  | [] => by simp
  | x :: xs => by rw [List.flatMap_cons, List.length_append, hk, flat_len hk xs, List.length_cons, Nat.succ_mul]; omega
theorem flat_drop (hk : ∀ x, (enc x).length = k) : ∀ (xs : List α) (i : Nat), (xs.drop i).flatMap enc = (xs.flatMap enc).drop (i * k)
  | xs, 0 => by simp
  | [], i + 1 => by simp
  | x :: xs, i + 1 => by
    rw [List.drop_succ_cons, flat_drop hk xs i, List.flatMap_cons, Nat.succ_mul, Nat.add_comm (i * k) k, ← hk x, List.drop_append]
    simp
theorem flat_take (hk : ∀ x, (enc x).length = k) : ∀ (xs : List α) (i : Nat), (xs.take i).flatMap enc = (xs.flatMap enc).take (i * k)
  | xs, 0 => by simp
  | [], i + 1 => by simp
  | x :: xs, i + 1 => by
    rw [List.take_succ_cons, List.flatMap_cons, List.flatMap_cons, flat_take hk xs i, Nat.succ_mul, Nat.add_comm (i * k) k, List.take_append, hk x]
    rw [List.take_of_length_le (l := enc x) (by rw [hk x]; omega), Nat.add_sub_cancel_left]
/-- What lies from q on reads as xs. -/
def SlAt (enc : α → List Value) (k : Nat) (w : World) (q : Option Addr) (xs : List α) : Prop :=
  ∀ i (h : i < xs.length), ∃ b o, q = some ⟨b, o, none⟩ ∧ b < w.heap.size ∧ w.rangeAt b (o + i * k) (enc xs[i])
theorem SlAt.nil (w : World) (q : Option Addr) : SlAt enc k w q [] := fun i h => by simp at h
theorem SlAt.below {w w' : World} {q : Option Addr} {xs : List α} (h : SlAt enc k w q xs) (hb : Below w.heap.size w w') : SlAt enc k w' q xs := fun i hi => by
  obtain ⟨b, o, h1, h2, h3⟩ := h i hi
  exact ⟨b, o, h1, Nat.lt_of_lt_of_le h2 hb.size, range_of_block h3 (hb.block b h2)⟩
/-- At a world that has laid blocks since, or turned some of this call's own. -/
theorem SlAt.belowB {B : Nat} {w w' : World} {q : Option Addr} {xs : List α} (h : SlAt enc k w q xs) (hb : Below B w w') (hq : ∀ a, q = some a → a.block < B) : SlAt enc k w' q xs := fun i hi => by
  obtain ⟨b, o, h1, h2, h3⟩ := h i hi
  exact ⟨b, o, h1, Nat.lt_of_lt_of_le h2 hb.size, range_of_block h3 (hb.block b (hq _ h1))⟩
theorem SlAt.take {w : World} {q : Option Addr} {xs : List α} (h : SlAt enc k w q xs) (n : Nat) : SlAt enc k w q (xs.take n) := fun i hi => by
  rw [List.length_take] at hi
  obtain ⟨b, o, h1, h2, h3⟩ := h i (by omega)
  exact ⟨b, o, h1, h2, by rw [List.getElem_take]; exact h3⟩
theorem SlAt.drop {w : World} {b o : Nat} {xs : List α} (h : SlAt enc k w (some ⟨b, o, none⟩) xs) (n : Nat) : SlAt enc k w (some ⟨b, o + n * k, none⟩) (xs.drop n) := fun i hi => by
  rw [List.length_drop] at hi
  obtain ⟨b', o', h1, h2, h3⟩ := h (n + i) (by omega)
  simp only [Option.some.injEq, Addr.mk.injEq] at h1
  obtain ⟨rfl, rfl, _⟩ := h1
  refine ⟨b, o + n * k, rfl, h2, ?_⟩
  rw [List.getElem_drop, Nat.add_assoc, ← Nat.add_mul]; exact h3
theorem range_nth (hk : ∀ x, (enc x).length = k) {w : World} {b o : Nat} {xs : List α} (h : w.rangeAt b o (xs.flatMap enc)) (i : Nat) (hi : i < xs.length) : w.rangeAt b (o + i * k) (enc xs[i]) := by
  have e : xs.flatMap enc = (xs.take i).flatMap enc ++ (enc xs[i] ++ (xs.drop (i + 1)).flatMap enc) := by
    rw [← List.flatMap_cons, ← List.flatMap_append, ← List.drop_eq_getElem_cons hi, List.take_append_drop]
  rw [e] at h
  have hl : ((xs.take i).flatMap enc).length = i * k := by rw [flat_len hk, List.length_take, Nat.min_eq_left (Nat.le_of_lt hi)]
  exact range_app_left (range_app_right h _ hl)
/-- A slice that the call itself made (nil too). -/
def OwnE (enc : α → List Value) (E : TypeId) (k : Nat) (w : World) (base : Nat) (v : Value) (xs : List α) : Prop := w.ownsRow base E k v xs.length (xs.flatMap enc)
theorem OwnE.nil {E : TypeId} (w : World) (base : Nat) : OwnE enc E k w base (.slice none 0 0) [] := ⟨by simp, .inl ⟨rfl, rfl⟩⟩
theorem OwnE.block {E : TypeId} {w w' : World} {base : Nat} {v : Value} {xs : List α} (h : OwnE enc E k w base v xs) (he : ∀ g, v.ownBlock = some g → w'.heap[g]? = w.heap[g]?) : OwnE enc E k w' base v xs := by
  obtain ⟨h1, h2 | ⟨g, cap, cur, hv, hg, hh, r⟩⟩ := h
  · exact ⟨h1, .inl h2⟩
  · exact ⟨h1, .inr ⟨g, cap, cur, hv, hg, (he g (by rw [hv]; rfl)).trans hh, r⟩⟩
theorem OwnE.lt {E : TypeId} {w : World} {base : Nat} {v : Value} {xs : List α} (h : OwnE enc E k w base v xs) (g : Nat) (hg : v.ownBlock = some g) : base ≤ g ∧ g < w.heap.size := by
  obtain ⟨h1, h2 | ⟨g', cap, cur, hv, hg', hh, r⟩⟩ := h
  · rw [h2.1] at hg; cases hg
  · rw [hv] at hg
    obtain rfl : g' = g := by simpa [Value.ownBlock] using hg
    exact ⟨hg', lt_heap hh⟩
theorem OwnE.below {E : TypeId} {w w' : World} {base : Nat} {v : Value} {xs : List α} (h : OwnE enc E k w base v xs) (hb : Below w.heap.size w w') : OwnE enc E k w' base v xs :=
  h.block fun g hg => hb.block g (h.lt g hg).2
theorem OwnE.base {E : TypeId} {w : World} {base base' : Nat} {v : Value} {xs : List α} (h : OwnE enc E k w base v xs) (hb : base' ≤ base) : OwnE enc E k w base' v xs :=
  ⟨h.1, h.2.elim Or.inl (fun ⟨g, cap, cur, hv, hg, r⟩ => Or.inr ⟨g, cap, cur, hv, Nat.le_trans hb hg, r⟩)⟩
theorem OwnE.at (hk : ∀ x, (enc x).length = k) {E : TypeId} {w : World} {base : Nat} {v : Value} {xs : List α} (h : OwnE enc E k w base v xs) : ∃ q cap, v = .slice q xs.length cap ∧ xs.length ≤ cap ∧ cap ≤ maxLen ∧ SlAt enc k w q xs ∧ ∀ a, q = some a → base ≤ a.block ∧ a.block < w.heap.size := by
  obtain ⟨h1, ⟨rfl, h2⟩ | ⟨g, cap, cur, rfl, hg, hh, hc, hm, hs, ht⟩⟩ := h
  · obtain rfl := List.length_eq_zero_iff.1 h2
    exact ⟨none, 0, rfl, Nat.le_refl _, by unfold maxLen; omega, SlAt.nil _ _, fun a h => by cases h⟩
  · refine ⟨_, cap, rfl, hc, hm, fun i hi => ⟨g, 0, rfl, lt_heap hh, ?_⟩, fun a h => by cases h; exact ⟨hg, lt_heap hh⟩⟩
    refine range_nth hk (o := 0) (fun j u hu => ?_) i hi
    rw [Nat.zero_add, cell_blk hh]
    have hj := (List.getElem?_eq_some_iff.1 hu).1
    rw [← ht, List.getElem?_take_of_lt (by rw [← ht, List.length_take] at hj; omega)] at hu
    simpa using hu
theorem OwnE.slice {E : TypeId} {w : World} {base : Nat} {v : Value} {xs : List α} (h : OwnE enc E k w base v xs) : ∃ p cap, v = .slice p xs.length cap := by
  obtain ⟨_, ⟨rfl, h2⟩ | ⟨g, cap, cur, rfl, _⟩⟩ := h
  · exact ⟨none, 0, by rw [h2]⟩
  · exact ⟨_, _, rfl⟩
end
def slen : Value → Nat
  | .slice _ n _ => n
  | _ => 0
theorem OwnE.slen {α : Type} {enc : α → List Value} {k : Nat} {E : TypeId} {w : World} {base : Nat} {v : Value} {xs : List α} (h : OwnE enc E k w base v xs) : slen v = xs.length := by
  obtain ⟨p, cap, rfl⟩ := h.slice; rfl
theorem grown_below {B : Nat} {w w' : World} {v : Value} (h : w.grownBy w' v.ownBlock) (hv : ∀ g, v.ownBlock = some g → B ≤ g) (hB : B ≤ w.heap.size) : Below B w w' :=
  (Below.refl B w).grown h hB hv

section
variable {P : Program} {α : Type} {enc : α → List Value} {k : Nat} {ops : Array Oper} {rest : List Oper} {o : Oper} {a : Act} {w : World} {Q : Exit → Act → World → Prop}
/-- append(s, y): y in a row of its own. -/
theorem wl_app1 (T E : TypeId) (bytes : Nat) (z : Value) (hT : P.underlying T = some (.slice E)) (hinf : (P.info? E).map (fun i => (i.zero, i.size, i.bytes)) = some (some z, k, bytes)) (hzk : z.cells.size = k) (hk0 : 0 < k) (hk : ∀ x, (enc x).length = k) (h1 : ∀ x, ∀ u ∈ enc x, u.oneCell' = true)
    (hgd : o.guard = none) (s x : Operand) (ho : o.op = .call { callee := .builtin .append, args := #[s, x], argTypes := #[T, T] })
    (base : Nat) (v : Value) (xs : List α) (hs : a.eval s = v) (hown : OwnE enc E k w base v xs) (b c : Nat) (y : α) (hx : a.eval x = .slice (some ⟨b, 0, none⟩) 1 c)
    (hr : w.rangeAt b 0 (enc y)) (hlen : (xs.length + 1) * bytes ≤ 140737488355328) (hm : xs.length + 1 ≤ maxLen) (hbase : base ≤ w.heap.size)
    (h : ∀ v' w', OwnE enc E k w' base v' (xs ++ [y]) → w.grownBy w' v.ownBlock → wpList P ops Q rest (a.put o.dst v') w') : wpList P ops Q (o :: rest) a w := by
  obtain ⟨i, hi, hz, hsz, hby⟩ := info_parts hinf
  refine wpList_append_own w hgd s x T ho base E i z k bytes hT hi hz hsz hby hzk hk0 v xs.length (xs.flatMap enc) hs hown ⟨b, 0, none⟩ 1 c (enc y) hx (by rw [hk, Nat.one_mul]) ?_ (h1 y) hm hlen hbase ?_
  · intro j u hu
    rw [Addr.add_mid]
    exact hr j u hu
  · intro v' w' h1 h2 _
    refine h v' w' ?_ h2
    have e : (xs ++ [y]).flatMap enc = xs.flatMap enc ++ enc y := by simp
    unfold OwnE
    rw [e, List.length_append]
    exact h1
/-- []E{y}, y a row of k cells. -/
theorem wl_bs1 (T E : TypeId) (bytes : Nat) (z : Value) (hT : P.underlying T = some (.slice E)) (hinf : (P.info? E).map (fun i => (i.zero, i.size, i.bytes)) = some (some z, k, bytes)) (_ : z.cells.size = k) (hk0 : 0 < k) (hk2 : k ≤ 1000000) (hk : ∀ x, (enc x).length = k)
    (hw : Region.wanted o (yielded ops a.tmps) = true) (x : Operand) (ho : o.op = .buildSlice T 1 #[(0, x)]) (y : α) (hx : a.eval x = .agg (enc y).toArray)
    (h : wpList P ops Q rest (a.put o.dst (.slice (some ⟨w.heap.size, 0, none⟩) 1 1)) (w.alloc (.cells (enc y).toArray E))) : wpList P ops Q (o :: rest) a w :=
  wpList_step fun _ hK => by
    rw [if_pos hw]
    obtain ⟨ie, hie, hz, hsz, hby⟩ := info_parts hinf
    have hb := run_buildSlice (P := P) w T E 1 #[(0, .agg (enc y).toArray)] (enc y).toArray ie z hT hie hz (by rw [hsz]; omega) (by rw [hsz]; omega) (by
      rw [hsz]
      have := Great.fill_whole (s := k) hk0 [.agg (enc y).toArray] ((Array.range (1 * k)).map (z.cells[· % z.cells.size]!)) (fun v hv => by
        simp at hv; subst hv
        show (enc y).toArray.size = k
        simp [hk]) (by simp)
      simp only [List.zipIdx_cons, List.zipIdx_nil, List.map_cons, List.map_nil] at this
      rw [this]
      simp [Value.cells])
    unfold Oper.wp execOp
    have hp : (#[(0, x)].map fun (p : Nat × Operand) => (p.1, a.eval p.2)) = #[(0, Value.agg (enc y).toArray)] := by simp [hx]
    simp only [ho, Sem.run_bind, hp, hb, Result.andThen_ok]
    exact hK _ _ h
/-- A load of a row of cells, from wherever it lies. -/
theorem wl_ldr (hw : Region.wanted o (yielded ops a.tmps) = true) (T : TypeId) (x : Operand) (ho : o.op = .load T x)
    (b i : Nat) (cs : List Value) (d : TypeDesc) (hu : P.underlying T = some d) (hd : d.isRow = true) (hi : (P.info? T).map (·.size) = some cs.length) (hx : a.eval x = .pointer (some ⟨b, i, none⟩)) (hc : w.rangeAt b i cs)
    (h : wpList P ops Q rest (a.put o.dst (.agg cs.toArray)) w) : wpList P ops Q (o :: rest) a w :=
  wpList_step fun _ hK => by
    rw [if_pos hw]
    have := run_loadAt_mid (P := P) _ b i T cs d hc hu hd hi
    unfold Oper.wp execOp
    simp only [ho, hx, Sem.run_bind, this, Result.andThen_ok, Sem.run_pure]
    exact hK _ _ h
/-- A store of a whole row into the block that holds just it. -/
theorem wl_str (hgd : o.guard = none) (T : TypeId) (x y : Operand) (ho : o.op = .store T x y) (g : Nat) (cs old : Array Value) (T' : TypeId)
    (hi : (P.info? T).map (·.size) = some cs.size) (hs : cs.size = old.size) (h1 : cs.all (·.oneCell') = true) (hx : a.eval x = .pointer (some ⟨g, 0, none⟩)) (hy : a.eval y = .agg cs) (hg : w.heap[g]? = some (.cells old T'))
    (h : wpList P ops Q rest (a.put o.dst undef) (w.setRow g cs)) : wpList P ops Q (o :: rest) a w :=
  wpList_store_row hgd T x y ho g cs hx hy T' old hg hi hs.symm h1 h
end
section
variable {P : Program} {ops : Array Oper} {C : World → Prop} {Q : Act → Prop} {a : Act} {o : Oper} {rest : List Oper}

theorem wq_skip (hw : Region.wanted o (yielded ops a.tmps) = false) (h : wpQuiet P ops C Q rest (a.put o.dst undef)) : wpQuiet P ops C Q (o :: rest) a := by
  unfold wpQuiet; rw [if_neg (by rw [hw]; exact Bool.false_ne_true)]; exact h
theorem wq_val (v : Value) (hw : Region.wanted o (yielded ops a.tmps) = true) (hv : ∀ w, (execOp a.eval o).run P w = .ok (.value v) w) (h : wpQuiet P ops C Q rest (a.put o.dst v)) : wpQuiet P ops C Q (o :: rest) a := by
  unfold wpQuiet; rw [if_pos hw]
  exact ⟨v, fun w _ => by unfold Oper.quietAt; rw [hv w]; exact ⟨rfl, rfl⟩, h⟩
theorem wq_valC (v : Value) (hw : Region.wanted o (yielded ops a.tmps) = true) (hv : ∀ w, C w → (execOp a.eval o).run P w = .ok (.value v) w) (h : wpQuiet P ops C Q rest (a.put o.dst v)) : wpQuiet P ops C Q (o :: rest) a := by
  unfold wpQuiet; rw [if_pos hw]
  exact ⟨v, fun w hC => by unfold Oper.quietAt; rw [hv w hC]; exact ⟨rfl, rfl⟩, h⟩
theorem wq_call (f : FuncId) (args : Array Value) (v : Value) (hw : Region.wanted o (yielded ops a.tmps) = true) (hv : ∀ w, (execOp a.eval o).run P w = .ok (.enter f args) w)
    (hc : ∀ w, C w → Calls P f args w fun e w' => e = .returned v ∧ C w') (h : wpQuiet P ops C Q rest (a.put o.dst v)) : wpQuiet P ops C Q (o :: rest) a := by
  unfold wpQuiet; rw [if_pos hw]
  exact ⟨v, fun w hC => by unfold Oper.quietAt; rw [hv w]; exact ⟨rfl, hc w hC⟩, h⟩

theorem wpList_of_quiet {K : Exit → Act → World → Prop} : ∀ (l : List Oper) (a : Act) (w : World), C w → wpQuiet P ops C (fun a' => ∀ w', C w' → K .normal a' w') l a → wpList P ops K l a w
  | [], a, w, hw, h => h w hw
  | o :: l, a, w, hw, h => by
    unfold wpQuiet at h
    unfold wpList
    split
    · rename_i hwa
      rw [if_pos hwa] at h
      exact .inl (Oper.wp_of_quiet hw (fun a' w' hw' hk => wpList_of_quiet l a' w' hw' hk) h)
    · rename_i hwa
      rw [if_neg hwa] at h
      exact wpList_of_quiet l _ w hw h
/-- A region that keeps the text's order. -/
theorem wp_region_lexC {id : Nat} {K : Exit → Act → World → Prop} {w : World} {l : List Oper} (hC : C w) (h : wpQuiet P l.toArray C (fun a' => ∀ w', C w' → K .normal a' w') l a) : (Code.region id l.toArray false).wp P K a w :=
  wp_region_lit (wpList_of_quiet l a w hC h)
/-- A region that draws its order. -/
theorem wp_region_drawC {id : Nat} {K : Exit → Act → World → Prop} {w : World} {l : List Oper} (hm : P.follows .mixedOrders = true) (hB : Region.lexB .any l.toArray = true) (hC : C { w with drawn := w.drawn + 1 })
    (h : wpQuiet P l.toArray C (fun a' => ∀ w', C w' → K .normal a' w') l a) : (Code.region id l.toArray true).wp P K a w :=
  wp_region_quiet hm hB hC (by simpa using h)
end

theorem wp_region_lex_below {P : Program} {id : Nat} {K : Exit → Act → World → Prop} {a : Act} {w : World} {l : List Oper}
    (h : wpQuiet P l.toArray (fun w' => ∃ p : Regrown, w' = Sort.grow (redrawn w p.d) p.os) (fun a' => ∀ w', (∃ p : Regrown, w' = Sort.grow (redrawn w p.d) p.os) → K .normal a' w') l a) : (Code.region id l.toArray false).wp P K a w :=
  wp_region_lexC (C := fun w' => ∃ p : Regrown, w' = Sort.grow (redrawn w p.d) p.os) ⟨⟨w.drawn, #[]⟩, by rw [Sort.grow_empty]; rfl⟩ h

/-- A store of a whole row into the block that was laid last. -/
theorem wl_strn {P : Program} {ops : Array Oper} {rest : List Oper} {o : Oper} {a : Act} {w : World} {Q : Exit → Act → World → Prop} (hgd : o.guard = none) (T : TypeId) (x y : Operand) (ho : o.op = .store T x y) (cs old : Array Value) (T' : TypeId)
    (hi : (P.info? T).map (·.size) = some cs.size) (hs : cs.size = old.size) (h1 : cs.all (·.oneCell') = true) (hx : a.eval x = .pointer (some ⟨w.heap.size, 0, none⟩)) (hy : a.eval y = .agg cs)
    (h : wpList P ops Q rest (a.put o.dst undef) (w.alloc (.cells cs T'))) : wpList P ops Q (o :: rest) a (w.alloc (.cells old T')) :=
  wpList_store_row hgd T x y ho w.heap.size cs hx hy T' old (heap_alloc_new _ _) hi hs.symm h1 (by rw [World.setRow_alloc_new]; exact h)
section
variable {P : Program} {ops : Array Oper} {Q : Act → Prop} {a : Act} {o : Oper} {rest : List Oper}
/-- In a region that reads and grows: a load of a row. -/
theorem wq_ldr {W : World} (hw : Region.wanted o (yielded ops a.tmps) = true) (T : TypeId) (x : Operand) (ho : o.op = .load T x) (b i : Nat) (cs : List Value) (d : TypeDesc) (hu : P.underlying T = some d) (hd : d.isRow = true) (hi : (P.info? T).map (·.size) = some cs.length)
    (hx : a.eval x = .pointer (some ⟨b, i, none⟩)) (hc : W.rangeAt b i cs) (hb : b < W.heap.size)
    (h : wpQuiet P ops (fun w' => ∃ p : Regrown, w' = Sort.grow (redrawn W p.d) p.os) Q rest (a.put o.dst (.agg cs.toArray))) : wpQuiet P ops (fun w' => ∃ p : Regrown, w' = Sort.grow (redrawn W p.d) p.os) Q (o :: rest) a := by
  refine wq_valC (.agg cs.toArray) hw (fun w hC => ?_) h
  obtain ⟨⟨dq, osq⟩, rfl⟩ := hC
  have hc' := range_of_block hc ((below_regrown W dq osq).block b hb)
  have := run_loadAt_mid (P := P) _ b i T cs d hc' hu hd hi
  unfold execOp
  simp only [ho, hx, Sem.run_bind, this, Result.andThen_ok, Sem.run_pure]
end
theorem rg_call {W : World} {P : Program} {f : FuncId} {args : Array Value} {v : Value} (h : ∀ w, Calls P f args w fun e w' => e = .returned v ∧ Below w.heap.size w w') (d : Nat) (os : Array Obj) :
    Calls P f args (Sort.grow (redrawn W d) os) fun e w'' => e = .returned v ∧ ∃ p : Regrown, w'' = Sort.grow (redrawn W p.d) p.os := Calls.regrown_of (h _)
theorem rg_call0 {W : World} {P : Program} {f : FuncId} {args : Array Value} {v : Value} (h : ∀ w, Calls P f args w fun e w' => e = .returned v ∧ w = w') (d : Nat) (os : Array Obj) :
    Calls P f args (Sort.grow (redrawn W d) os) fun e w'' => e = .returned v ∧ ∃ p : Regrown, w'' = Sort.grow (redrawn W p.d) p.os :=
  Calls.regrown_of ((h _).mono fun _ _ ⟨he, hw⟩ => ⟨he, hw ▸ Below.refl _ _⟩)
theorem rg_block {W : World} {g : Nat} {o : Obj} (h : W.heap[g]? = some o) (d : Nat) (os : Array Obj) : (Sort.grow (redrawn W d) os).heap[g]? = some o := by
  rw [(below_regrown W d os).block g (lt_heap h)]; exact h
end Go.Proofs.Ytagdedjclbmlkaa
