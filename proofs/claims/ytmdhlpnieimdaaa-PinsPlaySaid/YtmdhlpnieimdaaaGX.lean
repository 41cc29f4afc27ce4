/- Texts joined: GX. -/
import Derived.Test.YtmdhlpnieimdaaaRows
import Derived.WalkKit
import Derived.Deep.CutBlock
import Derived.WalkSpells
import Derived.WalkLawsBesides
import Derived.Lib.Hide
import Derived.BigQuiet
import Derived.Outline
import Derived.Lib.QuietBelow
import Derived.Deep.MidRow
import Derived.Deep.WholeRow
import Derived.Deep.Quiet
import Derived.Deep.Cut
import Derived.Great.BuildSlice
import Derived.Great.FillDense
import Derived.Laws.AppendOwn
import Derived.ProofKit
import Derived.OpenShut
import Derived.Deep.Slices
import Derived.Maps.AppendAt
import Derived.Laws.AppendOwnNone
import Derived.Laws.Slices
import Derived.Orders
import Derived.Shelf.Abstract
/- Worlds, blocks; slices of rows of cells that a call made, or was handed. Over any program. -/
namespace Go.Proofs.Ytmdhlpnieimdaaa
open Go.RowKit

theorem ret_bool {a b : Bool} (h : a = b) : Ending.returned (.bool a) = .returned (.bool b) := by rw [h]
theorem lt_heap {w : World} {g : Nat} {x : Obj} (h : w.heap[g]? = some x) : g < w.heap.size := by
  rcases Nat.lt_or_ge g w.heap.size with h' | h'
  · exact h'
  · simp [Array.getElem?_eq_none h'] at h
theorem cell_blk {w : World} {b : Nat} {cs : Array Value} {T : TypeId} {fr : Nat × Nat} (h : w.heap[b]? = some (.cells cs T fr)) (i : Nat) : w.cell? ⟨b, i, none⟩ = cs[i]? := by simp [World.cell?, h]
theorem cell_of {w w' : World} {g : Nat} (he : w'.heap[g]? = w.heap[g]?) (i : Nat) : w'.cell? ⟨g, i, none⟩ = w.cell? ⟨g, i, none⟩ := by simp only [World.cell?, he]
theorem frozen_of {w w' : World} {g : Nat} (he : w'.heap[g]? = w.heap[g]?) (i : Nat) : w'.frozen? ⟨g, i, none⟩ = w.frozen? ⟨g, i, none⟩ := by simp only [World.frozen?, he]
theorem cell_new1 (w : World) (v : Value) (T : TypeId) : (w.alloc (.cells #[v] T)).cell? ⟨w.heap.size, 0, none⟩ = some v := by rw [cell_blk (heap_alloc_new _ _)]; rfl
theorem cellB {B : Nat} {w w' : World} (hb : Below B w w') {b i : Nat} (h : b < B) : w'.cell? ⟨b, i, none⟩ = w.cell? ⟨b, i, none⟩ := hb.cell (p := ⟨b, i, none⟩) h
theorem below_alloc1 (w : World) (A : Obj) : Below w.heap.size w (w.alloc A) := (Below.refl _ _).alloc (Nat.le_refl _) _
theorem below_alloc2 (w : World) (A B : Obj) : Below w.heap.size w ((w.alloc A).alloc B) :=
  ((Below.refl _ _).alloc (Nat.le_refl _) _).alloc (by simp) _
theorem bcell {W w1 : World} (hb : Below W.heap.size W w1) : (∀ b o, b < W.heap.size → w1.cell? ⟨b, o, none⟩ = W.cell? ⟨b, o, none⟩) ∧ (∀ b o, b < W.heap.size → w1.frozen? ⟨b, o, none⟩ = W.frozen? ⟨b, o, none⟩) :=
  ⟨fun b o h => hb.cell (p := ⟨b, o, none⟩) h, fun b o h => hb.frozen (p := ⟨b, o, none⟩) h⟩

/-- One block turned. -/
def putB (w : World) (r : Nat) (o : Obj) : World := { w with heap := w.heap.setIfInBounds r o }
theorem putB_same (w : World) (r : Nat) (o o' : Obj) (h : w.heap[r]? = some o') : (putB w r o).heap[r]? = some o := by
  simp [putB, lt_heap h]
theorem putB_other (w : World) (r k : Nat) (o : Obj) (h : k ≠ r) : (putB w r o).heap[k]? = w.heap[k]? := by
  simp only [putB, Array.getElem?_setIfInBounds]
  rw [if_neg (Ne.symm h)]
theorem putB_size (w : World) (r : Nat) (o : Obj) : (putB w r o).heap.size = w.heap.size := by simp [putB]
theorem heap_setCell_self {w : World} {b i : Nat} {cs : Array Value} {T : TypeId} {fr : Nat × Nat} (v : Value) (h : w.heap[b]? = some (.cells cs T fr)) : (w.setCell ⟨b, i, none⟩ v).heap[b]? = some (.cells (cs.setIfInBounds i v) T fr) := by
  simp only [World.setCell]
  rw [Array.getElem?_modify, if_pos rfl, h]; rfl
theorem heap_setCell_other {w : World} {b i k : Nat} (v : Value) (h : k ≠ b) : (w.setCell ⟨b, i, none⟩ v).heap[k]? = w.heap[k]? := by
  simp only [World.setCell]
  rw [Array.getElem?_modify, if_neg (Ne.symm h)]

/-- The blocks of S alone may have turned; blocks may have been laid. -/
structure Turn (S : List Nat) (w w' : World) : Prop where
  os : w'.os = w.os
  tape : w'.tape = w.tape
  output : w'.output = w.output
  size : w.heap.size ≤ w'.heap.size
  block : ∀ k, k < w.heap.size → k ∉ S → w'.heap[k]? = w.heap[k]?
theorem Turn.refl (S : List Nat) (w : World) : Turn S w w := ⟨rfl, rfl, rfl, Nat.le_refl _, fun _ _ _ => rfl⟩
theorem Turn.trans {S : List Nat} {a b c : World} (h : Turn S a b) (k : Turn S b c) : Turn S a c :=
  ⟨k.os.trans h.os, k.tape.trans h.tape, k.output.trans h.output, Nat.le_trans h.size k.size, fun i hi hr => (k.block i (by have := h.size; omega) hr).trans (h.block i hi hr)⟩
theorem Turn.mono {S T : List Nat} {w w' : World} (h : Turn S w w') (hs : ∀ k, k < w.heap.size → k ∈ S → k ∈ T) : Turn T w w' :=
  ⟨h.os, h.tape, h.output, h.size, fun k hk ht => h.block k hk fun hm => ht (hs k hk hm)⟩
theorem Turn.of_below {S : List Nat} {w w' : World} (h : Below w.heap.size w w') : Turn S w w' := ⟨h.os, h.tape, h.output, h.size, fun k hk _ => h.block k hk⟩
theorem Turn.put (r : Nat) (w : World) (o : Obj) : Turn [r] w (putB w r o) := ⟨rfl, rfl, rfl, by rw [putB_size]; exact Nat.le_refl _, fun k _ hr => putB_other w r k o (by simpa using hr)⟩
theorem Turn.below {S : List Nat} {B : Nat} {w w' : World} (h : Turn S w w') (hS : ∀ k ∈ S, B ≤ k) (hB : B ≤ w.heap.size) : Below B w w' :=
  ⟨h.os, h.tape, h.output, h.size, fun k hk => h.block k (by omega) (fun hm => by have := hS k hm; omega)⟩
theorem Turn.drew (S : List Nat) (w : World) : Turn S w { w with drawn := w.drawn + 1 } := ⟨rfl, rfl, rfl, Nat.le_refl _, fun _ _ _ => rfl⟩
theorem Turn.drewN {S : List Nat} {a w : World} (h : Turn S a w) (n : Nat) : Turn S a (w.drewN n) := h.trans ⟨rfl, rfl, rfl, Nat.le_refl _, fun _ _ _ => rfl⟩
theorem Turn.setCell (b i : Nat) (v : Value) (w : World) : Turn [b] w (w.setCell ⟨b, i, none⟩ v) :=
  ⟨rfl, rfl, rfl, by simp [World.setCell], fun k _ hr => heap_setCell_other v (by simpa using hr)⟩
theorem Turn.alloc (S : List Nat) (w : World) (o : Obj) : Turn S w (w.alloc o) := Turn.of_below (below_alloc1 w o)

/-! Ranges of cells. -/
theorem range_of_block {w w' : World} {b o : Nat} {cs : List Value} (h : w.rangeAt b o cs) (he : w'.heap[b]? = w.heap[b]?) : w'.rangeAt b o cs := fun j v hv => by
  rw [cell_of he]; exact h j v hv
theorem range_of_cells {w : World} {g : Nat} {cs : Array Value} {t : TypeId} {fr : Nat × Nat} (hg : w.heap[g]? = some (.cells cs t fr)) (i : Nat) (vs : List Value) (h : ∀ j v, vs[j]? = some v → cs[i + j]? = some v) : w.rangeAt g i vs := fun j v hv => by
  rw [cell_blk hg]; exact h j v hv
theorem range_whole {w : World} {g : Nat} {vs : List Value} {t : TypeId} {fr : Nat × Nat} (hg : w.heap[g]? = some (.cells vs.toArray t fr)) : w.rangeAt g 0 vs :=
  range_of_cells hg 0 vs fun j v hv => by simpa using hv
theorem range_app_left {w : World} {b o : Nat} {xs ys : List Value} (h : w.rangeAt b o (xs ++ ys)) : w.rangeAt b o xs := fun j v hv =>
  h j v (by rw [List.getElem?_append_left (List.getElem?_eq_some_iff.1 hv).1]; exact hv)
theorem range_app_right {w : World} {b o : Nat} {xs ys : List Value} (h : w.rangeAt b o (xs ++ ys)) (n : Nat) (hn : xs.length = n) : w.rangeAt b (o + n) ys := fun j v hv => by
  rw [Nat.add_assoc]
  refine h (n + j) v ?_
  rw [List.getElem?_append_right (by omega), hn, Nat.add_sub_cancel_left]; exact hv

/-! Elements of k cells each. -/
section
variable {α : Type} {enc : α → List Value} {k : Nat}
theorem flat_len (hk : ∀ x, (enc x).length = k) : ∀ xs : List α, (xs.flatMap enc).length = xs.length * k
  | [] => by simp
  | x :: xs => by rw [List.flatMap_cons, List.length_append, hk, flat_len hk xs, List.length_cons, Nat.succ_mul]; omega
theorem flat_drop (hk : ∀ x, (enc x).length = k) : ∀ (xs : List α) (i : Nat), (xs.drop i).flatMap enc = (xs.flatMap enc).drop (i * k)
  | xs, 0 => by simp
  | [], i + 1 => by simp
  | x :: xs, i + 1 => by
    rw [List.drop_succ_cons, flat_drop hk xs i, List.flatMap_cons, Nat.succ_mul, Nat.add_comm (i * k) k, ← hk x, List.drop_append]
    simp
theorem flat_take (hk : ∀ x, (enc x).length = k) : ∀ (xs : List α) (i : Nat), (xs.take i).flatMap enc = (xs.flatMap enc).take (i * k)
  | xs, 0 => by simp
  | [], i + 1 => by simp
  | x :: xs, i + 1 => by
    rw [List.take_succ_cons, List.flatMap_cons, List.flatMap_cons, flat_take hk xs i, Nat.succ_mul, Nat.add_comm (i * k) k, List.take_append, hk x]
    rw [List.take_of_length_le (l := enc x) (by rw [hk x]; omega), Nat.add_sub_cancel_left]
/-- What lies from q on reads as xs. -/
def SlAt (enc : α → List Value) (k : Nat) (w : World) (q : Option Addr) (xs : List α) : Prop :=
  ∀ i (h : i < xs.length), ∃ b o, q = some ⟨b, o, none⟩ ∧ b < w.heap.size ∧ w.rangeAt b (o + i * k) (enc xs[i])
theorem SlAt.nil (w : World) (q : Option Addr) : SlAt enc k w q [] := fun i h => by simp at h
theorem SlAt.below {w w' : World} {q : Option Addr} {xs : List α} (h : SlAt enc k w q xs) (hb : Below w.heap.size w w') : SlAt enc k w' q xs := fun i hi => by
  obtain ⟨b, o, h1, h2, h3⟩ := h i hi
  exact ⟨b, o, h1, Nat.lt_of_lt_of_le h2 hb.size, range_of_block h3 (hb.block b h2)⟩
/-- At a world that has laid blocks since, or turned some of this call's own. -/
theorem SlAt.belowB {B : Nat} {w w' : World} {q : Option Addr} {xs : List α} (h : SlAt enc k w q xs) (hb : Below B w w') (hq : ∀ a, q = some a → a.block < B) : SlAt enc k w' q xs := fun i hi => by
  obtain ⟨b, o, h1, h2, h3⟩ := h i hi
  exact ⟨b, o, h1, Nat.lt_of_lt_of_le h2 hb.size, range_of_block h3 (hb.block b (hq _ h1))⟩
theorem SlAt.take {w : World} {q : Option Addr} {xs : List α} (h : SlAt enc k w q xs) (n : Nat) : SlAt enc k w q (xs.take n) := fun i hi => by
  rw [List.length_take] at hi
  obtain ⟨b, o, h1, h2, h3⟩ := h i (by omega)
  exact ⟨b, o, h1, h2, by rw [List.getElem_take]; exact h3⟩
theorem SlAt.drop {w : World} {b o : Nat} {xs : List α} (h : SlAt enc k w (some ⟨b, o, none⟩) xs) (n : Nat) : SlAt enc k w (some ⟨b, o + n * k, none⟩) (xs.drop n) := fun i hi => by
  rw [List.length_drop] at hi
  obtain ⟨b', o', h1, h2, h3⟩ := h (n + i) (by omega)
  simp only [Option.some.injEq, Addr.mk.injEq] at h1
  obtain ⟨rfl, rfl, _⟩ := h1
  refine ⟨b, o + n * k, rfl, h2, ?_⟩
  rw [List.getElem_drop, Nat.add_assoc, ← Nat.add_mul]; exact h3
theorem range_nth (hk : ∀ x, (enc x).length = k) {w : World} {b o : Nat} {xs : List α} (h : w.rangeAt b o (xs.flatMap enc)) (i : Nat) (hi : i < xs.length) : w.rangeAt b (o + i * k) (enc xs[i]) := by
  have e : xs.flatMap enc = (xs.take i).flatMap enc ++ (enc xs[i] ++ (xs.drop (i + 1)).flatMap enc) := by
    rw [← List.flatMap_cons, ← List.flatMap_append, ← List.drop_eq_getElem_cons hi, List.take_append_drop]
  rw [e] at h
  have hl : ((xs.take i).flatMap enc).length = i * k := by rw [flat_len hk, List.length_take, Nat.min_eq_left (Nat.le_of_lt hi)]
  exact range_app_left (range_app_right h _ hl)
/-- A slice that the call itself made (nil too). -/
def OwnE (enc : α → List Value) (E : TypeId) (k : Nat) (w : World) (base : Nat) (v : Value) (xs : List α) : Prop := w.ownsRow base E k v xs.length (xs.flatMap enc)
theorem OwnE.nil {E : TypeId} (w : World) (base : Nat) : OwnE enc E k w base (.slice none 0 0) [] := ⟨by simp, .inl ⟨rfl, rfl⟩⟩
theorem OwnE.block {E : TypeId} {w w' : World} {base : Nat} {v : Value} {xs : List α} (h : OwnE enc E k w base v xs) (he : ∀ g, v.ownBlock = some g → w'.heap[g]? = w.heap[g]?) : OwnE enc E k w' base v xs := by
  obtain ⟨h1, h2 | ⟨g, cap, cur, hv, hg, hh, r⟩⟩ := h
  · exact ⟨h1, .inl h2⟩
  · exact ⟨h1, .inr ⟨g, cap, cur, hv, hg, (he g (by rw [hv]; rfl)).trans hh, r⟩⟩
theorem OwnE.lt {E : TypeId} {w : World} {base : Nat} {v : Value} {xs : List α} (h : OwnE enc E k w base v xs) (g : Nat) (hg : v.ownBlock = some g) : base ≤ g ∧ g < w.heap.size := by
  obtain ⟨h1, h2 | ⟨g', cap, cur, hv, hg', hh, r⟩⟩ := h
  · rw [h2.1] at hg; cases hg
  · rw [hv] at hg
    obtain rfl : g' = g := by simpa [Value.ownBlock] using hg
    exact ⟨hg', lt_heap hh⟩
theorem OwnE.below {E : TypeId} {w w' : World} {base : Nat} {v : Value} {xs : List α} (h : OwnE enc E k w base v xs) (hb : Below w.heap.size w w') : OwnE enc E k w' base v xs :=
  h.block fun g hg => hb.block g (h.lt g hg).2
theorem OwnE.base {E : TypeId} {w : World} {base base' : Nat} {v : Value} {xs : List α} (h : OwnE enc E k w base v xs) (hb : base' ≤ base) : OwnE enc E k w base' v xs :=
  ⟨h.1, h.2.elim Or.inl (fun ⟨g, cap, cur, hv, hg, r⟩ => Or.inr ⟨g, cap, cur, hv, Nat.le_trans hb hg, r⟩)⟩
theorem OwnE.at (hk : ∀ x, (enc x).length = k) {E : TypeId} {w : World} {base : Nat} {v : Value} {xs : List α} (h : OwnE enc E k w base v xs) : ∃ q cap, v = .slice q xs.length cap ∧ xs.length ≤ cap ∧ cap ≤ maxLen ∧ SlAt enc k w q xs ∧ ∀ a, q = some a → base ≤ a.block ∧ a.block < w.heap.size := by
  obtain ⟨h1, ⟨rfl, h2⟩ | ⟨g, cap, cur, rfl, hg, hh, hc, hm, hs, ht⟩⟩ := h
  · obtain rfl := List.length_eq_zero_iff.1 h2
    exact ⟨none, 0, rfl, Nat.le_refl _, by unfold maxLen; omega, SlAt.nil _ _, fun a h => by cases h⟩
  · refine ⟨_, cap, rfl, hc, hm, fun i hi => ⟨g, 0, rfl, lt_heap hh, ?_⟩, fun a h => by cases h; exact ⟨hg, lt_heap hh⟩⟩
    refine range_nth hk (o := 0) (fun j u hu => ?_) i hi
    rw [Nat.zero_add, cell_blk hh]
    have hj := (List.getElem?_eq_some_iff.1 hu).1
    rw [← ht, List.getElem?_take_of_lt (by rw [← ht, List.length_take] at hj; omega)] at hu
    simpa using hu
theorem OwnE.slice {E : TypeId} {w : World} {base : Nat} {v : Value} {xs : List α} (h : OwnE enc E k w base v xs) : ∃ p cap, v = .slice p xs.length cap := by
  obtain ⟨_, ⟨rfl, h2⟩ | ⟨g, cap, cur, rfl, _⟩⟩ := h
  · exact ⟨none, 0, by rw [h2]⟩
  · exact ⟨_, _, rfl⟩
end
def slen : Value → Nat
  | .slice _ n _ => n
  | _ => 0
theorem OwnE.slen {α : Type} {enc : α → List Value} {k : Nat} {E : TypeId} {w : World} {base : Nat} {v : Value} {xs : List α} (h : OwnE enc E k w base v xs) : slen v = xs.length := by
  obtain ⟨p, cap, rfl⟩ := h.slice; rfl
theorem grown_below {B : Nat} {w w' : World} {v : Value} (h : w.grownBy w' v.ownBlock) (hv : ∀ g, v.ownBlock = some g → B ≤ g) (hB : B ≤ w.heap.size) : Below B w w' :=
  (Below.refl B w).grown h hB hv

section
variable {P : Program} {α : Type} {enc : α → List Value} {k : Nat} {ops : Array Oper} {rest : List Oper} {o : Oper} {a : Act} {w : World} {Q : Exit → Act → World → Prop}
/-- append(s, y): y in a row of its own. -/
theorem wl_app1 (T E : TypeId) (bytes : Nat) (z : Value) (hT : P.underlying T = some (.slice E)) (hinf : (P.info? E).map (fun i => (i.zero, i.size, i.bytes)) = some (some z, k, bytes)) (hzk : z.cells.size = k) (hk0 : 0 < k) (hk : ∀ x, (enc x).length = k) (h1 : ∀ x, ∀ u ∈ enc x, u.oneCell' = true)
    (hgd : o.guard = none) (s x : Operand) (ho : o.op = .call { callee := .builtin .append, args := #[s, x], argTypes := #[T, T] })
    (base : Nat) (v : Value) (xs : List α) (hs : a.eval s = v) (hown : OwnE enc E k w base v xs) (b c : Nat) (y : α) (hx : a.eval x = .slice (some ⟨b, 0, none⟩) 1 c)
    (hr : w.rangeAt b 0 (enc y)) (hlen : (xs.length + 1) * bytes ≤ 140737488355328) (hm : xs.length + 1 ≤ maxLen) (hbase : base ≤ w.heap.size)
    (h : ∀ v' w', OwnE enc E k w' base v' (xs ++ [y]) → w.grownBy w' v.ownBlock → wpList P ops Q rest (a.put o.dst v') w') : wpList P ops Q (o :: rest) a w := by
  obtain ⟨i, hi, hz, hsz, hby⟩ := info_parts hinf
  refine wpList_append_own w hgd s x T ho base E i z k bytes hT hi hz hsz hby hzk hk0 v xs.length (xs.flatMap enc) hs hown ⟨b, 0, none⟩ 1 c (enc y) hx (by rw [hk, Nat.one_mul]) ?_ (h1 y) hm hlen hbase ?_
  · intro j u hu
    rw [Addr.add_mid]
    exact hr j u hu
  · intro v' w' h1 h2 _
    refine h v' w' ?_ h2
    have e : (xs ++ [y]).flatMap enc = xs.flatMap enc ++ enc y := by simp
    unfold OwnE
    rw [e, List.length_append]
    exact h1
/-- []E{y}, y a row of k cells. -/
theorem wl_bs1 (T E : TypeId) (bytes : Nat) (z : Value) (hT : P.underlying T = some (.slice E)) (hinf : (P.info? E).map (fun i => (i.zero, i.size, i.bytes)) = some (some z, k, bytes)) (_ : z.cells.size = k) (hk0 : 0 < k) (hk2 : k ≤ 1000000) (hk : ∀ x, (enc x).length = k)
    (hw : Region.wanted o (yielded ops a.tmps) = true) (x : Operand) (ho : o.op = .buildSlice T 1 #[(0, x)]) (y : α) (hx : a.eval x = .agg (enc y).toArray)
    (h : wpList P ops Q rest (a.put o.dst (.slice (some ⟨w.heap.size, 0, none⟩) 1 1)) (w.alloc (.cells (enc y).toArray E))) : wpList P ops Q (o :: rest) a w :=
  wpList_step fun _ hK => by
    rw [if_pos hw]
    obtain ⟨ie, hie, hz, hsz, hby⟩ := info_parts hinf
    have hb := run_buildSlice (P := P) w T E 1 #[(0, .agg (enc y).toArray)] (enc y).toArray ie z hT hie hz (by rw [hsz]; omega) (by rw [hsz]; omega) (by
      rw [hsz]
      have := Great.fill_whole (s := k) hk0 [.agg (enc y).toArray] ((Array.range (1 * k)).map (z.cells[· % z.cells.size]!)) (fun v hv => by
        simp at hv; subst hv
        show (enc y).toArray.size = k
        simp [hk]) (by simp)
      simp only [List.zipIdx_cons, List.zipIdx_nil, List.map_cons, List.map_nil] at this
      rw [this]
      simp [Value.cells])
    unfold Oper.wp execOp
    have hp : (#[(0, x)].map fun (p : Nat × Operand) => (p.1, a.eval p.2)) = #[(0, Value.agg (enc y).toArray)] := by simp [hx]
    simp only [ho, Sem.run_bind, hp, hb, Result.andThen_ok]
    exact hK _ _ h
/-- A load of a row of cells, from wherever it lies. -/
theorem wl_ldr (hw : Region.wanted o (yielded ops a.tmps) = true) (T : TypeId) (x : Operand) (ho : o.op = .load T x)
    (b i : Nat) (cs : List Value) (d : TypeDesc) (hu : P.underlying T = some d) (hd : d.isRow = true) (hi : (P.info? T).map (·.size) = some cs.length) (hx : a.eval x = .pointer (some ⟨b, i, none⟩)) (hc : w.rangeAt b i cs)
    (h : wpList P ops Q rest (a.put o.dst (.agg cs.toArray)) w) : wpList P ops Q (o :: rest) a w :=
  wpList_step fun _ hK => by
    rw [if_pos hw]
    have := run_loadAt_mid (P := P) _ b i T cs d hc hu hd hi
    unfold Oper.wp execOp
    simp only [ho, hx, Sem.run_bind, this, Result.andThen_ok, Sem.run_pure]
    exact hK _ _ h
/-- A store of a whole row into the block that holds just it. -/
theorem wl_str (hgd : o.guard = none) (T : TypeId) (x y : Operand) (ho : o.op = .store T x y) (g : Nat) (cs old : Array Value) (T' : TypeId)
    (hi : (P.info? T).map (·.size) = some cs.size) (hs : cs.size = old.size) (h1 : cs.all (·.oneCell') = true) (hx : a.eval x = .pointer (some ⟨g, 0, none⟩)) (hy : a.eval y = .agg cs) (hg : w.heap[g]? = some (.cells old T'))
    (h : wpList P ops Q rest (a.put o.dst undef) (w.setRow g cs)) : wpList P ops Q (o :: rest) a w :=
  wpList_store_row hgd T x y ho g cs hx hy T' old hg hi hs.symm h1 h
end
section
variable {P : Program} {ops : Array Oper} {C : World → Prop} {Q : Act → Prop} {a : Act} {o : Oper} {rest : List Oper}

theorem wq_skip (hw : Region.wanted o (yielded ops a.tmps) = false) (h : wpQuiet P ops C Q rest (a.put o.dst undef)) : wpQuiet P ops C Q (o :: rest) a := by
  unfold wpQuiet; rw [if_neg (by rw [hw]; exact Bool.false_ne_true)]; exact h
theorem wq_val (v : Value) (hw : Region.wanted o (yielded ops a.tmps) = true) (hv : ∀ w, (execOp a.eval o).run P w = .ok (.value v) w) (h : wpQuiet P ops C Q rest (a.put o.dst v)) : wpQuiet P ops C Q (o :: rest) a := by
  unfold wpQuiet; rw [if_pos hw]
  exact ⟨v, fun w _ => by unfold Oper.quietAt; rw [hv w]; exact ⟨rfl, rfl⟩, h⟩
theorem wq_valC (v : Value) (hw : Region.wanted o (yielded ops a.tmps) = true) (hv : ∀ w, C w → (execOp a.eval o).run P w = .ok (.value v) w) (h : wpQuiet P ops C Q rest (a.put o.dst v)) : wpQuiet P ops C Q (o :: rest) a := by
  unfold wpQuiet; rw [if_pos hw]
  exact ⟨v, fun w hC => by unfold Oper.quietAt; rw [hv w hC]; exact ⟨rfl, rfl⟩, h⟩
theorem wq_call (f : FuncId) (args : Array Value) (v : Value) (hw : Region.wanted o (yielded ops a.tmps) = true) (hv : ∀ w, (execOp a.eval o).run P w = .ok (.enter f args) w)
    (hc : ∀ w, C w → Calls P f args w fun e w' => e = .returned v ∧ C w') (h : wpQuiet P ops C Q rest (a.put o.dst v)) : wpQuiet P ops C Q (o :: rest) a := by
  unfold wpQuiet; rw [if_pos hw]
  exact ⟨v, fun w hC => by unfold Oper.quietAt; rw [hv w]; exact ⟨rfl, hc w hC⟩, h⟩

theorem wpList_of_quiet {K : Exit → Act → World → Prop} : ∀ (l : List Oper) (a : Act) (w : World), C w → wpQuiet P ops C (fun a' => ∀ w', C w' → K .normal a' w') l a → wpList P ops K l a w
  | [], a, w, hw, h => h w hw
  | o :: l, a, w, hw, h => by
    unfold wpQuiet at h
    unfold wpList
    split
    · rename_i hwa
      rw [if_pos hwa] at h
      exact .inl (Oper.wp_of_quiet hw (fun a' w' hw' hk => wpList_of_quiet l a' w' hw' hk) h)
    · rename_i hwa
      rw [if_neg hwa] at h
      exact wpList_of_quiet l _ w hw h
/-- A region that keeps the text's order. -/
theorem wp_region_lexC {id : Nat} {K : Exit → Act → World → Prop} {w : World} {l : List Oper} (hC : C w) (h : wpQuiet P l.toArray C (fun a' => ∀ w', C w' → K .normal a' w') l a) : (Code.region id l.toArray false).wp P K a w :=
  wp_region_lit (wpList_of_quiet l a w hC h)
/-- A region that draws its order. -/
theorem wp_region_drawC {id : Nat} {K : Exit → Act → World → Prop} {w : World} {l : List Oper} (hm : P.follows .mixedOrders = true) (hB : Region.lexB .any l.toArray = true) (hC : C { w with drawn := w.drawn + 1 })
    (h : wpQuiet P l.toArray C (fun a' => ∀ w', C w' → K .normal a' w') l a) : (Code.region id l.toArray true).wp P K a w :=
  wp_region_quiet hm hB hC (by simpa using h)
end

theorem wp_region_lex_below {P : Program} {id : Nat} {K : Exit → Act → World → Prop} {a : Act} {w : World} {l : List Oper}
    (h : wpQuiet P l.toArray (fun w' => ∃ p : Regrown, w' = Sort.grow (redrawn w p.d) p.os) (fun a' => ∀ w', (∃ p : Regrown, w' = Sort.grow (redrawn w p.d) p.os) → K .normal a' w') l a) : (Code.region id l.toArray false).wp P K a w :=
  wp_region_lexC (C := fun w' => ∃ p : Regrown, w' = Sort.grow (redrawn w p.d) p.os) ⟨⟨w.drawn, #[]⟩, by rw [Sort.grow_empty]; rfl⟩ h

/-- A store of a whole row into the block that was laid last. -/
theorem wl_strn {P : Program} {ops : Array Oper} {rest : List Oper} {o : Oper} {a : Act} {w : World} {Q : Exit → Act → World → Prop} (hgd : o.guard = none) (T : TypeId) (x y : Operand) (ho : o.op = .store T x y) (cs old : Array Value) (T' : TypeId)
    (hi : (P.info? T).map (·.size) = some cs.size) (hs : cs.size = old.size) (h1 : cs.all (·.oneCell') = true) (hx : a.eval x = .pointer (some ⟨w.heap.size, 0, none⟩)) (hy : a.eval y = .agg cs)
    (h : wpList P ops Q rest (a.put o.dst undef) (w.alloc (.cells cs T'))) : wpList P ops Q (o :: rest) a (w.alloc (.cells old T')) :=
  wpList_store_row hgd T x y ho w.heap.size cs hx hy T' old (heap_alloc_new _ _) hi hs.symm h1 (by rw [World.setRow_alloc_new]; exact h)
section
variable {P : Program} {ops : Array Oper} {Q : Act → Prop} {a : Act} {o : Oper} {rest : List Oper}
/-- In a region that reads and grows: a load of a row. -/
theorem wq_ldr {W : World} (hw : Region.wanted o (yielded ops a.tmps) = true) (T : TypeId) (x : Operand) (ho : o.op = .load T x) (b i : Nat) (cs : List Value) (d : TypeDesc) (hu : P.underlying T = some d) (hd : d.isRow = true) (hi : (P.info? T).map (·.size) = some cs.length)
    (hx : a.eval x = .pointer (some ⟨b, i, none⟩)) (hc : W.rangeAt b i cs) (hb : b < W.heap.size)
    (h : wpQuiet P ops (fun w' => ∃ p : Regrown, w' = Sort.grow (redrawn W p.d) p.os) Q rest (a.put o.dst (.agg cs.toArray))) : wpQuiet P ops (fun w' => ∃ p : Regrown, w' = Sort.grow (redrawn W p.d) p.os) Q (o :: rest) a := by
  refine wq_valC (.agg cs.toArray) hw (fun w hC => ?_) h
  obtain ⟨⟨dq, osq⟩, rfl⟩ := hC
  have hc' := range_of_block hc ((below_regrown W dq osq).block b hb)
  have := run_loadAt_mid (P := P) _ b i T cs d hc' hu hd hi
  unfold execOp
  simp only [ho, hx, Sem.run_bind, this, Result.andThen_ok, Sem.run_pure]
end
theorem rg_call {W : World} {P : Program} {f : FuncId} {args : Array Value} {v : Value} (h : ∀ w, Calls P f args w fun e w' => e = .returned v ∧ Below w.heap.size w w') (d : Nat) (os : Array Obj) :
    Calls P f args (Sort.grow (redrawn W d) os) fun e w'' => e = .returned v ∧ ∃ p : Regrown, w'' = Sort.grow (redrawn W p.d) p.os := Calls.regrown_of (h _)
theorem rg_call0 {W : World} {P : Program} {f : FuncId} {args : Array Value} {v : Value} (h : ∀ w, Calls P f args w fun e w' => e = .returned v ∧ w = w') (d : Nat) (os : Array Obj) :
    Calls P f args (Sort.grow (redrawn W d) os) fun e w'' => e = .returned v ∧ ∃ p : Regrown, w'' = Sort.grow (redrawn W p.d) p.os :=
  Calls.regrown_of ((h _).mono fun _ _ ⟨he, hw⟩ => ⟨he, hw ▸ Below.refl _ _⟩)
theorem rg_block {W : World} {g : Nat} {o : Obj} (h : W.heap[g]? = some o) (d : Nat) (os : Array Obj) : (Sort.grow (redrawn W d) os).heap[g]? = some o := by
  rw [(below_regrown W d os).block g (lt_heap h)]; exact h
end Go.Proofs.Ytmdhlpnieimdaaa

/- How a slice of rows comes in. -/
namespace Go.Proofs.Ytmdhlpnieimdaaa
open Go.ChangeShapes Go.WideShapes Go.ChangeAt Go.RowKit Go.Deep

theorem add_addA (a : Addr) (i j : Nat) : (a.add i).add j = a.add (i + j) := by
  obtain ⟨b, o, s⟩ := a
  unfold Addr.add
  by_cases h1 : i = 0
  · subst h1; simp
  · by_cases h2 : j = 0
    · subst h2; simp [h1]
    · have : ¬ (i + j = 0) := by omega
      simp [h1, h2, Nat.add_assoc]
theorem list_of_all {α : Type} {R : Nat → α → Prop} : ∀ n, (∀ i, i < n → ∃ x, R i x) → ∃ xs : List α, xs.length = n ∧ ∀ i (h : i < xs.length), R i xs[i]
  | 0, _ => ⟨[], rfl, fun i h => by simp at h⟩
  | n + 1, h => by
    obtain ⟨xs, h1, h2⟩ := list_of_all n fun i hi => h i (by omega)
    obtain ⟨x, hx⟩ := h n (by omega)
    refine ⟨xs ++ [x], by simp [h1], fun i hi => ?_⟩
    by_cases e : i < xs.length
    · rw [List.getElem_append_left e]; exact h2 i e
    · simp only [List.length_append, List.length_singleton] at hi
      obtain rfl : i = xs.length := by omega
      rw [List.getElem_append_right (Nat.le_refl _)]
      simpa [h1] using hx
theorem open_rows {H : Type} {ench : TypeId × Value → H} {P : Program} {w : World} {base : Nat} {spare : Nat → Bool} {held : Bool} {v : Value} {d : DataW H} {p : List MemPlace} {r : Reach} {b0 : Nat} {T E : TypeId} {α : Type} {enc : α → List Value} {k : Nat} {φ : α → Prop}
    (hT : P.underlying T = some (.slice E)) (hC : P.cellsOf E = k) (hk : 0 < k)
    (dec : ∀ n cs y, DataW.trod ench P w base spare held n E cs = some y → cs.length = k → ∃ x : α, cs = enc x ∧ φ x)
    (hv : Value.okWide P w r b0 T v) (h : DataW.Trod ench P w base spare held T v d p) :
    ∃ (q : Option Addr) (xs : List α) (cap : Nat), v = .slice q xs.length cap ∧ xs.length ≤ cap ∧ cap ≤ maxLen ∧ SlAt enc k w q xs ∧ ∀ x ∈ xs, φ x := by
  obtain ⟨fuel, hf⟩ := h
  obtain ⟨q, l, c, rfl⟩ := okWide_slice hT hv
  rcases open_slice hT hf with ⟨h0, _⟩ | ⟨a, len, cap, m, n, D, Pl, hcs, hb, hl, hm, hmm, hx, hi⟩
  · simp only [Value.cells] at h0
    simp at h0
    obtain ⟨rfl, rfl, rfl⟩ := h0
    exact ⟨none, [], 0, rfl, Nat.le_refl _, by unfold maxLen; omega, SlAt.nil _ _, fun x hx => by simp at hx⟩
  · simp only [Value.cells] at hcs
    simp at hcs
    obtain ⟨rfl, rfl, rfl⟩ := hcs
    have hlm : l ≤ m := by rw [hmm]; split <;> omega
    rw [hC] at hi
    obtain ⟨xs, hxl, hxs⟩ := list_of_all (R := fun i (x : α) => φ x ∧ ∀ j u, (enc x)[j]? = some u → w.cell? (a.add (i * k + j)) = some u) l (fun i hil => by
      obtain ⟨cs', h1, h2⟩ := hi i (by omega)
      obtain ⟨_, hlen, hat⟩ := World.cells?_some h1
      obtain ⟨x, rfl, hφ⟩ := dec _ _ _ h2 hlen
      refine ⟨x, hφ, fun j u hu => ?_⟩
      have hj := (List.getElem?_eq_some_iff.1 hu).1
      rw [← add_addA, hat j (by omega), hu])
    refine ⟨some a, xs, c, by rw [hxl], by omega, hm, fun i hil => ?_, fun x hx => ?_⟩
    · obtain ⟨cs0, g1, g2⟩ := hi 0 (by omega)
      obtain ⟨_, hlen0, hat0⟩ := World.cells?_some g1
      have hu : w.cell? a = some (cs0[0]'(by omega)) := by
        have := hat0 0 (by omega)
        rw [add_addA, List.getElem?_eq_getElem (by omega)] at this
        simpa [Addr.add] using this
      obtain ⟨b, o, s⟩ := a
      obtain rfl : s = none := World.cell?_spot hu
      refine ⟨b, o, rfl, ?_, fun j u hju => ?_⟩
      · obtain ⟨c', e', fr', hbk, _⟩ := Go.Sort.cells_of_cell? hu
        exact lt_heap hbk
      · have := (hxs i hil).2 j u hju
        rw [Addr.add_mid] at this
        rw [Nat.add_assoc]; exact this
    · obtain ⟨i, hi', rfl⟩ := List.mem_iff_getElem.1 hx
      exact (hxs i hi').1
theorem own : ownKnob Try.prog.godebug = none := by kernel_rfl
theorem laidOut : laidOutB Try.prog = true := by kernel_rfl
end Go.Proofs.Ytmdhlpnieimdaaa

/- Results that lie in memory: the first one a row of cells. -/
namespace Go.Proofs.Ytmdhlpnieimdaaa
open Go.RowKit

theorem res_rowc_tmp {P : Program} {fn : Func} {p t : Tmp} {T T' : TypeId} {d : TypeDesc} (h : fn.results = #[.cell p T, .tmp t]) (tmps : Array Value) (w : World) (g : Nat) (cs : Array Value) (fr : Nat × Nat)
    (hp : tmps.getD p undef = .pointer (some ⟨g, 0, none⟩)) (hg : w.heap[g]? = some (.cells cs T' fr)) (hu : P.underlying T = some d) (hd : (match d with | .struct _ | .array _ _ => true | _ => false) = true) (hi : (P.info? T).map (·.size) = some cs.size) :
    (results fn tmps).run P w = .ok (.tuple #[.agg cs, tmps.getD t undef]) w := by
  have hp' : tmps[p]?.getD undef = .pointer (some ⟨g, 0, none⟩) := by simpa using hp
  have hload : (loadVar T ⟨g, 0, none⟩).run P w = .ok (.agg cs) w := by
    refine run_loadVar_row _ g T' T cs fr d hg hu ?_ hi
    revert hd
    cases d <;> intro hd <;> first | rfl | exact hd
  simp [results, h, hp', asAddr, hload]
theorem res_rowc {P : Program} {fn : Func} {p : Tmp} {T T' : TypeId} {d : TypeDesc} (h : fn.results = #[.cell p T]) (tmps : Array Value) (w : World) (g : Nat) (cs : Array Value) (fr : Nat × Nat)
    (hp : tmps.getD p undef = .pointer (some ⟨g, 0, none⟩)) (hg : w.heap[g]? = some (.cells cs T' fr)) (hu : P.underlying T = some d) (hd : (match d with | .struct _ | .array _ _ => true | _ => false) = true) (hi : (P.info? T).map (·.size) = some cs.size) :
    (results fn tmps).run P w = .ok (.agg cs) w := by
  have hp' : tmps[p]?.getD undef = .pointer (some ⟨g, 0, none⟩) := by simpa using hp
  have hload : (loadVar T ⟨g, 0, none⟩).run P w = .ok (.agg cs) w := by
    refine run_loadVar_row _ g T' T cs fr d hg hu ?_ hi
    revert hd
    cases d <;> intro hd <;> first | rfl | exact hd
  simp [results, h, hp', asAddr, hload]
/-- Gates: an arm behind one is tried at its own operation alone. -/
theorem gate_st {P : Program} {ops : Array Oper} {rest : List Oper} {o : Oper} {a : Act} {w : World} {Q : Exit → Act → World → Prop} (T : TypeId) (x y : Operand) (_ : o.op = .store T x y) (h : wpList P ops Q (o :: rest) a w) : wpList P ops Q (o :: rest) a w := h
theorem gate_ld {P : Program} {ops : Array Oper} {rest : List Oper} {o : Oper} {a : Act} {w : World} {Q : Exit → Act → World → Prop} (T : TypeId) (x : Operand) (_ : o.op = .load T x) (h : wpList P ops Q (o :: rest) a w) : wpList P ops Q (o :: rest) a w := h
theorem gate_bd {P : Program} {ops : Array Oper} {rest : List Oper} {o : Oper} {a : Act} {w : World} {Q : Exit → Act → World → Prop} (T : TypeId) (xs : Array (Nat × Operand)) (_ : o.op = .build T xs) (h : wpList P ops Q (o :: rest) a w) : wpList P ops Q (o :: rest) a w := h
/-- A struct out of its parts. -/
theorem wl_bd {P : Program} {ops : Array Oper} {rest : List Oper} {o : Oper} {a : Act} {w : World} {Q : Exit → Act → World → Prop} (hg : o.guard = none) (t : TypeId) (parts : List (Nat × Operand)) (ho : o.op = .build t parts.toArray)
    (vs : List (Nat × Value)) (hv : parts.map (fun p => (p.1, a.eval p.2)) = vs) (cells : Array Value) (hf : P.built t vs = some cells)
    (h : wpList P ops Q rest (a.put o.dst (.agg cells)) w) : wpList P ops Q (o :: rest) a w :=
  wpList_buildTo hg t parts.toArray ho o.dst rfl cells (by
    have e : (parts.toArray.map fun (i, x) => (i, a.eval x)).toList = vs := by rw [← hv]; simp
    rw [e]; exact hf) h
theorem setRow_at {w : World} {g : Nat} {old cs : Array Value} {T : TypeId} {fr : Nat × Nat} (hg : w.heap[g]? = some (.cells old T fr)) : (w.setRow g cs).heap[g]? = some (.cells cs T fr) := setRow_heap _ _ _ _ _ _ hg
theorem setRow_below {B : Nat} {a w : World} (h : Below B a w) {g : Nat} (hg : B ≤ g) (cs : Array Value) : Below B a (w.setRow g cs) :=
  h.trans ⟨rfl, rfl, rfl, by simp, fun k hk => setRow_other w g k cs (by omega)⟩
end Go.Proofs.Ytmdhlpnieimdaaa

/- Parts of slices; appending a part of a slice; laws for the steps of a region that draws. -/
namespace Go.Proofs.Ytmdhlpnieimdaaa
open Go.RowKit

section
variable {α : Type} {enc : α → List Value} {k : Nat}
/-- Where s[j:] lies. -/
def cutQ (k : Nat) (q : Option Addr) (j co : Nat) : Option Addr := if co = j then q else q.map (·.add (j * k))
theorem cutQ_none (k j co : Nat) : cutQ k none j co = none := by unfold cutQ; split <;> rfl
theorem cutQ_isNone {k : Nat} {q : Option Addr} {j co : Nat} (h : cutQ k q j co = none) : q = none := by
  cases q with
  | none => rfl
  | some a => unfold cutQ at h; split at h <;> simp at h
theorem run_sl_lo {P : Program} {T E : TypeId} (hT : P.underlying T = some (.slice E)) (hk : (P.info? E).map (·.size) = some k) (q : Option Addr) (n co j : Nat) (hj : j ≤ n) (w : World) :
    (Instr.sliceAt T (.slice q n co) (some (.int .i64 (j : Nat))) none none).run P w = .ok (.slice (cutQ k q j co) (n - j) (co - j)) w := by
  obtain ⟨ie, hie, hs⟩ := Option.map_eq_some_iff.1 hk
  have hjn : (j : Int) ≤ n := by omega
  have hs' : (sizeOf E).run P w = .ok k w := by simp [sizeOf, typeInfo, hie, hs]
  simp [Instr.sliceAt, Instr.slice, run_underlying hT, Instr.sliceBounds, run_sliceBound, hs', cutQ, hjn, (by omega : (0 : Int) ≤ (j : Int))]
theorem run_sl_hi {P : Program} {T E : TypeId} (hT : P.underlying T = some (.slice E)) (hk : (P.info? E).map (·.size) = some k) (q : Option Addr) (n co j : Nat) (hc : j ≤ co) (w : World) :
    (Instr.sliceAt T (.slice q n co) none (some (.int .i64 (j : Nat))) none).run P w = .ok (.slice q j co) w := by
  obtain ⟨ie, hie, hs⟩ := Option.map_eq_some_iff.1 hk
  have hjn : (j : Int) ≤ co := by omega
  have hs' : (sizeOf E).run P w = .ok k w := by simp [sizeOf, typeInfo, hie, hs]
  simp [Instr.sliceAt, Instr.slice, run_underlying hT, Instr.sliceBounds, run_sliceBound, hs', hjn, (by omega : (0 : Int) ≤ (j : Int))]
  cases q <;> simp [Addr.add]
theorem SlAt.cut {w : World} {q : Option Addr} {ys : List α} (h : SlAt enc k w q ys) (j co : Nat) (hc : ys.length ≤ co) : SlAt enc k w (cutQ k q j co) (ys.drop j) := by
  unfold cutQ
  split
  · rename_i e
    rw [List.drop_eq_nil_of_le (by omega)]
    exact SlAt.nil _ _
  · intro i hi
    rw [List.length_drop] at hi
    obtain ⟨b, o, rfl, _⟩ := h 0 (by omega)
    obtain ⟨b', o', h1, h2, h3⟩ := h.drop j i (by rw [List.length_drop]; exact hi)
    refine ⟨b', o', ?_, h2, h3⟩
    rw [← h1]
    show some (Addr.add _ _) = some _
    rw [Addr.add_mid]
theorem slat_range (hk : ∀ x, (enc x).length = k) {w : World} {b : Nat} : ∀ (ys : List α) (o : Nat), SlAt enc k w (some ⟨b, o, none⟩) ys → w.rangeAt b o (ys.flatMap enc)
  | [], _, _ => fun j v hv => by simp at hv
  | y :: ys, o, h => by
    obtain ⟨b', o', h1, _, h3⟩ := h 0 (by simp)
    simp only [Option.some.injEq, Addr.mk.injEq] at h1
    obtain ⟨rfl, rfl, _⟩ := h1
    have ht := slat_range hk ys (o + k) (by have := h.drop 1; simpa using this)
    intro j v hv
    rw [List.flatMap_cons] at hv
    rcases Nat.lt_or_ge j k with hj | hj
    · rw [List.getElem?_append_left (by rw [hk]; exact hj)] at hv
      have := h3 j v hv
      simpa using this
    · rw [List.getElem?_append_right (by rw [hk]; exact hj), hk] at hv
      have := ht (j - k) v hv
      rwa [show o + k + (j - k) = o + j by omega] at this
theorem OwnE.none_cap {E : TypeId} {w : World} {base n co : Nat} {q : Option Addr} {xs : List α} (h : OwnE enc E k w base (.slice q n co) xs) (hq : q = none) : co = 0 := by
  obtain ⟨_, ⟨h2, _⟩ | ⟨g, cap, cur, h2, _⟩⟩ := h
  · simp only [Value.slice.injEq] at h2; exact h2.2.2
  · simp only [Value.slice.injEq] at h2; rw [hq] at h2; cases h2.1
theorem OwnE.cap_le {E : TypeId} {w : World} {base n co : Nat} {q : Option Addr} {xs : List α} (h : OwnE enc E k w base (.slice q n co) xs) : n = xs.length ∧ n ≤ co := by
  obtain ⟨p, cap', hv⟩ := h.slice
  have hn : n = xs.length := by simp only [Value.slice.injEq] at hv; exact hv.2.1
  refine ⟨hn, ?_⟩
  obtain ⟨_, ⟨h2, h3⟩ | ⟨g, cap, cur, h2, _, _, hc, _⟩⟩ := h
  · simp only [Value.slice.injEq] at h2; omega
  · simp only [Value.slice.injEq] at h2; omega
/-- append(s, part...), at its operation. -/
theorem op_app {P : Program} {o : Oper} {a : Act} {w : World} {K : Act → World → Prop} {Q : Exit → Act → World → Prop} (T E : TypeId) (bytes : Nat) (z : Value) (hT : P.underlying T = some (.slice E)) (hinf : (P.info? E).map (fun i => (i.zero, i.size, i.bytes)) = some (some z, k, bytes)) (hzk : z.cells.size = k) (hk0 : 0 < k) (hk : ∀ x, (enc x).length = k) (h1 : ∀ x, ∀ u ∈ enc x, u.oneCell' = true)
    (s x : Operand) (ho : o.op = .call { callee := .builtin .append, args := #[s, x], argTypes := #[T, T] })
    (base : Nat) (v : Value) (xs : List α) (hs : a.eval s = v) (hown : OwnE enc E k w base v xs) (q : Option Addr) (m c : Nat) (ys : List α) (hx : a.eval x = .slice q m c) (hm : ys.length = m) (hq : SlAt enc k w q ys) (hq0 : q = none → c = 0)
    (hlen : (xs.length + m) * bytes ≤ 140737488355328) (hml : xs.length + m ≤ maxLen) (hbase : base ≤ w.heap.size)
    (h : ∀ v' w', OwnE enc E k w' base v' (xs ++ ys) → w.grownBy w' v.ownBlock → (v'.ownBlock = v.ownBlock ∨ v'.ownBlock = some w.heap.size) → K (a.put o.dst v') w') : o.wp P a w K Q := by
  obtain ⟨i, hi, hz, hsz, hby⟩ := info_parts hinf
  cases q with
  | none =>
    have hy : ys = [] := by
      cases ys with
      | nil => rfl
      | cons y ys =>
        obtain ⟨b, o, h1, _⟩ := hq 0 (by simp)
        cases h1
    subst hy
    have hm0 : m = 0 := by simpa using hm.symm
    subst hm0
    have hc := hq0 rfl
    subst hc
    have hrun := run_append_owned_none (P := P) (w := w) base T o.type E i k hT hi v xs.length (xs.flatMap enc) hown
    unfold Oper.wp
    simp [execOp, ho, resolve, invoke, builtin, hs, hx, hrun, Result.andThen]
    exact h v w (by rw [List.append_nil]; exact hown) ⟨rfl, rfl, rfl, Nat.le_refl _, fun _ _ _ => rfl⟩ (Or.inl rfl)
  | some ad =>
    have hnews : ∀ j u, (ys.flatMap enc)[j]? = some u → w.cell? (ad.add j) = some u := by
      cases ys with
      | nil => intro j u hu; simp at hu
      | cons y ys =>
        obtain ⟨b, o, h1, _⟩ := hq 0 (by simp)
        cases h1
        intro j u hu
        rw [Addr.add_mid]
        exact slat_range hk _ _ hq j u hu
    have hall : ∀ u ∈ ys.flatMap enc, u.oneCell' = true := by
      intro u hu
      obtain ⟨y, _, hy⟩ := List.mem_flatMap.1 hu
      exact h1 y u hy
    obtain ⟨v', w', hr, g1, g2, _, g4⟩ := run_append_own_at (P := P) w base T o.type E i z k bytes hT hi hz hsz hby hzk hk0 v xs.length (xs.flatMap enc) hown ad m c (ys.flatMap enc) (by rw [flat_len hk, hm]) hnews hall hml hlen hbase
    unfold Oper.wp execOp
    simp only [ho, resolve, invoke, builtin, Sem.run_bind, Sem.run_pure, Result.andThen_ok, List.map_toArray, List.map_cons, List.map_nil, hs, hx, hr]
    refine h v' w' ?_ g2 g4
    have e : (xs ++ ys).flatMap enc = xs.flatMap enc ++ ys.flatMap enc := List.flatMap_append
    unfold OwnE
    rw [e, List.length_append, hm]
    exact g1
/-- []E{}. -/
theorem op_bs0 {P : Program} {o : Oper} {a : Act} {w : World} {K : Act → World → Prop} {Q : Exit → Act → World → Prop} (T E : TypeId) (hT : P.underlying T = some (.slice E)) (hk : (P.info? E).map (·.size) = some k) (ho : o.op = .buildSlice T 0 #[]) (base : Nat) (hb : base ≤ w.heap.size)
    (h : ∀ v' w', OwnE enc E k w' base v' [] → w.grownBy w' none → v'.ownBlock = some w.heap.size → K (a.put o.dst v') w') : o.wp P a w K Q := by
  obtain ⟨ie, hie, hs⟩ := Option.map_eq_some_iff.1 hk
  have hr : (Instr.buildSlice T 0 #[]).run P w = .ok (.slice (some ⟨w.heap.size, 0, none⟩) 0 0) (w.alloc (.cells #[] E)) := by
    simp [Instr.buildSlice, run_underlying hT, sizeOf, typeInfo, hie, newRow, Instr.fill, show Array.range 0 = #[] from rfl]
  have := World.ownsRow_made (e := E) (size := k) (base := base) w #[] 0 hb (by unfold maxLen; omega) (by simp)
  unfold Oper.wp execOp
  simp only [ho, Sem.run_bind, List.map_toArray, List.map_nil, hr, Result.andThen_ok]
  exact h _ _ this ⟨rfl, rfl, rfl, by simp, fun b hb _ => heap_alloc_old _ _ hb⟩ rfl
/-- []E{y}. -/
theorem op_bs1 {P : Program} {o : Oper} {a : Act} {w : World} {K : Act → World → Prop} {Q : Exit → Act → World → Prop} (T E : TypeId) (bytes : Nat) (z : Value) (hT : P.underlying T = some (.slice E)) (hinf : (P.info? E).map (fun i => (i.zero, i.size, i.bytes)) = some (some z, k, bytes)) (_ : z.cells.size = k) (hk0 : 0 < k) (hk2 : k ≤ 1000000) (hk : ∀ x, (enc x).length = k)
    (x : Operand) (ho : o.op = .buildSlice T 1 #[(0, x)]) (y : α) (hx : a.eval x = .agg (enc y).toArray)
    (h : K (a.put o.dst (.slice (some ⟨w.heap.size, 0, none⟩) 1 1)) (w.alloc (.cells (enc y).toArray E))) : o.wp P a w K Q := by
  obtain ⟨ie, hie, hz, hsz, hby⟩ := info_parts hinf
  have hb := run_buildSlice (P := P) w T E 1 #[(0, .agg (enc y).toArray)] (enc y).toArray ie z hT hie hz (by rw [hsz]; omega) (by rw [hsz]; omega) (by
    rw [hsz]
    have := Great.fill_whole (s := k) hk0 [.agg (enc y).toArray] ((Array.range (1 * k)).map (z.cells[· % z.cells.size]!)) (fun v hv => by
      simp at hv; subst hv
      show (enc y).toArray.size = k
      simp [hk]) (by simp)
    simp only [List.zipIdx_cons, List.zipIdx_nil, List.map_cons, List.map_nil] at this
    rw [this]
    simp [Value.cells])
  unfold Oper.wp execOp
  have hp : (#[(0, x)].map fun (p : Nat × Operand) => (p.1, a.eval p.2)) = #[(0, Value.agg (enc y).toArray)] := by simp [hx]
  simp only [ho, Sem.run_bind, hp, hb, Result.andThen_ok]
  exact h
end
theorem st_if {P : Program} {ops : Array Oper} {o : Oper} {a : Act} {w : World} {K : Act → World → Prop} {Q : Exit → Act → World → Prop} {E : Prop} (hg : o.guard = none) (h : o.wp P a w K Q) : if Region.wanted o (yielded ops a.tmps) = true then o.wp P a w K Q else E := by
  rw [if_pos (by unfold Region.wanted; rw [hg])]; exact h
end Go.Proofs.Ytmdhlpnieimdaaa

/- append(s, part...) in a region that lists its operations in order. -/
namespace Go.Proofs.Ytmdhlpnieimdaaa
open Go.RowKit

theorem wl_appO {P : Program} {ops : Array Oper} {o : Oper} {rest : List Oper} {a : Act} {w : World} {Q : Exit → Act → World → Prop} {α : Type} {enc : α → List Value} {k : Nat} (hgd : o.guard = none) (T E : TypeId) (bytes : Nat) (z : Value) (hT : P.underlying T = some (.slice E)) (hinf : (P.info? E).map (fun i => (i.zero, i.size, i.bytes)) = some (some z, k, bytes)) (hzk : z.cells.size = k) (hk0 : 0 < k) (hk : ∀ x, (enc x).length = k) (h1 : ∀ x, ∀ u ∈ enc x, u.oneCell' = true)
    (s x : Operand) (ho : o.op = .call { callee := .builtin .append, args := #[s, x], argTypes := #[T, T] })
    (base : Nat) (v : Value) (xs : List α) (hs : a.eval s = v) (hown : OwnE enc E k w base v xs) (q : Option Addr) (m c : Nat) (ys : List α) (hx : a.eval x = .slice q m c) (hm : ys.length = m) (hq : SlAt enc k w q ys) (hq0 : q = none → c = 0)
    (hlen : (xs.length + m) * bytes ≤ 140737488355328) (hml : xs.length + m ≤ maxLen) (hbase : base ≤ w.heap.size)
    (h : ∀ v' w', OwnE enc E k w' base v' (xs ++ ys) → w.grownBy w' v.ownBlock → (v'.ownBlock = v.ownBlock ∨ v'.ownBlock = some w.heap.size) → wpList P ops Q rest (a.put o.dst v') w') : wpList P ops Q (o :: rest) a w :=
  wpList_plain hgd fun _ hK => op_app T E bytes z hT hinf hzk hk0 hk h1 s x ho base v xs hs hown q m c ys hx hm hq hq0 hlen hml hbase fun v' w' g1 g2 g3 => hK _ _ (h v' w' g1 g2 g3)
/-- s[j:] -/
theorem exec_lo {P : Program} {o : Oper} {a : Act} {w : World} {k : Nat} {T E : TypeId} (hT : P.underlying T = some (.slice E)) (hk : (P.info? E).map (·.size) = some k) (x y : Operand) (ho : o.op = .slice T x (some y) none none) (q : Option Addr) (n co j : Nat) (hx : a.eval x = .slice q n co) (hy : a.eval y = .int .i64 (j : Nat)) (hj : j ≤ n) : (execOp a.eval o).run P w = .ok (.value (.slice (cutQ k q j co) (n - j) (co - j))) w := by
  have := run_sl_lo hT hk q n co j hj w
  unfold execOp
  simp only [ho, hx, hy, Option.map_some, Option.map_none, Sem.run_bind, this, Result.andThen_ok, Sem.run_pure]
/-- s[:j] -/
theorem exec_hi {P : Program} {o : Oper} {a : Act} {w : World} {k : Nat} {T E : TypeId} (hT : P.underlying T = some (.slice E)) (hk : (P.info? E).map (·.size) = some k) (x y : Operand) (ho : o.op = .slice T x none (some y) none) (q : Option Addr) (n co j : Nat) (hx : a.eval x = .slice q n co) (hy : a.eval y = .int .i64 (j : Nat)) (hj : j ≤ co) : (execOp a.eval o).run P w = .ok (.value (.slice q j co)) w := by
  have := run_sl_hi hT hk q n co j hj w
  unfold execOp
  simp only [ho, hx, hy, Option.map_some, Option.map_none, Sem.run_bind, this, Result.andThen_ok, Sem.run_pure]
end Go.Proofs.Ytmdhlpnieimdaaa

/- Small laws: a load of one cell in a quiet region; an operation by its value in a listed one. -/
namespace Go.Proofs.Ytmdhlpnieimdaaa
open Go.RowKit
section
variable {P : Program} {ops : Array Oper} {Q : Act → Prop} {a : Act} {o : Oper} {rest : List Oper} {W : World}
theorem wq_ld1 (hw : Region.wanted o (yielded ops a.tmps) = true) (T : TypeId) (x : Operand) (ho : o.op = .load T x) (b i : Nat) (v : Value) (hag : ∀ w, (isAgg T).run P w = .ok false w)
    (hx : a.eval x = .pointer (some ⟨b, i, none⟩)) (hc : W.cell? ⟨b, i, none⟩ = some v) (hb : b < W.heap.size)
    (h : wpQuiet P ops (fun w' => ∃ p : Regrown, w' = Sort.grow (redrawn W p.d) p.os) Q rest (a.put o.dst v)) : wpQuiet P ops (fun w' => ∃ p : Regrown, w' = Sort.grow (redrawn W p.d) p.os) Q (o :: rest) a := by
  refine wq_valC v hw (fun w hC => ?_) h
  obtain ⟨⟨dq, osq⟩, rfl⟩ := hC
  have hq : (Sort.grow (redrawn W dq) osq).cell? ⟨b, i, none⟩ = some v := (cell_of ((below_regrown W dq osq).block b hb) i).trans hc
  unfold execOp
  simp only [ho, hx, Sem.run_bind]
  simp [go_sem, hag, hq]
end
section
variable {P : Program} {ops : Array Oper} {Q : Exit → Act → World → Prop} {a : Act} {o : Oper} {rest : List Oper} {w : World}
theorem wl_valG (hw : Region.wanted o (yielded ops a.tmps) = true) (v : Value) (hr : (execOp a.eval o).run P w = .ok (.value v) w) (h : wpList P ops Q rest (a.put o.dst v) w) : wpList P ops Q (o :: rest) a w :=
  wpList_step fun _ hK => by
    rw [if_pos hw]
    unfold Oper.wp
    rw [hr]
    exact hK _ _ h
theorem gate_op (x : Op) (_ : o.op = x) (h : wpList P ops Q (o :: rest) a w) : wpList P ops Q (o :: rest) a w := h
end
theorem exec_st1G {P : Program} {o : Oper} {a : Act} {w : World} (T : TypeId) (hsz : (P.info? T).map (·.size) = some 1) (x y : Operand) (ho : o.op = .store T x y) (b i : Nat) (v : Value) (hx : a.eval x = .pointer (some ⟨b, i, none⟩)) (hy : a.eval y = v) (h1 : v.oneCell' = true) (cur : List Value) (T' : TypeId) (hg : w.heap[b]? = some (.cells cur.toArray T' (0, 0))) (hi : i + 1 ≤ cur.length) :
    (execOp a.eval o).run P w = .ok .skip (w.setRow b (cur.take i ++ [v] ++ cur.drop (i + 1)).toArray) := by
  have hst := run_storeCells_at P b i T' [v] 0 cur.toArray w hg (by simpa using hi) (fun x hx => by simp at hx; subst hx; exact h1)
  have hc : v.cells = #[v] := by cases v <;> first | rfl | cases h1
  have hrun : (storeVar T ⟨b, i, none⟩ v).run P w = .ok () (w.setRow b (cur.take i ++ [v] ++ cur.drop (i + 1)).toArray) := by
    cases hq : P.info? T with
    | none => simp [hq] at hsz
    | some inf =>
      have hs : inf.size = 1 := by simpa [hq] using hsz
      simp only [Nat.add_zero, List.length_singleton] at hst
      simp [storeVar, sizeOf, typeInfo, hq, hc, hs, hst]
  unfold execOp
  simp only [ho, hx, hy, Instr.storeAt, Instr.sureAddr, Sem.run_bind, Sem.run_pure, Result.andThen_ok, hrun]
theorem exec_ld1G {P : Program} {o : Oper} {a : Act} {w : World} (T : TypeId) (hag : ∀ w, (isAgg T).run P w = .ok false w) (x : Operand) (ho : o.op = .load T x) (b i : Nat) (v : Value) (hx : a.eval x = .pointer (some ⟨b, i, none⟩)) (hc : w.cell? ⟨b, i, none⟩ = some v) : (execOp a.eval o).run P w = .ok (.value v) w := by
  unfold execOp
  simp only [ho, hx, Sem.run_bind]
  simp [go_sem, hag, hc]
theorem lt_of_cell {w : World} {b i : Nat} {v : Value} (h : w.cell? ⟨b, i, none⟩ = some v) : b < w.heap.size := by
  cases hb : w.heap[b]? with
  | none => simp [World.cell?, hb] at h
  | some o => exact lt_heap hb
end Go.Proofs.Ytmdhlpnieimdaaa

/- A region that draws its order: quiet operations, then two variables laid and stored ('x, y := .., ..'). Over any program. -/
namespace Go.Proofs.Ytmdhlpnieimdaaa
open Go.RowKit

section
variable {P : Program} {Q : Exit → Act → World → Prop}
/-- Each operation hangs on earlier ones alone. -/
def ordB (md : Region.Mode) (ops : Array Oper) : Bool := (List.range ops.size).all fun i => ((ops[i]?).map fun o => o.after.all fun e => !Region.binds md e || decide (e.on < i)).getD true
/-- Does operation i wait for operation j? -/
def waitsB (md : Region.Mode) (ops : Array Oper) (i j : Nat) : Bool := ((ops[i]?).map fun o => o.after.any fun e => Region.binds md e && e.on == j).getD false
theorem ready_waits {md : Region.Mode} {ops : Array Oper} {listed : Array Bool} {i j : Nat} (h : i ∈ Region.ready md ops listed) (hw : waitsB md ops i j = true) : listed.getD j false = true := by
  obtain ⟨_, o, ho, hall⟩ := mem_ready.1 h
  unfold waitsB at hw
  rw [ho] at hw
  simp only [Option.map_some, Option.getD_some, Array.any_eq_true'] at hw
  obtain ⟨e, he, hb⟩ := hw
  simp only [Bool.and_eq_true, beq_iff_eq] at hb
  rw [← hb.2]; exact hall e he hb.1
theorem all_of_ready_nil {md : Region.Mode} {ops : Array Oper} {listed : Array Bool} (hz : listed.size = ops.size) (ho : ordB md ops = true) (hr : Region.ready md ops listed = []) : ∀ i, i < ops.size → listed.getD i false = true := by
  intro i
  induction i using Nat.strongRecOn with
  | ind i ih =>
    intro hi
    cases hl : listed.getD i false with
    | true => rfl
    | false =>
      exfalso
      have hm : i ∈ Region.ready md ops listed := by
        refine mem_ready.2 ⟨?_, ops[i], Array.getElem?_eq_getElem hi, fun e he hb => ?_⟩
        · simp only [Array.getD_eq_getD_getElem?, Array.getElem?_eq_getElem (hz ▸ hi : i < listed.size), Option.getD_some] at hl ⊢; exact hl
        · have h1 := List.all_eq_true.1 ho i (List.mem_range.2 hi)
          rw [Array.getElem?_eq_getElem hi] at h1
          simp only [Option.map_some, Option.getD_some, Array.all_eq_true'] at h1
          have h2 := h1 e he
          rw [hb] at h2
          have h3 : e.on < i := by simpa using h2
          exact ih e.on h3 (by omega)
      rw [hr] at hm
      cases hm
theorem wpAny_inv {md : Region.Mode} {ops : Array Oper} (Inv : Array Bool → Act → World → Prop) (ho : ordB md ops = true)
    (hs : ∀ listed a w, listed.size = ops.size → Inv listed a w → ∀ i ∈ Region.ready md ops listed, wpOp P ops Q i (Inv (listed.setIfInBounds i true)) a w)
    (he : ∀ listed a w, listed.size = ops.size → (∀ i, i < ops.size → listed.getD i false = true) → Inv listed a w → Q .normal a w) :
    ∀ fuel (listed : Array Bool) a w, listed.size = ops.size → listed.toList.count false ≤ fuel → Inv listed a w → wpAny P md ops Q fuel listed a w := by
  intro fuel
  induction fuel with
  | zero =>
    intro listed a w hz hf hi
    have hr : Region.ready md ops listed = [] := by
      rw [List.eq_nil_iff_forall_not_mem]
      intro i hm
      obtain ⟨h1, o, h2, _⟩ := mem_ready.1 hm
      have hil : i < listed.size := by rw [hz]; exact (Array.getElem?_eq_some_iff.1 h2).1
      have h3 : listed[i] = false := by simpa [Array.getD_eq_getD_getElem?, Array.getElem?_eq_getElem hil] using h1
      have h4 : false ∈ listed.toList := by rw [← h3]; exact Array.getElem_mem_toList hil
      have := List.count_pos_iff.2 h4
      omega
    exact ⟨hr, he listed a w hz (all_of_ready_nil hz ho hr) hi⟩
  | succ fuel ih =>
    intro listed a w hz hf hi
    refine ⟨fun hr => he listed a w hz (all_of_ready_nil hz ho hr) hi, fun i hm => wpOp_mono (fun a' w' h => ih _ a' w' (by simpa using hz) ?_ h) (hs listed a w hz hi i hm)⟩
    obtain ⟨h1, o, h2, _⟩ := mem_ready.1 hm
    have hil : i < listed.size := by rw [hz]; exact (Array.getElem?_eq_some_iff.1 h2).1
    have h3 : listed[i] = false := by simpa [Array.getD_eq_getD_getElem?, Array.getElem?_eq_getElem hil] using h1
    have h4 : false ∈ listed.toList := by rw [← h3]; exact Array.getElem_mem_toList hil
    have hc := List.count_pos_iff.2 h4
    rw [Array.toList_setIfInBounds, List.count_set (by simpa using hil)]
    have h5 : listed.toList[i]'(by simpa using hil) = false := by simpa using h3
    rw [h5, if_pos (show (false == false) = true from rfl), if_neg (show ¬ (true == false) = true by decide)]
    omega

/-- A frame that is as another but for the slots of a list. -/
structure Fr (a0 : Act) (D : List Nat) (a : Act) : Prop where
  size : a.tmps.size = a0.tmps.size
  defers : a.defers = a0.defers
  off : ∀ k, k ∉ D → a.tmps.getD k undef = a0.tmps.getD k undef
theorem Fr.put {a0 a : Act} {D : List Nat} (h : Fr a0 D a) (d : Nat) (v : Value) (hd : d ∈ D) : Fr a0 D (a.put (some d) v) :=
  ⟨by simpa [Act.put] using h.size, h.defers, fun k hk => by
    have hne : d ≠ k := fun e => hk (e ▸ hd)
    rw [← h.off k hk]
    simp [Act.put, Array.getD_eq_getD_getElem?, hne]⟩
theorem put_same (a : Act) (d : Nat) (v : Value) (hd : d < a.tmps.size) : (a.put (some d) v).tmps.getD d undef = v := by
  simp [Act.put, Array.getD_eq_getD_getElem?, hd]
theorem put_other (a : Act) (d k : Nat) (v : Value) (hd : d ≠ k) : (a.put (some d) v).tmps.getD k undef = a.tmps.getD k undef := by
  simp [Act.put, Array.getD_eq_getD_getElem?, hd]
/-- The slots' values, written into a frame. -/
def puts (t : Array Value) : List (Nat × Value) → Array Value
  | [] => t
  | (d, v) :: r => puts (t.setIfInBounds d v) r
theorem puts_size : ∀ (l : List (Nat × Value)) (t : Array Value), (puts t l).size = t.size
  | [], _ => rfl
  | (d, v) :: r, t => by rw [puts, puts_size r]; simp
theorem puts_off (k : Nat) : ∀ (l : List (Nat × Value)) (t : Array Value), k ∉ l.map (·.1) → (puts t l).getD k undef = t.getD k undef
  | [], _, _ => rfl
  | (d, v) :: r, t, h => by
    simp only [List.map_cons, List.mem_cons, not_or] at h
    rw [puts, puts_off k r _ h.2]
    simp [Array.getD_eq_getD_getElem?, Ne.symm h.1]
theorem puts_at : ∀ (l : List (Nat × Value)) (t : Array Value), (l.map (·.1)).Nodup → (∀ x ∈ l, x.1 < t.size) → ∀ x ∈ l, (puts t l).getD x.1 undef = x.2
  | [], _, _, _, x, hx => by cases hx
  | (d, v) :: r, t, hn, hb, x, hx => by
    simp only [List.map_cons, List.nodup_cons] at hn
    rcases List.mem_cons.1 hx with rfl | hx
    · rw [puts, puts_off d r _ hn.1]
      have : d < t.size := hb (d, v) List.mem_cons_self
      simp [Array.getD_eq_getD_getElem?, this]
    · rw [puts]
      exact puts_at r _ hn.2 (fun y hy => by simpa using hb y (List.mem_cons_of_mem _ hy)) x hx
theorem Fr.eq {a0 a : Act} {l : List (Nat × Value)} (h : Fr a0 (l.map (·.1)) a) (hn : (l.map (·.1)).Nodup) (hb : ∀ x ∈ l, x.1 < a0.tmps.size) (hv : ∀ x ∈ l, a.tmps.getD x.1 undef = x.2) : a = ⟨puts a0.tmps l, a0.defers⟩ := by
  obtain ⟨t, df⟩ := a
  have e : t = puts a0.tmps l := by
    refine Array.ext (by rw [puts_size]; exact h.size) fun k hk hk2 => ?_
    have e1 : t.getD k undef = (puts a0.tmps l).getD k undef := by
      by_cases hm : k ∈ l.map (·.1)
      · obtain ⟨x, hx, rfl⟩ := List.mem_map.1 hm
        rw [puts_at l _ hn hb x hx]; exact hv x hx
      · rw [puts_off k l _ hm]; exact h.off k hm
    simpa [Array.getD_eq_getD_getElem?, hk, hk2] using e1
  subst e
  have := h.defers
  simp only at this
  rw [this]

theorem set_ne {listed : Array Bool} {i j : Nat} {d : Bool} (h : i ≠ j) : (listed.setIfInBounds i true).getD j d = listed.getD j d := by
  simp [Array.getD_eq_getD_getElem?, h]
theorem wpOp_val {ops : Array Oper} {i : Nat} {o : Oper} {a : Act} {w w' : World} {v : Value} {K : Act → World → Prop} (hi : ops[i]? = some o) (hg : o.guard = none) (hr : (execOp a.eval o).run P w = .ok (.value v) w') (h : K (a.put o.dst v) w') : wpOp P ops Q i K a w := by
  unfold wpOp
  simp only [hi]
  rw [if_pos (by unfold Region.wanted; rw [hg])]
  left
  unfold Oper.wp
  rw [hr]
  exact h
theorem wpOp_skip {ops : Array Oper} {i : Nat} {o : Oper} {a : Act} {w w' : World} {K : Act → World → Prop} (hi : ops[i]? = some o) (hg : o.guard = none) (hr : (execOp a.eval o).run P w = .ok .skip w') (h : K (a.put o.dst undef) w') : wpOp P ops Q i K a w := by
  unfold wpOp
  simp only [hi]
  rw [if_pos (by unfold Region.wanted; rw [hg])]
  left
  unfold Oper.wp
  rw [hr]
  exact h
theorem wpOp_enter {ops : Array Oper} {i : Nat} {o : Oper} {a : Act} {w : World} {f : FuncId} {args : Array Value} {v : Value} {K : Act → World → Prop} (hi : ops[i]? = some o) (hg : o.guard = none) (hr : (execOp a.eval o).run P w = .ok (.enter f args) w)
    (hc : Calls P f args w fun e w' => e = .returned v ∧ Below w.heap.size w w') (h : ∀ w', Below w.heap.size w w' → K (a.put o.dst v) w') : wpOp P ops Q i K a w := by
  unfold wpOp
  simp only [hi]
  rw [if_pos (by unfold Region.wanted; rw [hg])]
  left
  unfold Oper.wp
  rw [hr, Oper.upon_enter]
  refine hc.mono ?_
  rintro e w' ⟨rfl, hb⟩
  exact h w' hb
/-- A load of a row; a call of a function by name. -/
theorem wpOp_ldr {ops : Array Oper} {i : Nat} {o : Oper} {a : Act} {w : World} {K : Act → World → Prop} (hi : ops[i]? = some o) (hg : o.guard = none) (T : TypeId) (x : Operand) (ho : o.op = .load T x)
    (b f : Nat) (cs : List Value) (d : TypeDesc) (hu : P.underlying T = some d) (hd : d.isRow = true) (hs : (P.info? T).map (·.size) = some cs.length) (hx : a.eval x = .pointer (some ⟨b, f, none⟩)) (hc : w.rangeAt b f cs) (h : K (a.put o.dst (.agg cs.toArray)) w) : wpOp P ops Q i K a w := by
  refine wpOp_val hi hg ?_ h
  have := run_loadAt_mid (P := P) _ b f T cs d hc hu hd hs
  unfold execOp
  simp only [ho, hx, Sem.run_bind, this, Result.andThen_ok, Sem.run_pure]
theorem exec_ldr {o : Oper} {a : Act} {w : World} (T : TypeId) (x : Operand) (ho : o.op = .load T x)
    (b f : Nat) (cs : List Value) (d : TypeDesc) (hu : P.underlying T = some d) (hd : d.isRow = true) (hs : (P.info? T).map (·.size) = some cs.length) (hx : a.eval x = .pointer (some ⟨b, f, none⟩)) (hc : w.rangeAt b f cs) : (execOp a.eval o).run P w = .ok (.value (.agg cs.toArray)) w := by
  have := run_loadAt_mid (P := P) _ b f T cs d hc hu hd hs
  unfold execOp
  simp only [ho, hx, Sem.run_bind, this, Result.andThen_ok, Sem.run_pure]
theorem exec_str {o : Oper} {a : Act} {w : World} (T : TypeId) (x y : Operand) (ho : o.op = .store T x y) (g : Nat) (cs old : Array Value) (T' : TypeId)
    (hi : (P.info? T).map (·.size) = some cs.size) (hs : cs.size = old.size) (h1 : cs.all (·.oneCell') = true) (hx : a.eval x = .pointer (some ⟨g, 0, none⟩)) (hy : a.eval y = .agg cs) (hg : w.heap[g]? = some (.cells old T')) : (execOp a.eval o).run P w = .ok .skip (w.setRow g cs) := by
  unfold execOp
  simp only [ho, hx, hy, Instr.storeAt, Instr.sureAddr, Sem.run_bind, Sem.run_pure, Result.andThen_ok, run_storeVar_row w g T' T old cs hg hi hs.symm h1]
theorem wpOp_mv {ops : Array Oper} {i : Nat} {o : Oper} {a : Act} {w : World} {K : Act → World → Prop} (hi : ops[i]? = some o) (hg : o.guard = none) (x : Operand) (ho : o.op = .move x) (v : Value) (hx : a.eval x = v) (h : K (a.put o.dst v) w) : wpOp P ops Q i K a w := by
  refine wpOp_val hi hg ?_ h
  unfold execOp
  simp only [ho, hx, Sem.run_pure]
theorem wpOp_ix {ops : Array Oper} {i : Nat} {o : Oper} {a : Act} {w : World} {K : Act → World → Prop} (hi : ops[i]? = some o) (hg : o.guard = none) (T E : TypeId) (x y : Operand) (ho : o.op = .indexAddr T x y) (hT : P.underlying T = some (.slice E)) (k : Nat) (hE : (P.info? E).map (·.size) = some k) (b f n c j : Nat)
    (hx : a.eval x = .slice (some ⟨b, f, none⟩) n c) (hy : a.eval y = .int .i64 (j : Int)) (hj : j < n) (h : K (a.put o.dst (.pointer (some ⟨b, f + j * k, none⟩))) w) : wpOp P ops Q i K a w := by
  refine wpOp_val hi hg ?_ h
  cases hq : P.info? E with
  | none => simp [hq] at hE
  | some i =>
    have hs : i.size = k := by simpa [hq] using hE
    unfold execOp
    simp only [ho, hx, hy]
    simp [go_sem, hT, sizeOf, typeInfo, hq, hs, hj]
theorem exec_call1 {o : Oper} {a : Act} {f : FuncId} {x : Operand} {ts : Array TypeId} {v : Value} (ho : o.op = .call { callee := .value (.func f), args := #[x], argTypes := ts }) (hf : ∀ args w, (callFunc f args).run P w = .ok (.enter f args) w) (hx : a.eval x = v) (w : World) :
    (execOp a.eval o).run P w = .ok (.enter f #[v]) w := by
  unfold execOp
  simp [ho, resolve, invoke, hx, hf, Deferred.ofValue, show a.eval (.func f) = .func (.func f) #[] #[] from rfl]
theorem listed_set {listed : Array Bool} {i j : Nat} (hj : (listed.setIfInBounds i true).getD j false = true) : j = i ∨ listed.getD j false = true := by
  by_cases h : i = j
  · exact Or.inl h.symm
  · right
    simpa [Array.getD_eq_getD_getElem?, Array.getElem?_setIfInBounds, h] using hj
theorem listed_of {listed : Array Bool} {i j : Nat} (hj : listed.getD j false = true) : (listed.setIfInBounds i true).getD j false = true := by
  by_cases h : i = j
  · subst h
    by_cases hz : i < listed.size
    · simp [Array.getD_eq_getD_getElem?, hz]
    · simp [Array.getD_eq_getD_getElem?, hz] at hj
  · simpa [Array.getD_eq_getD_getElem?, Array.getElem?_setIfInBounds, h] using hj
/-- Of a variable that is laid in slot p: where it lies, and what it holds. -/
def LaidV (W0 : World) (a : Act) (w : World) (p : Nat) (cs : Array Value) (T : TypeId) : Prop :=
  ∃ g, a.tmps.getD p undef = .pointer (some ⟨g, 0, none⟩) ∧ W0.heap.size ≤ g ∧ w.heap[g]? = some (.cells cs T (0, 0))
theorem LaidV.below {W0 : World} {a a' : Act} {w w' : World} {p : Nat} {cs : Array Value} {T : TypeId} (h : LaidV W0 a w p cs T) (ha : a'.tmps.getD p undef = a.tmps.getD p undef) (hb : Below w.heap.size w w') : LaidV W0 a' w' p cs T := by
  obtain ⟨g, h1, h2, h3⟩ := h
  exact ⟨g, ha.trans h1, h2, (hb.block g (lt_heap h3)).trans h3⟩
/-- What holds between the operations of such a region. -/
structure PairInv (W0 : World) (a0 : Act) (DV : List (Nat × Value)) (p q : Nat) (z1 z2 c1 c2 : Array Value) (T1 T2 : TypeId) (listed : Array Bool) (a : Act) (w : World) : Prop where
  fr : Fr a0 (DV.map (·.1) ++ [p, q]) a
  bel : Below W0.heap.size W0 w
  val : ∀ i (h : i < DV.length), listed.getD i false = true → a.tmps.getD (DV[i]).1 undef = (DV[i]).2
  one : listed.getD DV.length false = true → LaidV W0 a w p (if listed.getD (DV.length + 2) false then c1 else z1) T1
  two : listed.getD (DV.length + 1) false = true → LaidV W0 a w q (if listed.getD (DV.length + 3) false then c2 else z2) T2
  ne : listed.getD DV.length false = true → listed.getD (DV.length + 1) false = true → a.tmps.getD p undef ≠ a.tmps.getD q undef
  o3 : listed.getD (DV.length + 2) false = true → listed.getD DV.length false = true ∧ listed.getD (DV.length + 1) false = true
  o4 : listed.getD (DV.length + 3) false = true → listed.getD DV.length false = true ∧ listed.getD (DV.length + 1) false = true
theorem wp_region_pair {id : Nat} {a0 : Act} {W0 : World} {l : List Oper} (DV : List (Nat × Value)) (p q : Nat) (z1 z2 c1 c2 : Array Value) (T1 T2 : TypeId)
    (hm : P.follows .mixedOrders = true) (ho : ordB .any l.toArray = true) (hlen : l.length = DV.length + 4)
    (hn : (DV.map (·.1) ++ [p, q]).Nodup) (hbd : ∀ k ∈ DV.map (·.1) ++ [p, q], k < a0.tmps.size)
    (o1 o2 o3 o4 : Oper) (g1 : l[DV.length]? = some o1) (g2 : l[DV.length + 1]? = some o2) (g3 : l[DV.length + 2]? = some o3) (g4 : l[DV.length + 3]? = some o4)
    (e1 : o1.dst = some p ∧ o1.guard = none ∧ ∀ (a : Act) (w : World), (execOp a.eval o1).run P w = .ok (.value (.pointer (some ⟨w.heap.size, 0, none⟩))) (w.alloc (.cells z1 T1)))
    (e2 : o2.dst = some q ∧ o2.guard = none ∧ ∀ (a : Act) (w : World), (execOp a.eval o2).run P w = .ok (.value (.pointer (some ⟨w.heap.size, 0, none⟩))) (w.alloc (.cells z2 T2)))
    (e3 : o3.dst = none ∧ o3.guard = none ∧ ∀ (a : Act) (w : World) (g : Nat), (∀ j, (h : j < DV.length) → waitsB .any l.toArray (DV.length + 2) j = true → a.tmps.getD (DV[j]).1 undef = (DV[j]).2) → a.tmps.getD p undef = .pointer (some ⟨g, 0, none⟩) → w.heap[g]? = some (.cells z1 T1 (0, 0)) → (execOp a.eval o3).run P w = .ok .skip (w.setRow g c1))
    (e4 : o4.dst = none ∧ o4.guard = none ∧ ∀ (a : Act) (w : World) (g : Nat), (∀ j, (h : j < DV.length) → waitsB .any l.toArray (DV.length + 3) j = true → a.tmps.getD (DV[j]).1 undef = (DV[j]).2) → a.tmps.getD q undef = .pointer (some ⟨g, 0, none⟩) → w.heap[g]? = some (.cells z2 T2 (0, 0)) → (execOp a.eval o4).run P w = .ok .skip (w.setRow g c2))
    (w31 : waitsB .any l.toArray (DV.length + 2) DV.length = true) (w42 : waitsB .any l.toArray (DV.length + 3) (DV.length + 1) = true)
    (w32 : waitsB .any l.toArray (DV.length + 2) (DV.length + 1) = true) (w41 : waitsB .any l.toArray (DV.length + 3) DV.length = true)
    (hq : ∀ i (h : i < DV.length) (a : Act) (w : World), Fr a0 (DV.map (·.1) ++ [p, q]) a → (∀ j, (hj : j < DV.length) → waitsB .any l.toArray i j = true → a.tmps.getD (DV[j]).1 undef = (DV[j]).2) → Below W0.heap.size W0 w →
      ∀ K : Act → World → Prop, (∀ w', Below w.heap.size w w' → K (a.put (some (DV[i]).1) (DV[i]).2) w') → wpOp P l.toArray Q i K a w)
    (hend : ∀ (w : World) (g h : Nat), g ≠ h → W0.heap.size ≤ g → W0.heap.size ≤ h → Below W0.heap.size W0 w → w.heap[g]? = some (.cells c1 T1 (0, 0)) → w.heap[h]? = some (.cells c2 T2 (0, 0)) →
      Q .normal ⟨puts a0.tmps (DV ++ [(p, .pointer (some ⟨g, 0, none⟩)), (q, .pointer (some ⟨h, 0, none⟩))]), a0.defers⟩ w) :
    (Code.region id l.toArray true).wp P Q a0 W0 := by
  have hsz : l.toArray.size = DV.length + 4 := by simpa using hlen
  have hpq : p ≠ q := by
    have := (List.nodup_append.1 hn).2.1
    simpa using this
  have hDp : ∀ i (h : i < DV.length), (DV[i]).1 ≠ p ∧ (DV[i]).1 ≠ q := fun i h => by
    have h3 := (List.nodup_append.1 hn).2.2
    have hmem : (DV[i]).1 ∈ DV.map (·.1) := List.mem_map.2 ⟨DV[i], List.getElem_mem h, rfl⟩
    exact ⟨h3 _ hmem p (by simp), h3 _ hmem q (by simp)⟩
  have hDi : ∀ i j (h : i < DV.length) (h' : j < DV.length), i ≠ j → (DV[i]).1 ≠ (DV[j]).1 := fun i j h h' hne => by
    have h1 := List.pairwise_iff_getElem.1 (List.nodup_append.1 hn).1
    rcases Nat.lt_or_gt_of_ne hne with hlt | hlt
    · have := h1 i j (by simpa using h) (by simpa using h') hlt
      simpa using this
    · have := h1 j i (by simpa using h') (by simpa using h) hlt
      simpa using this.symm
  refine wp_region_any hm (wpAny_inv (PairInv W0 a0 DV p q z1 z2 c1 c2 T1 T2) ho ?_ ?_ _ _ _ _ (by simp) ?_ ?_)
  · intro listed a w hz I i hi
    obtain ⟨hun, oi, hoi, _⟩ := mem_ready.1 hi
    have hisz : i < DV.length + 4 := by rw [← hsz]; exact (Array.getElem?_eq_some_iff.1 hoi).1
    have hunf : listed.getD i false = false := by
      have h1 : i < listed.size := by rw [hz, hsz]; exact hisz
      simpa [Array.getD_eq_getD_getElem?, Array.getElem?_eq_getElem h1] using hun
    have hlt : ∀ k, listed.getD k false = true → k ≠ i := fun k hk e => by rw [e, hunf] at hk; cases hk
    have hset : (listed.setIfInBounds i true).getD i false = true := by
      have h1 : i < listed.size := by rw [hz, hsz]; exact hisz
      simp [Array.getD_eq_getD_getElem?, h1]
    rcases (by omega : i < DV.length ∨ i = DV.length ∨ i = DV.length + 1 ∨ i = DV.length + 2 ∨ i = DV.length + 3) with h | rfl | rfl | rfl | rfl
    · refine hq i h a w I.fr (fun j hj hw => I.val j hj (ready_waits hi hw)) I.bel _ (fun w' hb => ?_)
      have s2 : (listed.setIfInBounds i true).getD (DV.length + 2) false = listed.getD (DV.length + 2) false := set_ne (by omega)
      have s3 : (listed.setIfInBounds i true).getD (DV.length + 3) false = listed.getD (DV.length + 3) false := set_ne (by omega)
      have s0 : (listed.setIfInBounds i true).getD DV.length false = listed.getD DV.length false := set_ne (by omega)
      have s1 : (listed.setIfInBounds i true).getD (DV.length + 1) false = listed.getD (DV.length + 1) false := set_ne (by omega)
      refine ⟨I.fr.put _ _ (by simp only [List.mem_append]; exact Or.inl (List.mem_map.2 ⟨DV[i], List.getElem_mem h, rfl⟩)), I.bel.trans (hb.mono I.bel.size), fun j hj hl => ?_, fun hl => ?_, fun hl => ?_, fun hl hl' => ?_, fun hl => ?_, fun hl => ?_⟩
      · by_cases e : j = i
        · subst e
          exact put_same _ _ _ (by rw [I.fr.size]; exact hbd _ (by simp only [List.mem_append]; exact Or.inl (List.mem_map.2 ⟨DV[j], List.getElem_mem h, rfl⟩)))
        · rw [put_other _ _ _ _ (hDi i j h hj (Ne.symm e))]
          exact I.val j hj ((listed_set hl).resolve_left e)
      · rw [s2]; rw [s0] at hl
        exact (I.one hl).below (put_other _ _ _ _ (hDp i h).1) hb
      · rw [s3]; rw [s1] at hl
        exact (I.two hl).below (put_other _ _ _ _ (hDp i h).2) hb
      · rw [s0] at hl; rw [s1] at hl'
        rw [put_other _ _ _ _ (hDp i h).1, put_other _ _ _ _ (hDp i h).2]
        exact I.ne hl hl'
      · rw [s2] at hl; rw [s0, s1]; exact I.o3 hl
      · rw [s3] at hl; rw [s0, s1]; exact I.o4 hl
    · refine wpOp_val (o := o1) (by simpa using g1) e1.2.1 (e1.2.2 a w) ?_
      rw [e1.1]
      have hb := below_alloc1 w (.cells z1 T1)
      have hf2 : listed.getD (DV.length + 2) false = false := by
        cases h : listed.getD (DV.length + 2) false with
        | false => rfl
        | true => exact absurd rfl (hlt _ (I.o3 h).1)
      have hf3 : listed.getD (DV.length + 3) false = false := by
        cases h : listed.getD (DV.length + 3) false with
        | false => rfl
        | true => exact absurd rfl (hlt _ (I.o4 h).1)
      have s2 : (listed.setIfInBounds DV.length true).getD (DV.length + 2) false = false := (set_ne (by omega)).trans hf2
      have s3 : (listed.setIfInBounds DV.length true).getD (DV.length + 3) false = false := (set_ne (by omega)).trans hf3
      have s1 : (listed.setIfInBounds DV.length true).getD (DV.length + 1) false = listed.getD (DV.length + 1) false := set_ne (by omega)
      have hps : p < a.tmps.size := by rw [I.fr.size]; exact hbd _ (by simp)
      refine ⟨I.fr.put _ _ (by simp), I.bel.trans (hb.mono I.bel.size), fun j hj hl => ?_, fun hl => ?_, fun hl => ?_, fun hl hl' => ?_, fun hl => ?_, fun hl => ?_⟩
      · rw [put_other _ _ _ _ (Ne.symm (hDp j hj).1)]
        exact I.val j hj ((listed_set hl).resolve_left (by omega))
      · rw [s2]; exact ⟨w.heap.size, put_same _ _ _ hps, I.bel.size, heap_alloc_new _ _⟩
      · rw [s3]; rw [s1] at hl
        have := I.two hl
        rw [hf3] at this
        exact this.below (put_other _ _ _ _ hpq) hb
      · rw [s1] at hl'
        obtain ⟨g, hg1, _, hg3⟩ := I.two hl'
        rw [put_same _ _ _ hps, put_other _ _ _ _ hpq, hg1]
        intro e
        simp only [Value.pointer.injEq, Option.some.injEq, Addr.mk.injEq] at e
        have := lt_heap hg3
        omega
      · rw [s2] at hl; cases hl
      · rw [s3] at hl; cases hl
    · refine wpOp_val (o := o2) (by simpa using g2) e2.2.1 (e2.2.2 a w) ?_
      rw [e2.1]
      have hb := below_alloc1 w (.cells z2 T2)
      have hf2 : listed.getD (DV.length + 2) false = false := by
        cases h : listed.getD (DV.length + 2) false with
        | false => rfl
        | true => exact absurd rfl (hlt _ (I.o3 h).2)
      have hf3 : listed.getD (DV.length + 3) false = false := by
        cases h : listed.getD (DV.length + 3) false with
        | false => rfl
        | true => exact absurd rfl (hlt _ (I.o4 h).2)
      have s2 : (listed.setIfInBounds (DV.length + 1) true).getD (DV.length + 2) false = false := (set_ne (by omega)).trans hf2
      have s3 : (listed.setIfInBounds (DV.length + 1) true).getD (DV.length + 3) false = false := (set_ne (by omega)).trans hf3
      have s0 : (listed.setIfInBounds (DV.length + 1) true).getD DV.length false = listed.getD DV.length false := set_ne (by omega)
      have hqs : q < a.tmps.size := by rw [I.fr.size]; exact hbd _ (by simp)
      refine ⟨I.fr.put _ _ (by simp), I.bel.trans (hb.mono I.bel.size), fun j hj hl => ?_, fun hl => ?_, fun hl => ?_, fun hl hl' => ?_, fun hl => ?_, fun hl => ?_⟩
      · rw [put_other _ _ _ _ (Ne.symm (hDp j hj).2)]
        exact I.val j hj ((listed_set hl).resolve_left (by omega))
      · rw [s2]; rw [s0] at hl
        have := I.one hl
        rw [hf2] at this
        exact this.below (put_other _ _ _ _ (Ne.symm hpq)) hb
      · rw [s3]; exact ⟨w.heap.size, put_same _ _ _ hqs, I.bel.size, heap_alloc_new _ _⟩
      · rw [s0] at hl
        obtain ⟨g, hg1, _, hg3⟩ := I.one hl
        rw [put_same _ _ _ hqs, put_other _ _ _ _ (Ne.symm hpq), hg1]
        intro e
        simp only [Value.pointer.injEq, Option.some.injEq, Addr.mk.injEq] at e
        have := lt_heap hg3
        omega
      · rw [s2] at hl; cases hl
      · rw [s3] at hl; cases hl
    · have hl0 := ready_waits hi w31
      have hl1 := ready_waits hi w32
      obtain ⟨g, hg1, hg2, hg3⟩ := I.one hl0
      obtain ⟨h, hh1, hh2, hh3⟩ := I.two hl1
      have hgh : h ≠ g := fun e => I.ne hl0 hl1 (by rw [hg1, hh1, e])
      rw [hunf] at hg3
      refine wpOp_skip (o := o3) (by simpa using g3) e3.2.1 (e3.2.2 a w g (fun j hj hw => I.val j hj (ready_waits hi hw)) hg1 hg3) ?_
      rw [e3.1]
      have s3 : (listed.setIfInBounds (DV.length + 2) true).getD (DV.length + 3) false = listed.getD (DV.length + 3) false := set_ne (by omega)
      refine ⟨I.fr, setRow_below I.bel hg2 c1, fun j hj hl => I.val j hj ((listed_set hl).resolve_left (by omega)), fun _ => ?_, fun _ => ?_, fun _ _ => I.ne hl0 hl1, fun _ => ⟨listed_of hl0, listed_of hl1⟩, fun _ => ⟨listed_of hl0, listed_of hl1⟩⟩
      · rw [hset]; exact ⟨g, hg1, hg2, setRow_at hg3⟩
      · rw [s3]; exact ⟨h, hh1, hh2, (setRow_other _ _ _ _ hgh).trans hh3⟩
    · have hl0 := ready_waits hi w41
      have hl1 := ready_waits hi w42
      obtain ⟨g, hg1, hg2, hg3⟩ := I.one hl0
      obtain ⟨h, hh1, hh2, hh3⟩ := I.two hl1
      have hgh : g ≠ h := fun e => I.ne hl0 hl1 (by rw [hg1, hh1, e])
      rw [hunf] at hh3
      refine wpOp_skip (o := o4) (by simpa using g4) e4.2.1 (e4.2.2 a w h (fun j hj hw => I.val j hj (ready_waits hi hw)) hh1 hh3) ?_
      rw [e4.1]
      have s2 : (listed.setIfInBounds (DV.length + 3) true).getD (DV.length + 2) false = listed.getD (DV.length + 2) false := set_ne (by omega)
      refine ⟨I.fr, setRow_below I.bel hh2 c2, fun j hj hl => I.val j hj ((listed_set hl).resolve_left (by omega)), fun _ => ?_, fun _ => ?_, fun _ _ => I.ne hl0 hl1, fun _ => ⟨listed_of hl0, listed_of hl1⟩, fun _ => ⟨listed_of hl0, listed_of hl1⟩⟩
      · rw [s2]; exact ⟨g, hg1, hg2, (setRow_other _ _ _ _ hgh).trans hg3⟩
      · rw [hset]; exact ⟨h, hh1, hh2, setRow_at hh3⟩
  · intro listed a w hz hall I
    have hA : ∀ i, i < DV.length + 4 → listed.getD i false = true := fun i hi => hall i (by rw [hsz]; exact hi)
    obtain ⟨g, hg1, hg2, hg3⟩ := I.one (hA _ (by omega))
    obtain ⟨h, hh1, hh2, hh3⟩ := I.two (hA _ (by omega))
    have hgh : g ≠ h := fun e => I.ne (hA _ (by omega)) (hA _ (by omega)) (by rw [hg1, hh1, e])
    rw [hA _ (by omega)] at hg3 hh3
    have hmap : (DV ++ [(p, Value.pointer (some ⟨g, 0, none⟩)), (q, Value.pointer (some ⟨h, 0, none⟩))]).map (·.1) = DV.map (·.1) ++ [p, q] := by simp
    have e := Fr.eq (l := DV ++ [(p, Value.pointer (some ⟨g, 0, none⟩)), (q, Value.pointer (some ⟨h, 0, none⟩))]) (a0 := a0) (a := a) (by rw [hmap]; exact I.fr) (by rw [hmap]; exact hn)
      (fun x hx => hbd _ (by rw [← hmap]; exact List.mem_map.2 ⟨x, hx, rfl⟩)) (fun x hx => by
        rcases List.mem_append.1 hx with hx | hx
        · obtain ⟨i, hi, rfl⟩ := List.mem_iff_getElem.1 hx
          exact I.val i hi (hA i (by omega))
        · simp only [List.mem_cons, List.not_mem_nil, or_false] at hx
          rcases hx with rfl | rfl
          · exact hg1
          · exact hh1)
    rw [e]
    exact hend w g h hgh hg2 hh2 I.bel hg3 hh3
  · simp
  · have hf : ∀ i, (Array.replicate l.toArray.size false).getD i false = false := fun i => by
      rw [Array.getD_eq_getD_getElem?, Array.getElem?_replicate]
      split <;> rfl
    refine ⟨⟨rfl, rfl, fun _ _ => rfl⟩, ⟨rfl, rfl, rfl, Nat.le_refl _, fun _ _ => rfl⟩, fun i _ h => ?_, fun h => ?_, fun h => ?_, fun h => ?_, fun h => ?_, fun h => ?_⟩ <;> (rw [hf] at h; cases h)
end
end Go.Proofs.Ytmdhlpnieimdaaa

/- A region that draws its order: operations that turn the world, each waiting for the one before; between them operations that read, in whatever order. Over any program. -/
namespace Go.Proofs.Ytmdhlpnieimdaaa
open Go.RowKit

section
variable {P : Program} {Q : Exit → Act → World → Prop}
def putO (a : Act) : Option (Nat × Value) → Act
  | some (d, v) => a.put (some d) v
  | none => a
/-- What such a region's frame holds of the operations that have run. -/
def Held (DV : List (Option (Nat × Value))) (a : Act) (i : Nat) : Prop := ∀ d v, DV[i]? = some (some (d, v)) → a.tmps.getD d undef = v
/-- What holds between the operations. -/
structure ChainInv (md : Region.Mode) (ops : Array Oper) (C : Nat → World → Prop) (a0 : Act) (DV : List (Option (Nat × Value))) (E : List Nat) (listed : Array Bool) (a : Act) (w : World) : Prop where
  fr : Fr a0 ((DV.filterMap id).map (·.1)) a
  val : ∀ i, listed.getD i false = true → Held DV a i
  down : ∀ i j, listed.getD i false = true → waitsB md ops i j = true → listed.getD j false = true
  at_ : ∃ k, k ≤ E.length ∧ C k w ∧ ∀ r (h : r < E.length), (listed.getD E[r] false = true ↔ r < k)
theorem DV_mem {DV : List (Option (Nat × Value))} {i d : Nat} {v : Value} (h : DV[i]? = some (some (d, v))) : (d, v) ∈ DV.filterMap id := by
  refine List.mem_filterMap.2 ⟨some (d, v), List.mem_of_getElem? h, rfl⟩
theorem DV_ne : ∀ {DV : List (Option (Nat × Value))} {i j d e : Nat} {v u : Value}, ((DV.filterMap id).map (·.1)).Nodup → i ≠ j → DV[i]? = some (some (d, v)) → DV[j]? = some (some (e, u)) → d ≠ e
  | [], _, _, _, _, _, _, _, _, h, _ => by simp at h
  | x :: r, i, j, d, e, v, u, hn, hij, hi, hj => by
    cases x with
    | none =>
      cases i with
      | zero => simp at hi
      | succ i =>
        cases j with
        | zero => simp at hj
        | succ j => exact DV_ne (DV := r) (i := i) (j := j) (by simpa using hn) (by omega) (by simpa using hi) (by simpa using hj)
    | some y =>
      simp only [List.filterMap_cons, id_eq, List.map_cons, List.nodup_cons] at hn
      cases i with
      | zero =>
        cases j with
        | zero => omega
        | succ j =>
          simp only [List.getElem?_cons_zero, Option.some.injEq] at hi
          simp only [List.getElem?_cons_succ] at hj
          rintro rfl
          subst hi
          exact hn.1 (List.mem_map.2 ⟨_, DV_mem hj, rfl⟩)
      | succ i =>
        cases j with
        | zero =>
          simp only [List.getElem?_cons_zero, Option.some.injEq] at hj
          simp only [List.getElem?_cons_succ] at hi
          rintro rfl
          subst hj
          exact hn.1 (List.mem_map.2 ⟨_, DV_mem hi, rfl⟩)
        | succ j => exact DV_ne (DV := r) (i := i) (j := j) hn.2 (by omega) (by simpa using hi) (by simpa using hj)
theorem gd_rep (m j : Nat) : (Array.replicate m false).getD j false = false := by
  rw [Array.getD_eq_getD_getElem?, Array.getElem?_replicate]
  split <;> rfl
theorem nodup_inj {E : List Nat} (h : E.Nodup) {r s : Nat} (hr : r < E.length) (hs : s < E.length) (e : E[r] = E[s]) : r = s := by
  have h1 := List.pairwise_iff_getElem.1 h
  rcases Nat.lt_trichotomy r s with hlt | he | hlt
  · exact absurd e (h1 r s hr hs hlt)
  · exact he
  · exact absurd e.symm (h1 s r hs hr hlt)
theorem ChainInv.step {md : Region.Mode} {ops : Array Oper} {C : Nat → World → Prop} {a0 : Act} {DV : List (Option (Nat × Value))} {E : List Nat} {listed : Array Bool} {a : Act} {w w' : World} {i : Nat}
    (I : ChainInv md ops C a0 DV E listed a w) (hlen : DV.length = ops.size) (hn : ((DV.filterMap id).map (·.1)).Nodup) (hbd : ∀ k ∈ (DV.filterMap id).map (·.1), k < a0.tmps.size)
    (hi : i ∈ Region.ready md ops listed)
    (hat : ∃ k, k ≤ E.length ∧ C k w' ∧ ∀ r (h : r < E.length), ((listed.setIfInBounds i true).getD E[r] false = true ↔ r < k)) :
    ChainInv md ops C a0 DV E (listed.setIfInBounds i true) (putO a (DV[i]?.getD none)) w' := by
  obtain ⟨hun, oi, hoi, _⟩ := mem_ready.1 hi
  have hisz : i < ops.size := (Array.getElem?_eq_some_iff.1 hoi).1
  have hdi : ∃ x, DV[i]? = some x := ⟨DV[i]'(by omega), List.getElem?_eq_getElem (by omega)⟩
  obtain ⟨x, hx⟩ := hdi
  rw [hx]
  simp only [Option.getD_some]
  have hdown : ∀ i' j, (listed.setIfInBounds i true).getD i' false = true → waitsB md ops i' j = true → (listed.setIfInBounds i true).getD j false = true := by
    intro i' j hl hw
    rcases listed_set hl with rfl | hl
    · exact listed_of (ready_waits hi hw)
    · exact listed_of (I.down i' j hl hw)
  cases x with
  | none =>
    refine ⟨I.fr, fun j hl => ?_, hdown, hat⟩
    rcases listed_set hl with rfl | hl
    · intro d v hd; rw [hx] at hd; simp at hd
    · exact I.val j hl
  | some y =>
    obtain ⟨d, v⟩ := y
    have hm : d ∈ (DV.filterMap id).map (·.1) := List.mem_map.2 ⟨_, DV_mem hx, rfl⟩
    refine ⟨I.fr.put _ _ hm, fun j hl => ?_, hdown, hat⟩
    intro e u he
    by_cases hji : j = i
    · subst hji
      rw [hx] at he
      simp only [Option.some.injEq, Prod.mk.injEq] at he
      obtain ⟨rfl, rfl⟩ := he
      exact put_same _ _ _ (by rw [I.fr.size]; exact hbd _ hm)
    · show (a.put (some d) v).tmps.getD e undef = u
      rw [put_other _ _ _ _ (DV_ne hn (Ne.symm hji) hx he)]
      exact I.val j ((listed_set hl).resolve_left hji) e u he
theorem wp_region_chain {id : Nat} {a0 : Act} {W0 : World} {l : List Oper} (C : Nat → World → Prop) (DV : List (Option (Nat × Value))) (E : List Nat)
    (hm : P.follows .mixedOrders = true) (ho : ordB .any l.toArray = true) (hlen : DV.length = l.length)
    (hn : ((DV.filterMap _root_.id).map (·.1)).Nodup) (hbd : ∀ k ∈ (DV.filterMap _root_.id).map (·.1), k < a0.tmps.size)
    (hEn : E.Nodup) (hEb : ∀ r ∈ E, r < l.length)
    (hch : ∀ r (h : r + 1 < E.length), waitsB .any l.toArray E[r + 1] (E[r]'(by omega)) = true)
    (h0 : C 0 { W0 with drawn := W0.drawn + 1 })
    (hq : ∀ i, i < l.length → i ∉ E → ∀ (a : Act) (w : World) (k : Nat), Fr a0 ((DV.filterMap _root_.id).map (·.1)) a → (∀ j, waitsB .any l.toArray i j = true → Held DV a j) → C k w → (∀ r (h : r < E.length), r < k → waitsB .any l.toArray E[r] i = false) →
      ∀ K : Act → World → Prop, K (putO a (DV[i]?.getD none)) w → wpOp P l.toArray Q i K a w)
    (he : ∀ r (h : r < E.length) (a : Act) (w : World), Fr a0 ((DV.filterMap _root_.id).map (·.1)) a → (∀ j, waitsB .any l.toArray E[r] j = true → Held DV a j) → C r w →
      ∀ K : Act → World → Prop, (∀ w', C (r + 1) w' → K (putO a (DV[E[r]]?.getD none)) w') → wpOp P l.toArray Q E[r] K a w)
    (hend : ∀ (w : World), C E.length w → Q .normal ⟨puts a0.tmps (DV.filterMap _root_.id), a0.defers⟩ w) :
    (Code.region id l.toArray true).wp P Q a0 W0 := by
  have hsz : l.toArray.size = l.length := by simp
  refine wp_region_any hm (wpAny_inv (ChainInv .any l.toArray C a0 DV E) ho ?_ ?_ _ _ _ _ (by simp) ?_ ?_)
  · intro listed a w hz I i hi
    obtain ⟨hun, oi, hoi, _⟩ := mem_ready.1 hi
    have hisz : i < l.length := by rw [← hsz]; exact (Array.getElem?_eq_some_iff.1 hoi).1
    have hunf : listed.getD i false = false := by
      have h1 : i < listed.size := by rw [hz, hsz]; exact hisz
      simpa [Array.getD_eq_getD_getElem?, Array.getElem?_eq_getElem h1] using hun
    have hset : (listed.setIfInBounds i true).getD i false = true := by
      have h1 : i < listed.size := by rw [hz, hsz]; exact hisz
      simp [Array.getD_eq_getD_getElem?, h1]
    obtain ⟨k, hk, hC, hkl⟩ := I.at_
    by_cases hE : i ∈ E
    · obtain ⟨r, hr, rfl⟩ := List.getElem_of_mem hE
      have hrk : r = k := by
        have h1 : ¬ r < k := fun h => by rw [(hkl r hr).2 h] at hunf; cases hunf
        cases r with
        | zero => omega
        | succ r =>
          have := (hkl r (by omega)).1 (ready_waits hi (hch r hr))
          omega
      subst hrk
      refine he r hr a w I.fr (fun j hw => I.val j (ready_waits hi hw)) hC _ fun w' hw' => ?_
      refine I.step (by simpa using hlen) hn hbd hi ⟨r + 1, hr, hw', fun s hs => ?_⟩
      by_cases hsr : s = r
      · subst hsr; simp [hset]
      · have hne : E[r] ≠ E[s] := fun e => hsr (nodup_inj hEn hr hs e).symm
        rw [set_ne hne, hkl s hs]; omega
    · refine hq i hisz hE a w k I.fr (fun j hw => I.val j (ready_waits hi hw)) hC (fun r hr hrk => ?_) _ ?_
      · cases hw : waitsB .any l.toArray E[r] i with
        | false => rfl
        | true =>
          have := I.down _ _ ((hkl r hr).2 hrk) hw
          rw [hunf] at this; cases this
      · refine I.step (by simpa using hlen) hn hbd hi ⟨k, hk, hC, fun s hs => ?_⟩
        have hne : i ≠ E[s] := fun e => hE (e ▸ List.getElem_mem hs)
        rw [set_ne hne]; exact hkl s hs
  · intro listed a w hz hall I
    obtain ⟨k, hk, hC, hkl⟩ := I.at_
    have hkE : k = E.length := by
      rcases Nat.lt_or_ge k E.length with h | h
      · have := (hkl k h).1 (hall _ (by rw [hsz]; exact hEb _ (List.getElem_mem h)))
        omega
      · omega
    subst hkE
    rw [I.fr.eq hn (fun x hx => hbd _ (List.mem_map.2 ⟨x, hx, rfl⟩)) (fun x hx => ?_)]
    · exact hend w hC
    · obtain ⟨y, hy, hyx⟩ := List.mem_filterMap.1 hx
      obtain ⟨i, hi, hiy⟩ := List.getElem_of_mem hy
      simp only [_root_.id] at hyx
      refine I.val i (hall i (by rw [hsz]; omega)) x.1 x.2 ?_
      rw [List.getElem?_eq_getElem hi, hiy, hyx]
  · simp
  · refine ⟨⟨rfl, rfl, fun _ _ => rfl⟩, fun i hl => ?_, fun i j hl => ?_, 0, Nat.zero_le _, h0, fun r hr => ?_⟩
    · rw [gd_rep] at hl; cases hl
    · rw [gd_rep] at hl; cases hl
    · rw [gd_rep]; simp
/-- The same with one value that is not known ahead (the result of append): it is chosen at its operation, ix. -/
structure BaseInv (md : Region.Mode) (ops : Array Oper) (a0 : Act) (DV : List (Option (Nat × Value))) (listed : Array Bool) (a : Act) : Prop where
  fr : Fr a0 ((DV.filterMap id).map (·.1)) a
  val : ∀ i, listed.getD i false = true → Held DV a i
  down : ∀ i j, listed.getD i false = true → waitsB md ops i j = true → listed.getD j false = true
theorem BaseInv.ghost {md : Region.Mode} {ops : Array Oper} {a0 : Act} {DV DV' : List (Option (Nat × Value))} {listed : Array Bool} {a : Act} (I : BaseInv md ops a0 DV listed a) (ix : Nat) (hx : listed.getD ix false = false)
    (hs : ∀ i, i ≠ ix → DV'[i]? = DV[i]?) (hd : (DV'.filterMap id).map (·.1) = (DV.filterMap id).map (·.1)) : BaseInv md ops a0 DV' listed a :=
  ⟨by rw [hd]; exact I.fr, fun i hl => by
    have hne : i ≠ ix := fun e => by rw [e, hx] at hl; cases hl
    intro d v h
    rw [hs i hne] at h
    exact I.val i hl d v h, I.down⟩
theorem wp_region_chainV {id : Nat} {a0 : Act} {W0 : World} {l : List Oper} (C : Nat → Value → World → Prop) (DV : Value → List (Option (Nat × Value))) (E : List Nat) (ix : Nat) (g0 : Value)
    (hm : P.follows .mixedOrders = true) (ho : ordB .any l.toArray = true) (hlen : ∀ v, (DV v).length = l.length)
    (hs : ∀ v v' i, i ≠ ix → (DV v')[i]? = (DV v)[i]?) (hdd : ∀ v v', ((DV v').filterMap _root_.id).map (·.1) = ((DV v).filterMap _root_.id).map (·.1))
    (hn : (((DV g0).filterMap _root_.id).map (·.1)).Nodup) (hbd : ∀ k ∈ ((DV g0).filterMap _root_.id).map (·.1), k < a0.tmps.size)
    (hEn : E.Nodup) (hEb : ∀ r ∈ E, r < l.length)
    (hch : ∀ r (h : r + 1 < E.length), waitsB .any l.toArray E[r + 1] (E[r]'(by omega)) = true)
    (h0 : C 0 g0 { W0 with drawn := W0.drawn + 1 })
    (hq : ∀ i, i < l.length → i ∉ E → ∀ (gv : Value) (a : Act) (w : World) (k : Nat), Fr a0 (((DV g0).filterMap _root_.id).map (·.1)) a → (∀ j, waitsB .any l.toArray i j = true → Held (DV gv) a j) → C k gv w → (∀ r (h : r < E.length), r < k → waitsB .any l.toArray E[r] i = false) →
      ∀ K : Act → World → Prop, K (putO a ((DV gv)[i]?.getD none)) w → wpOp P l.toArray Q i K a w)
    (he : ∀ r (h : r < E.length) (gv : Value) (a : Act) (w : World), Fr a0 (((DV g0).filterMap _root_.id).map (·.1)) a → (∀ j, waitsB .any l.toArray E[r] j = true → Held (DV gv) a j) → C r gv w →
      ∀ K : Act → World → Prop, (∀ gv' w', (E[r] ≠ ix → gv' = gv) → C (r + 1) gv' w' → K (putO a ((DV gv')[E[r]]?.getD none)) w') → wpOp P l.toArray Q E[r] K a w)
    (hend : ∀ (gv : Value) (w : World), C E.length gv w → Q .normal ⟨puts a0.tmps ((DV gv).filterMap _root_.id), a0.defers⟩ w) :
    (Code.region id l.toArray true).wp P Q a0 W0 := by
  have hsz : l.toArray.size = l.length := by simp
  refine wp_region_any hm (wpAny_inv (fun listed a w => ∃ gv, BaseInv .any l.toArray a0 (DV gv) listed a ∧ ∃ k, k ≤ E.length ∧ C k gv w ∧ ∀ r (h : r < E.length), (listed.getD E[r] false = true ↔ r < k)) ho ?_ ?_ _ _ _ _ (by simp) ?_ ?_)
  · rintro listed a w hz ⟨gv, I, k, hk, hC, hkl⟩ i hi
    obtain ⟨hun, oi, hoi, _⟩ := mem_ready.1 hi
    have hisz : i < l.length := by rw [← hsz]; exact (Array.getElem?_eq_some_iff.1 hoi).1
    have hunf : listed.getD i false = false := by
      have h1 : i < listed.size := by rw [hz, hsz]; exact hisz
      simpa [Array.getD_eq_getD_getElem?, Array.getElem?_eq_getElem h1] using hun
    have hset : (listed.setIfInBounds i true).getD i false = true := by
      have h1 : i < listed.size := by rw [hz, hsz]; exact hisz
      simp [Array.getD_eq_getD_getElem?, h1]
    have hstep : ∀ gv' (w' : World) k', BaseInv .any l.toArray a0 (DV gv') listed a → (k' ≤ E.length ∧ C k' gv' w' ∧ ∀ r (h : r < E.length), ((listed.setIfInBounds i true).getD E[r] false = true ↔ r < k')) →
        ∃ gv, BaseInv .any l.toArray a0 (DV gv) (listed.setIfInBounds i true) (putO a ((DV gv')[i]?.getD none)) ∧ ∃ k, k ≤ E.length ∧ C k gv w' ∧ ∀ r (h : r < E.length), ((listed.setIfInBounds i true).getD E[r] false = true ↔ r < k) := by
      intro gv' w' k' I' h'
      have J : ChainInv .any l.toArray (fun _ _ => True) a0 (DV gv') [] (listed.setIfInBounds i true) (putO a ((DV gv')[i]?.getD none)) w' :=
        ChainInv.step (w := w') ⟨I'.fr, I'.val, I'.down, 0, Nat.zero_le _, trivial, fun r hr => absurd hr (by simp)⟩ (by rw [hlen]; simp) (by rw [hdd g0]; exact hn) (by rw [hdd g0]; exact hbd) hi ⟨0, Nat.zero_le _, trivial, fun r hr => absurd hr (by simp)⟩
      exact ⟨gv', ⟨J.fr, J.val, J.down⟩, k', h'⟩
    by_cases hE : i ∈ E
    · obtain ⟨r, hr, rfl⟩ := List.getElem_of_mem hE
      have hrk : r = k := by
        have h1 : ¬ r < k := fun h => by rw [(hkl r hr).2 h] at hunf; cases hunf
        cases r with
        | zero => omega
        | succ r =>
          have := (hkl r (by omega)).1 (ready_waits hi (hch r hr))
          omega
      subst hrk
      refine he r hr gv a w (by rw [← hdd g0 gv]; exact I.fr) (fun j hw => I.val j (ready_waits hi hw)) hC _ fun gv' w' hg hw' => ?_
      have I' : BaseInv .any l.toArray a0 (DV gv') listed a := by
        by_cases hix : E[r] = ix
        · exact I.ghost ix (hix ▸ hunf) (fun i hne => hs gv gv' i hne) (hdd _ _)
        · rw [hg hix]; exact I
      refine hstep gv' w' (r + 1) I' ⟨hr, hw', fun s hs => ?_⟩
      by_cases hsr : s = r
      · subst hsr; simp [hset]
      · have hne : E[r] ≠ E[s] := fun e => hsr (nodup_inj hEn hr hs e).symm
        rw [set_ne hne, hkl s hs]; omega
    · refine hq i hisz hE gv a w k (by rw [← hdd g0 gv]; exact I.fr) (fun j hw => I.val j (ready_waits hi hw)) hC (fun r hr hrk => ?_) _ ?_
      · cases hw : waitsB .any l.toArray E[r] i with
        | false => rfl
        | true =>
          have := I.down _ _ ((hkl r hr).2 hrk) hw
          rw [hunf] at this; cases this
      · refine hstep gv w k I ⟨hk, hC, fun s hs => ?_⟩
        have hne : i ≠ E[s] := fun e => hE (e ▸ List.getElem_mem hs)
        rw [set_ne hne]; exact hkl s hs
  · rintro listed a w hz hall ⟨gv, I, k, hk, hC, hkl⟩
    have hkE : k = E.length := by
      rcases Nat.lt_or_ge k E.length with h | h
      · have := (hkl k h).1 (hall _ (by rw [hsz]; exact hEb _ (List.getElem_mem h)))
        omega
      · omega
    subst hkE
    rw [I.fr.eq (by rw [hdd g0]; exact hn) (fun x hx => hbd _ (by rw [← hdd g0 gv]; exact List.mem_map.2 ⟨x, hx, rfl⟩)) (fun x hx => ?_)]
    · exact hend gv w hC
    · obtain ⟨y, hy, hyx⟩ := List.mem_filterMap.1 hx
      obtain ⟨i, hi, hiy⟩ := List.getElem_of_mem hy
      simp only [_root_.id] at hyx
      refine I.val i (hall i (by rw [hsz, ← hlen gv]; omega)) x.1 x.2 ?_
      rw [List.getElem?_eq_getElem hi, hiy, hyx]
  · simp
  · refine ⟨g0, ⟨⟨rfl, rfl, fun _ _ => rfl⟩, fun i hl => ?_, fun i j hl => ?_⟩, 0, Nat.zero_le _, h0, fun r hr => ?_⟩
    · rw [gd_rep] at hl; cases hl
    · rw [gd_rep] at hl; cases hl
    · rw [gd_rep]; simp
end
end Go.Proofs.Ytmdhlpnieimdaaa

/- A drawn region whose turning operations wait for one another in a chain, with values that are known only at their operation: as many as there are; a drawn region that lays one variable and stores it last. Over any program. -/
namespace Go.Proofs.Ytmdhlpnieimdaaa
open Go.RowKit

section
variable {P : Program} {Q : Exit → Act → World → Prop}
theorem wpOp_wp {ops : Array Oper} {i : Nat} {o : Oper} {a : Act} {w : World} {K : Act → World → Prop} (hi : ops[i]? = some o) (hg : o.guard = none) (h : o.wp P a w K Q) : wpOp P ops Q i K a w := by
  unfold wpOp
  simp only [hi]
  rw [if_pos (by unfold Region.wanted; rw [hg])]
  left
  exact h
theorem wpOp_as {ops : Array Oper} {i : Nat} {o : Oper} {a : Act} {w : World} {K : Act → World → Prop} (hi : ops[i]? = some o) (hg : o.guard = none) (x : Operand) (ho : o.op = .assign x) (v : Value) (hx : a.eval x = v) (h : K (a.put o.dst v) w) : wpOp P ops Q i K a w := by
  refine wpOp_val hi hg ?_ h
  unfold execOp
  simp only [ho, hx, Sem.run_pure]
theorem wp_region_chainG {γ : Type} {id : Nat} {a0 : Act} {W0 : World} {l : List Oper} (C : Nat → γ → World → Prop) (DV : γ → List (Option (Nat × Value))) (E : List Nat) (g0 : γ)
    (hm : P.follows .mixedOrders = true) (ho : ordB .any l.toArray = true) (hlen : ∀ v, (DV v).length = l.length)
    (hdd : ∀ v v', ((DV v').filterMap _root_.id).map (·.1) = ((DV v).filterMap _root_.id).map (·.1))
    (hn : (((DV g0).filterMap _root_.id).map (·.1)).Nodup) (hbd : ∀ k ∈ ((DV g0).filterMap _root_.id).map (·.1), k < a0.tmps.size)
    (hEn : E.Nodup) (hEb : ∀ r ∈ E, r < l.length)
    (hch : ∀ r (h : r + 1 < E.length), waitsB .any l.toArray E[r + 1] (E[r]'(by omega)) = true)
    (h0 : C 0 g0 { W0 with drawn := W0.drawn + 1 })
    (hq : ∀ i, i < l.length → i ∉ E → ∀ (gv : γ) (a : Act) (w : World) (k : Nat), Fr a0 (((DV g0).filterMap _root_.id).map (·.1)) a → (∀ j, waitsB .any l.toArray i j = true → Held (DV gv) a j) → C k gv w → (∀ r (h : r < E.length), r < k → waitsB .any l.toArray E[r] i = false) →
      ∀ K : Act → World → Prop, K (putO a ((DV gv)[i]?.getD none)) w → wpOp P l.toArray Q i K a w)
    (he : ∀ r (h : r < E.length) (gv : γ) (a : Act) (w : World), Fr a0 (((DV g0).filterMap _root_.id).map (·.1)) a → (∀ j, waitsB .any l.toArray E[r] j = true → Held (DV gv) a j) → C r gv w →
      ∀ K : Act → World → Prop, (∀ gv' w', (∀ i, i ≠ E[r] → waitsB .any l.toArray i E[r] = false → (DV gv')[i]? = (DV gv)[i]?) → C (r + 1) gv' w' → K (putO a ((DV gv')[E[r]]?.getD none)) w') → wpOp P l.toArray Q E[r] K a w)
    (hend : ∀ (gv : γ) (w : World), C E.length gv w → Q .normal ⟨puts a0.tmps ((DV gv).filterMap _root_.id), a0.defers⟩ w) :
    (Code.region id l.toArray true).wp P Q a0 W0 := by
  have hsz : l.toArray.size = l.length := by simp
  refine wp_region_any hm (wpAny_inv (fun listed a w => ∃ gv, BaseInv .any l.toArray a0 (DV gv) listed a ∧ ∃ k, k ≤ E.length ∧ C k gv w ∧ ∀ r (h : r < E.length), (listed.getD E[r] false = true ↔ r < k)) ho ?_ ?_ _ _ _ _ (by simp) ?_ ?_)
  · rintro listed a w hz ⟨gv, I, k, hk, hC, hkl⟩ i hi
    obtain ⟨hun, oi, hoi, _⟩ := mem_ready.1 hi
    have hisz : i < l.length := by rw [← hsz]; exact (Array.getElem?_eq_some_iff.1 hoi).1
    have hunf : listed.getD i false = false := by
      have h1 : i < listed.size := by rw [hz, hsz]; exact hisz
      simpa [Array.getD_eq_getD_getElem?, Array.getElem?_eq_getElem h1] using hun
    have hset : (listed.setIfInBounds i true).getD i false = true := by
      have h1 : i < listed.size := by rw [hz, hsz]; exact hisz
      simp [Array.getD_eq_getD_getElem?, h1]
    have hstep : ∀ gv' (w' : World) k', BaseInv .any l.toArray a0 (DV gv') listed a → (k' ≤ E.length ∧ C k' gv' w' ∧ ∀ r (h : r < E.length), ((listed.setIfInBounds i true).getD E[r] false = true ↔ r < k')) →
        ∃ gv, BaseInv .any l.toArray a0 (DV gv) (listed.setIfInBounds i true) (putO a ((DV gv')[i]?.getD none)) ∧ ∃ k, k ≤ E.length ∧ C k gv w' ∧ ∀ r (h : r < E.length), ((listed.setIfInBounds i true).getD E[r] false = true ↔ r < k) := by
      intro gv' w' k' I' h'
      have J : ChainInv .any l.toArray (fun _ _ => True) a0 (DV gv') [] (listed.setIfInBounds i true) (putO a ((DV gv')[i]?.getD none)) w' :=
        ChainInv.step (w := w') ⟨I'.fr, I'.val, I'.down, 0, Nat.zero_le _, trivial, fun r hr => absurd hr (by simp)⟩ (by rw [hlen]; simp) (by rw [hdd g0]; exact hn) (by rw [hdd g0]; exact hbd) hi ⟨0, Nat.zero_le _, trivial, fun r hr => absurd hr (by simp)⟩
      exact ⟨gv', ⟨J.fr, J.val, J.down⟩, k', h'⟩
    by_cases hE : i ∈ E
    · obtain ⟨r, hr, rfl⟩ := List.getElem_of_mem hE
      have hrk : r = k := by
        have h1 : ¬ r < k := fun h => by rw [(hkl r hr).2 h] at hunf; cases hunf
        cases r with
        | zero => omega
        | succ r =>
          have := (hkl r (by omega)).1 (ready_waits hi (hch r hr))
          omega
      subst hrk
      refine he r hr gv a w (by rw [← hdd g0 gv]; exact I.fr) (fun j hw => I.val j (ready_waits hi hw)) hC _ fun gv' w' hg hw' => ?_
      have I' : BaseInv .any l.toArray a0 (DV gv') listed a := ⟨by rw [hdd gv gv']; exact I.fr, fun i hl => by
        have hne : i ≠ E[r] := fun e => by rw [e, hunf] at hl; cases hl
        have hwf : waitsB .any l.toArray i E[r] = false := by
          cases hw : waitsB .any l.toArray i E[r] with
          | false => rfl
          | true =>
            have := I.down _ _ hl hw
            rw [hunf] at this; cases this
        intro d v h
        rw [hg i hne hwf] at h
        exact I.val i hl d v h, I.down⟩
      refine hstep gv' w' (r + 1) I' ⟨hr, hw', fun s hs => ?_⟩
      by_cases hsr : s = r
      · subst hsr; simp [hset]
      · have hne : E[r] ≠ E[s] := fun e => hsr (nodup_inj hEn hr hs e).symm
        rw [set_ne hne, hkl s hs]; omega
    · refine hq i hisz hE gv a w k (by rw [← hdd g0 gv]; exact I.fr) (fun j hw => I.val j (ready_waits hi hw)) hC (fun r hr hrk => ?_) _ ?_
      · cases hw : waitsB .any l.toArray E[r] i with
        | false => rfl
        | true =>
          have := I.down _ _ ((hkl r hr).2 hrk) hw
          rw [hunf] at this; cases this
      · refine hstep gv w k I ⟨hk, hC, fun s hs => ?_⟩
        have hne : i ≠ E[s] := fun e => hE (e ▸ List.getElem_mem hs)
        rw [set_ne hne]; exact hkl s hs
  · rintro listed a w hz hall ⟨gv, I, k, hk, hC, hkl⟩
    have hkE : k = E.length := by
      rcases Nat.lt_or_ge k E.length with h | h
      · have := (hkl k h).1 (hall _ (by rw [hsz]; exact hEb _ (List.getElem_mem h)))
        omega
      · omega
    subst hkE
    rw [I.fr.eq (by rw [hdd g0]; exact hn) (fun x hx => hbd _ (by rw [← hdd g0 gv]; exact List.mem_map.2 ⟨x, hx, rfl⟩)) (fun x hx => ?_)]
    · exact hend gv w hC
    · obtain ⟨y, hy, hyx⟩ := List.mem_filterMap.1 hx
      obtain ⟨i, hi, hiy⟩ := List.getElem_of_mem hy
      simp only [_root_.id] at hyx
      refine I.val i (hall i (by rw [hsz, ← hlen gv]; omega)) x.1 x.2 ?_
      rw [List.getElem?_eq_getElem hi, hiy, hyx]
  · simp
  · refine ⟨g0, ⟨⟨rfl, rfl, fun _ _ => rfl⟩, fun i hl => ?_, fun i j hl => ?_⟩, 0, Nat.zero_le _, h0, fun r hr => ?_⟩
    · rw [gd_rep] at hl; cases hl
    · rw [gd_rep] at hl; cases hl
    · rw [gd_rep]; simp
/-- What holds between the operations of a region that lays one variable and stores it last. -/
structure OneInv (W0 : World) (a0 : Act) (DV : List (Nat × Value)) (p : Nat) (z1 c1 : Array Value) (T1 : TypeId) (listed : Array Bool) (a : Act) (w : World) : Prop where
  fr : Fr a0 (DV.map (·.1) ++ [p]) a
  bel : Below W0.heap.size W0 w
  val : ∀ i (h : i < DV.length), listed.getD i false = true → a.tmps.getD (DV[i]).1 undef = (DV[i]).2
  one : listed.getD DV.length false = true → LaidV W0 a w p (if listed.getD (DV.length + 1) false then c1 else z1) T1
  o3 : listed.getD (DV.length + 1) false = true → listed.getD DV.length false = true
theorem wp_region_onevar {id : Nat} {a0 : Act} {W0 : World} {l : List Oper} (DV : List (Nat × Value)) (p : Nat) (z1 c1 : Array Value) (T1 : TypeId)
    (hm : P.follows .mixedOrders = true) (ho : ordB .any l.toArray = true) (hlen : l.length = DV.length + 2)
    (hn : (DV.map (·.1) ++ [p]).Nodup) (hbd : ∀ k ∈ DV.map (·.1) ++ [p], k < a0.tmps.size)
    (o1 o3 : Oper) (g1 : l[DV.length]? = some o1) (g3 : l[DV.length + 1]? = some o3)
    (e1 : o1.dst = some p ∧ o1.guard = none ∧ ∀ (a : Act) (w : World), (execOp a.eval o1).run P w = .ok (.value (.pointer (some ⟨w.heap.size, 0, none⟩))) (w.alloc (.cells z1 T1)))
    (e3 : o3.dst = none ∧ o3.guard = none ∧ ∀ (a : Act) (w : World) (g : Nat), (∀ j, (h : j < DV.length) → waitsB .any l.toArray (DV.length + 1) j = true → a.tmps.getD (DV[j]).1 undef = (DV[j]).2) → a.tmps.getD p undef = .pointer (some ⟨g, 0, none⟩) → w.heap[g]? = some (.cells z1 T1 (0, 0)) → (execOp a.eval o3).run P w = .ok .skip (w.setRow g c1))
    (w31 : waitsB .any l.toArray (DV.length + 1) DV.length = true)
    (hq : ∀ i (h : i < DV.length) (a : Act) (w : World), Fr a0 (DV.map (·.1) ++ [p]) a → (∀ j, (hj : j < DV.length) → waitsB .any l.toArray i j = true → a.tmps.getD (DV[j]).1 undef = (DV[j]).2) → Below W0.heap.size W0 w →
      ∀ K : Act → World → Prop, (∀ w', Below w.heap.size w w' → K (a.put (some (DV[i]).1) (DV[i]).2) w') → wpOp P l.toArray Q i K a w)
    (hend : ∀ (w : World) (g : Nat), W0.heap.size ≤ g → Below W0.heap.size W0 w → w.heap[g]? = some (.cells c1 T1 (0, 0)) →
      Q .normal ⟨puts a0.tmps (DV ++ [(p, .pointer (some ⟨g, 0, none⟩))]), a0.defers⟩ w) :
    (Code.region id l.toArray true).wp P Q a0 W0 := by
  have hsz : l.toArray.size = DV.length + 2 := by simpa using hlen
  have hDp : ∀ i (h : i < DV.length), (DV[i]).1 ≠ p := fun i h => by
    have h3 := (List.nodup_append.1 hn).2.2
    have hmem : (DV[i]).1 ∈ DV.map (·.1) := List.mem_map.2 ⟨DV[i], List.getElem_mem h, rfl⟩
    exact h3 _ hmem p (by simp)
  have hDi : ∀ i j (h : i < DV.length) (h' : j < DV.length), i ≠ j → (DV[i]).1 ≠ (DV[j]).1 := fun i j h h' hne => by
    have h1 := List.pairwise_iff_getElem.1 (List.nodup_append.1 hn).1
    rcases Nat.lt_or_gt_of_ne hne with hlt | hlt
    · have := h1 i j (by simpa using h) (by simpa using h') hlt
      simpa using this
    · have := h1 j i (by simpa using h') (by simpa using h) hlt
      simpa using this.symm
  refine wp_region_any hm (wpAny_inv (OneInv W0 a0 DV p z1 c1 T1) ho ?_ ?_ _ _ _ _ (by simp) ?_ ?_)
  · intro listed a w hz I i hi
    obtain ⟨hun, oi, hoi, _⟩ := mem_ready.1 hi
    have hisz : i < DV.length + 2 := by rw [← hsz]; exact (Array.getElem?_eq_some_iff.1 hoi).1
    have hunf : listed.getD i false = false := by
      have h1 : i < listed.size := by rw [hz, hsz]; exact hisz
      simpa [Array.getD_eq_getD_getElem?, Array.getElem?_eq_getElem h1] using hun
    have hlt : ∀ k, listed.getD k false = true → k ≠ i := fun k hk e => by rw [e, hunf] at hk; cases hk
    have hset : (listed.setIfInBounds i true).getD i false = true := by
      have h1 : i < listed.size := by rw [hz, hsz]; exact hisz
      simp [Array.getD_eq_getD_getElem?, h1]
    rcases (by omega : i < DV.length ∨ i = DV.length ∨ i = DV.length + 1) with h | rfl | rfl
    · refine hq i h a w I.fr (fun j hj hw => I.val j hj (ready_waits hi hw)) I.bel _ (fun w' hb => ?_)
      have s2 : (listed.setIfInBounds i true).getD (DV.length + 1) false = listed.getD (DV.length + 1) false := set_ne (by omega)
      have s0 : (listed.setIfInBounds i true).getD DV.length false = listed.getD DV.length false := set_ne (by omega)
      refine ⟨I.fr.put _ _ (by simp only [List.mem_append]; exact Or.inl (List.mem_map.2 ⟨DV[i], List.getElem_mem h, rfl⟩)), I.bel.trans (hb.mono I.bel.size), fun j hj hl => ?_, fun hl => ?_, fun hl => ?_⟩
      · by_cases e : j = i
        · subst e
          exact put_same _ _ _ (by rw [I.fr.size]; exact hbd _ (by simp only [List.mem_append]; exact Or.inl (List.mem_map.2 ⟨DV[j], List.getElem_mem h, rfl⟩)))
        · rw [put_other _ _ _ _ (hDi i j h hj (Ne.symm e))]
          exact I.val j hj ((listed_set hl).resolve_left e)
      · rw [s2]; rw [s0] at hl
        exact (I.one hl).below (put_other _ _ _ _ (hDp i h)) hb
      · rw [s2] at hl; rw [s0]; exact I.o3 hl
    · refine wpOp_val (o := o1) (by simpa using g1) e1.2.1 (e1.2.2 a w) ?_
      rw [e1.1]
      have hb := below_alloc1 w (.cells z1 T1)
      have hf2 : listed.getD (DV.length + 1) false = false := by
        cases h : listed.getD (DV.length + 1) false with
        | false => rfl
        | true => exact absurd rfl (hlt _ (I.o3 h))
      have s2 : (listed.setIfInBounds DV.length true).getD (DV.length + 1) false = false := (set_ne (by omega)).trans hf2
      have hps : p < a.tmps.size := by rw [I.fr.size]; exact hbd _ (by simp)
      refine ⟨I.fr.put _ _ (by simp), I.bel.trans (hb.mono I.bel.size), fun j hj hl => ?_, fun hl => ?_, fun hl => ?_⟩
      · rw [put_other _ _ _ _ (Ne.symm (hDp j hj))]
        exact I.val j hj ((listed_set hl).resolve_left (by omega))
      · rw [s2]; exact ⟨w.heap.size, put_same _ _ _ hps, I.bel.size, heap_alloc_new _ _⟩
      · rw [s2] at hl; cases hl
    · have hl0 := ready_waits hi w31
      obtain ⟨g, hg1, hg2, hg3⟩ := I.one hl0
      rw [hunf] at hg3
      refine wpOp_skip (o := o3) (by simpa using g3) e3.2.1 (e3.2.2 a w g (fun j hj hw => I.val j hj (ready_waits hi hw)) hg1 hg3) ?_
      rw [e3.1]
      refine ⟨I.fr, setRow_below I.bel hg2 c1, fun j hj hl => I.val j hj ((listed_set hl).resolve_left (by omega)), fun _ => ?_, fun _ => listed_of hl0⟩
      rw [hset]; exact ⟨g, hg1, hg2, setRow_at hg3⟩
  · intro listed a w hz hall I
    have hA : ∀ i, i < DV.length + 2 → listed.getD i false = true := fun i hi => hall i (by rw [hsz]; exact hi)
    obtain ⟨g, hg1, hg2, hg3⟩ := I.one (hA _ (by omega))
    rw [hA _ (by omega)] at hg3
    have hmap : (DV ++ [(p, Value.pointer (some ⟨g, 0, none⟩))]).map (·.1) = DV.map (·.1) ++ [p] := by simp
    have e := Fr.eq (l := DV ++ [(p, Value.pointer (some ⟨g, 0, none⟩))]) (a0 := a0) (a := a) (by rw [hmap]; exact I.fr) (by rw [hmap]; exact hn)
      (fun x hx => hbd _ (by rw [← hmap]; exact List.mem_map.2 ⟨x, hx, rfl⟩)) (fun x hx => by
        rcases List.mem_append.1 hx with hx | hx
        · obtain ⟨i, hi, rfl⟩ := List.mem_iff_getElem.1 hx
          exact I.val i hi (hA i (by omega))
        · simp only [List.mem_cons, List.not_mem_nil, or_false] at hx
          subst hx
          exact hg1)
    rw [e]
    exact hend w g hg2 I.bel hg3
  · simp
  · have hf : ∀ i, (Array.replicate l.toArray.size false).getD i false = false := fun i => by
      rw [Array.getD_eq_getD_getElem?, Array.getElem?_replicate]
      split <;> rfl
    refine ⟨⟨rfl, rfl, fun _ _ => rfl⟩, ⟨rfl, rfl, rfl, Nat.le_refl _, fun _ _ => rfl⟩, fun i _ h => ?_, fun h => ?_, fun h => ?_⟩ <;> (rw [hf] at h; cases h)
end
end Go.Proofs.Ytmdhlpnieimdaaa
