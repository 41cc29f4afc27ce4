/- Worlds: one block turned; blocks of a list turned. -/
import Derived.Test.YtmdhlpnieimdaaaH4
import Derived.Test.YtmdhlpnieimdaaaI1
namespace Go.Proofs.Ytmdhlpnieimdaaa
open Go.RowKit

theorem lt_heap {w : World} {g : Nat} {x : Obj} (h : w.heap[g]? = some x) : g < w.heap.size := by
  rcases Nat.lt_or_ge g w.heap.size with h' | h'
  · exact h'
  · simp [Array.getElem?_eq_none h'] at h
theorem putB_other (w : World) (r k : Nat) (o : Obj) (h : k ≠ r) : (putB w r o).heap[k]? = w.heap[k]? := by
  simp only [putB, Array.getElem?_setIfInBounds]
  rw [if_neg (Ne.symm h)]
theorem putB_size (w : World) (r : Nat) (o : Obj) : (putB w r o).heap.size = w.heap.size := by simp [putB]
theorem putB_putB (w : World) (r : Nat) (o o' : Obj) : putB (putB w r o) r o' = putB w r o' := by
  simp only [putB]
  congr 1
  apply Array.ext_getElem?
  intro i
  simp only [Array.getElem?_setIfInBounds]
  split <;> simp_all
theorem setCell_putB {w : World} {b i : Nat} {cs : Array Value} {T : TypeId} {fr : Nat × Nat} (v : Value) (h : w.heap[b]? = some (.cells cs T fr)) : w.setCell ⟨b, i, none⟩ v = putB w b (.cells (cs.setIfInBounds i v) T fr) := by
  simp only [World.setCell, putB]
  congr 1
  apply Array.ext_getElem?
  intro j
  rw [Array.getElem?_modify, Array.getElem?_setIfInBounds]
  by_cases e : b = j
  · subst e; have := lt_heap h; rw [if_pos rfl, if_pos rfl, if_pos this, h]; rfl
  · simp [e]
theorem heap_setCell_self {w : World} {b i : Nat} {cs : Array Value} {T : TypeId} {fr : Nat × Nat} (v : Value) (h : w.heap[b]? = some (.cells cs T fr)) : (w.setCell ⟨b, i, none⟩ v).heap[b]? = some (.cells (cs.setIfInBounds i v) T fr) := by
  rw [setCell_putB v h]; exact putB_same _ _ _ _ h
theorem heap_setCell_other {w : World} {b i k : Nat} (v : Value) (h : k ≠ b) : (w.setCell ⟨b, i, none⟩ v).heap[k]? = w.heap[k]? := by
  simp only [World.setCell]
  rw [Array.getElem?_modify, if_neg (Ne.symm h)]

theorem below_alloc1 (w : World) (A : Obj) : Below w.heap.size w (w.alloc A) := (Below.refl _ _).alloc (Nat.le_refl _) _

/-- The blocks of S alone may have turned; blocks may have been laid. -/
structure Turn (S : List Nat) (w w' : World) : Prop where
  os : w'.os = w.os
  tape : w'.tape = w.tape
  output : w'.output = w.output
  size : w.heap.size ≤ w'.heap.size
  block : ∀ k, k < w.heap.size → k ∉ S → w'.heap[k]? = w.heap[k]?
theorem Turn.refl (S : List Nat) (w : World) : Turn S w w := ⟨rfl, rfl, rfl, Nat.le_refl _, fun _ _ _ => rfl⟩
theorem Turn.trans {S : List Nat} {a b c : World} (h : Turn S a b) (k : Turn S b c) : Turn S a c :=
  ⟨k.os.trans h.os, k.tape.trans h.tape, k.output.trans h.output, Nat.le_trans h.size k.size, fun i hi hr => (k.block i (by have := h.size; omega) hr).trans (h.block i hi hr)⟩
theorem Turn.mono {S T : List Nat} {w w' : World} (h : Turn S w w') (hs : ∀ k, k < w.heap.size → k ∈ S → k ∈ T) : Turn T w w' :=
  ⟨h.os, h.tape, h.output, h.size, fun k hk ht => h.block k hk fun hm => ht (hs k hk hm)⟩
theorem Turn.of_below {S : List Nat} {w w' : World} (h : Below w.heap.size w w') : Turn S w w' := ⟨h.os, h.tape, h.output, h.size, fun k hk _ => h.block k hk⟩
theorem Turn.put (r : Nat) (w : World) (o : Obj) : Turn [r] w (putB w r o) := ⟨rfl, rfl, rfl, by rw [putB_size]; exact Nat.le_refl _, fun k _ hr => putB_other w r k o (by simpa using hr)⟩
theorem Turn.below {S : List Nat} {B : Nat} {w w' : World} (h : Turn S w w') (hS : ∀ k ∈ S, B ≤ k) (hB : B ≤ w.heap.size) : Below B w w' :=
  ⟨h.os, h.tape, h.output, h.size, fun k hk => h.block k (by omega) (fun hm => by have := hS k hm; omega)⟩
theorem Turn.drew (S : List Nat) (w : World) : Turn S w { w with drawn := w.drawn + 1 } := ⟨rfl, rfl, rfl, Nat.le_refl _, fun _ _ _ => rfl⟩
theorem Turn.setCell (b i : Nat) (v : Value) (w : World) : Turn [b] w (w.setCell ⟨b, i, none⟩ v) :=
  ⟨rfl, rfl, rfl, by simp [World.setCell], fun k _ hr => heap_setCell_other v (by simpa using hr)⟩
theorem Turn.alloc (S : List Nat) (w : World) (o : Obj) : Turn S w (w.alloc o) := Turn.of_below (below_alloc1 w o)

/-- A table in block tp: its word, its times, its counts (f), the keys of its map (K). -/
def Tab (w : World) (tp used : Nat) (at' : List Nat) (f : Nat → Nat) (K : List Nat) (o : Option Nat) : Prop :=
  TabAt w tp used at' o ∧ match o with
    | none => f = (fun _ => 0) ∧ K = []
    | some r => r ≠ tp ∧ CntN w r f K
theorem Tab.lt {w : World} {tp used : Nat} {at' : List Nat} {f : Nat → Nat} {K : List Nat} {o : Option Nat} (h : Tab w tp used at' f K o) : tp < w.heap.size := lt_heap h.1.hg
theorem CntN.lt {w : World} {r : Nat} {f : Nat → Nat} {K : List Nat} (h : CntN w r f K) : r < w.heap.size := by
  obtain ⟨l, c, h1, _⟩ := h; exact lt_heap h1
theorem TabAt.block {w w' : World} {tp used : Nat} {at' : List Nat} {o : Option Nat} (h : TabAt w tp used at' o) (he : w'.heap[tp]? = w.heap[tp]?) : TabAt w' tp used at' o := ⟨he.trans h.hg, h.hu, h.hl⟩
theorem Tab.below {w w' : World} {tp used : Nat} {at' : List Nat} {f : Nat → Nat} {K : List Nat} {o : Option Nat} (h : Tab w tp used at' f K o) (hb : Below w.heap.size w w') : Tab w' tp used at' f K o := by
  refine ⟨h.1.block (hb.block _ h.lt), ?_⟩
  have h2 := h.2
  cases o with
  | none => exact h2
  | some r => exact ⟨h2.1, h2.2.block (hb.block _ h2.2.lt)⟩
end Go.Proofs.Ytmdhlpnieimdaaa
