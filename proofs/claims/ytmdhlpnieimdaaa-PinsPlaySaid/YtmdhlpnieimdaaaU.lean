/- Worlds: one block turned; blocks of a list turned. -/
import Derived.Test.YtmdhlpnieimdaaaH4
import Derived.Test.YtmdhlpnieimdaaaI1
namespace Go.Proofs.Ytmdhlpnieimdaaa
open Go.RowKit

theorem putB_putB (w : World) (r : Nat) (o o' : Obj) : putB (putB w r o) r o' = putB w r o' := by
  simp only [putB]
  congr 1
  apply Array.ext_getElem?
  intro i
  simp only [Array.getElem?_setIfInBounds]
  split <;> simp_all
theorem setCell_putB {w : World} {b i : Nat} {cs : Array Value} {T : TypeId} {fr : Nat × Nat} (v : Value) (h : w.heap[b]? = some (.cells cs T fr)) : w.setCell ⟨b, i, none⟩ v = putB w b (.cells (cs.setIfInBounds i v) T fr) := by
  simp only [World.setCell, putB]
  congr 1
  apply Array.ext_getElem?
  intro j
  rw [Array.getElem?_modify, Array.getElem?_setIfInBounds]
  by_cases e : b = j
  · subst e; have := lt_heap h; rw [if_pos rfl, if_pos rfl, if_pos this, h]; rfl
  · simp [e]
/-- A table in block tp: its word, its times, its counts (f), the keys of its map (K). -/
def Tab (w : World) (tp used : Nat) (at' : List Nat) (f : Nat → Nat) (K : List Nat) (o : Option Nat) : Prop :=
  TabAt w tp used at' o ∧ match o with
    | none => f = (fun _ => 0) ∧ K = []
    | some r => r ≠ tp ∧ CntN w r f K
theorem Tab.lt {w : World} {tp used : Nat} {at' : List Nat} {f : Nat → Nat} {K : List Nat} {o : Option Nat} (h : Tab w tp used at' f K o) : tp < w.heap.size := lt_heap h.1.hg
theorem CntN.lt {w : World} {r : Nat} {f : Nat → Nat} {K : List Nat} (h : CntN w r f K) : r < w.heap.size := by
  obtain ⟨l, c, h1, _⟩ := h; exact lt_heap h1
theorem TabAt.block {w w' : World} {tp used : Nat} {at' : List Nat} {o : Option Nat} (h : TabAt w tp used at' o) (he : w'.heap[tp]? = w.heap[tp]?) : TabAt w' tp used at' o := ⟨he.trans h.hg, h.hu, h.hl⟩
theorem Tab.below {w w' : World} {tp used : Nat} {at' : List Nat} {f : Nat → Nat} {K : List Nat} {o : Option Nat} (h : Tab w tp used at' f K o) (hb : Below w.heap.size w w') : Tab w' tp used at' f K o := by
  refine ⟨h.1.block (hb.block _ h.lt), ?_⟩
  have h2 := h.2
  cases o with
  | none => exact h2
  | some r => exact ⟨h2.1, h2.2.block (hb.block _ h2.2.lt)⟩
end Go.Proofs.Ytmdhlpnieimdaaa
