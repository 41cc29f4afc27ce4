/- A table of pins in memory. -/
import Derived.Test.YtmdhlpnieimdaaaTX
namespace Go.Proofs.Ytmdhlpnieimdaaa
open Go.RowKit

/-- The table's cells: the word, the 64 times, the map. -/
def tabC (used : Nat) (at' : List Nat) (o : Option Nat) : Array Value := (Value.int .u64 used :: ((at'.map fun a : Nat => Value.int .u64 a) ++ [Value.map o])).toArray
theorem tabC_size {used : Nat} {at' : List Nat} {o : Option Nat} (h : at'.length = 64) : (tabC used at' o).size = 66 := by simp [tabC, h]
theorem tabC_used (used : Nat) (at' : List Nat) (o : Option Nat) : (tabC used at' o)[0]? = some (.int .u64 used) := by simp [tabC]
theorem tabC_at {used : Nat} {at' : List Nat} {o : Option Nat} (i : Nat) (hi : i < at'.length) : (tabC used at' o)[1 + i]? = some (.int .u64 (at'[i] : Nat)) := by
  simp only [tabC, List.getElem?_toArray, Nat.add_comm 1 i, List.cons_append, List.getElem?_cons_succ]
  rw [List.getElem?_append_left (by simpa using hi)]
  simp [hi]
theorem tabC_map {used : Nat} {at' : List Nat} {o : Option Nat} (h : at'.length = 64) : (tabC used at' o)[65]? = some (.map o) := by
  simp only [tabC, List.getElem?_toArray, List.cons_append]
  rw [show 65 = 64 + 1 from rfl, List.getElem?_cons_succ, List.getElem?_append_right (by simp [h])]
  simp [h]
theorem tabC_setUsed (used u : Nat) (at' : List Nat) (o : Option Nat) : (tabC used at' o).setIfInBounds 0 (.int .u64 u) = tabC u at' o := by simp [tabC]
theorem tabC_setAt {used : Nat} {at' : List Nat} {o : Option Nat} (i t : Nat) (hi : i < at'.length) : (tabC used at' o).setIfInBounds (1 + i) (.int .u64 t) = tabC used (at'.set i t) o := by
  simp only [tabC, List.setIfInBounds_toArray, Nat.add_comm 1 i, List.cons_append, List.set_cons_succ]
  rw [List.set_append_left _ _ (by simpa using hi), List.map_set]
theorem tabC_setMap {used : Nat} {at' : List Nat} {o o' : Option Nat} (h : at'.length = 64) : (tabC used at' o).setIfInBounds 65 (.map o') = tabC used at' o' := by
  simp only [tabC, List.setIfInBounds_toArray, List.cons_append]
  rw [show 65 = 64 + 1 from rfl, List.set_cons_succ, List.set_append_right _ _ (by simp [h])]
  simp [h]
end Go.Proofs.Ytmdhlpnieimdaaa
