/- The document's table: its cells by value; Pin, Unpin. -/
import Derived.Test.YtmdhlpnieimdaaaS1
import Derived.Test.YtmdhlpnieimdaaaGX
namespace Go.Proofs.Ytmdhlpnieimdaaa
open Go.RowKit

def dL (u : Nat) (ts : List Nat) : List Value := ((List.range 64).map fun i => Value.bool (u.testBit i)) ++ ts.map fun t : Nat => Value.int .u64 (t : Int)
def dC (u : Nat) (ts : List Nat) : Array Value := (dL u ts).toArray
theorem dC_size (u : Nat) {ts : List Nat} (h : ts.length = 64) : (dC u ts).size = 128 := by simp [dC, dL, h]
theorem dC_is (u : Nat) (ts : List Nat) {i : Nat} (hi : i < 64) : (dC u ts)[i]? = some (.bool (u.testBit i)) := by
  simp only [dC, dL, List.getElem?_toArray]
  rw [List.getElem?_append_left (by simpa using hi)]
  simp [hi]
theorem dC_at (u : Nat) {ts : List Nat} (h : ts.length = 64) {i : Nat} (hi : i < 64) : (dC u ts)[64 + i]? = some (.int .u64 ((ts.getD i 0 : Nat) : Int)) := by
  simp only [dC, dL, List.getElem?_toArray]
  rw [List.getElem?_append_right (by simp)]
  simp [List.getElem?_eq_getElem (show i < ts.length by omega)]
theorem dC_one (u : Nat) (ts : List Nat) : (dC u ts).all (·.oneCell') = true := by simp [dC, dL, Value.oneCell']
theorem dC_pin {u k : Nat} (ts : List Nat) (hk : k < 64) : (dC u ts).setIfInBounds k (.bool true) = dC (u ||| 2 ^ k) ts := by
  simp only [dC, dL, List.setIfInBounds_toArray]
  congr 1
  rw [List.set_append_left _ _ (by simpa using hk)]
  congr 1
  apply List.ext_getElem?
  intro i
  rw [List.getElem?_set]
  by_cases e : k = i
  · subst e; simp [hk]
  · rw [if_neg e]
    by_cases hi : i < 64
    · have e2 : (u ||| 2 ^ k).testBit i = u.testBit i := by rw [or_test]; simp [Ne.symm e]
      simp only [List.getElem?_map, List.getElem?_range hi, Option.map_some, e2]
    · simp [hi]
theorem dC_un {u k : Nat} (hu : u < 18446744073709551616) (ts : List Nat) (hk : k < 64) : (dC u ts).setIfInBounds k (.bool false) = dC (clearB u k) ts := by
  simp only [dC, dL, List.setIfInBounds_toArray]
  congr 1
  rw [List.set_append_left _ _ (by simpa using hk)]
  congr 1
  apply List.ext_getElem?
  intro i
  rw [List.getElem?_set]
  by_cases e : k = i
  · subst e; simp [hk, clearB_test hu hk]
  · rw [if_neg e]
    by_cases hi : i < 64
    · simp [hi, clearB_test hu hk, Ne.symm e]
    · simp [hi]
theorem dC_set (u : Nat) (ts : List Nat) {k : Nat} (t : Nat) : (dC u ts).setIfInBounds (64 + k) (.int .u64 (t : Int)) = dC u (ts.set k t) := by
  simp only [dC, dL, List.setIfInBounds_toArray]
  congr 1
  rw [List.set_append_right _ _ (by simp)]
  simp [List.map_set]
def zL : List Nat := List.replicate 64 0
theorem zero43 (w : World) : (zeroValue 43).run Try.prog w = .ok (.agg (dC 0 zL)) w := by kernel_rfl
theorem zL_len : zL.length = 64 := rfl
theorem siz43 : (Try.prog.info? 43).map (·.size) = some 128 := by kernel_rfl
end Go.Proofs.Ytmdhlpnieimdaaa
