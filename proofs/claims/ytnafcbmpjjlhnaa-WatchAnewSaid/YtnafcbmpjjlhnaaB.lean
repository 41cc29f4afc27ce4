/- Rows of bytes. -/
import Derived.Test.YtnafcbmpjjlhnaaG1
import Derived.WalkSpells
import Derived.WalkLawsBesides
import Derived.Lib.Hide
import Derived.BigQuiet
import Derived.Outline
import Derived.Stop.BytesEq
import Derived.Lib.BytesEntry
import Derived.Lib.SlBytesRow
import Derived.Lib.QuietBelow
import Derived.Lib.MinMax
namespace Go.Proofs.Ytnafcbmpjjlhnaa
open Go.RowKit


/-- The cells of a row of bytes. -/
def bC (l : List UInt8) : Array Value := (l.map fun b => Value.int .u8 (b.toNat : Int)).toArray
theorem bC_size (l : List UInt8) : (bC l).size = l.length := by simp [bC]
theorem bC_get (l : List UInt8) (j : Nat) (h : j < l.length) : (bC l)[j]? = some (.int .u8 (l[j].toNat : Int)) := by
  simp [bC, h]
theorem bC_set (l : List UInt8) (k : Nat) (b : UInt8) : (bC l).setIfInBounds k (.int .u8 (b.toNat : Int)) = bC (l.set k b) := by
  simp [bC, List.map_set]
theorem bC_one (l : List UInt8) : (bC l).all (·.oneCell') = true := by
  simp [bC, Value.oneCell']
theorem byte_lt (b : UInt8) : (b.toNat : Int) ≤ 255 := by have := b.toNat_lt; omega
theorem at_list (s : ByteArray) (k : Nat) (h : k < s.size) : s.data.toList[k]'(by simpa using h) = s[k] := by simp; rfl

theorem below_setRow {B : Nat} {a w : World} (h : Below B a w) {g : Nat} (hg : B ≤ g) (cs : Array Value) : Below B a (w.setRow g cs) :=
  h.trans ⟨rfl, rfl, rfl, by simp, fun k hk => setRow_other w g k cs (by omega)⟩

end Go.Proofs.Ytnafcbmpjjlhnaa
