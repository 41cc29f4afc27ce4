/- Byte arrays of twelve cells, and small laws that the walks of this seat use. -/
import Derived.Test.YtagdedjclbmlkaaG1
import Derived.WalkSpells
import Derived.WalkLawsBesides
import Derived.Lib.Hide
import Derived.BigQuiet
import Derived.Outline
import Derived.Stop.BytesEq
import Derived.Lib.BytesEntry
import Derived.Lib.SlBytesRow
import Derived.Lib.QuietBelow
import Derived.Lib.MinMax
namespace Go.Proofs.Ytagdedjclbmlkaa
open Go.RowKit


/-- The cells of a row of bytes. -/
def bC (l : List UInt8) : Array Value := (l.map fun b => Value.int .u8 (b.toNat : Int)).toArray
theorem bC_size (l : List UInt8) : (bC l).size = l.length := by simp [bC]
theorem bC_get (l : List UInt8) (j : Nat) (h : j < l.length) : (bC l)[j]? = some (.int .u8 (l[j].toNat : Int)) := by
  simp [bC, h]
theorem bC_set (l : List UInt8) (k : Nat) (b : UInt8) : (bC l).setIfInBounds k (.int .u8 (b.toNat : Int)) = bC (l.set k b) := by
  simp [bC, List.map_set]
theorem bC_one (l : List UInt8) : (bC l).all (·.oneCell') = true := by
  simp [bC, Value.oneCell']
def z12 : List UInt8 := List.replicate 12 0
theorem bC_z12 : bC z12 = #[.int .u8 0, .int .u8 0, .int .u8 0, .int .u8 0, .int .u8 0, .int .u8 0, .int .u8 0, .int .u8 0, .int .u8 0, .int .u8 0, .int .u8 0, .int .u8 0] := rfl
/-- A text, and zeros behind it. -/
def pad (l : List UInt8) : List UInt8 := l.take 12 ++ List.replicate (12 - l.length) 0
theorem pad_length (l : List UInt8) : (pad l).length = 12 := by simp [pad]; omega
theorem pad_nil : pad [] = z12 := rfl
theorem pad_snoc (s : List UInt8) (k : Nat) (h : k < s.length) (h12 : k < 12) : (pad (s.take k)).set k s[k] = pad (s.take (k + 1)) := by
  apply List.ext_getElem?
  intro j
  have e1 : (s.take k).take 12 = s.take k := List.take_of_length_le (by simp; omega)
  have e2 : (s.take (k+1)).take 12 = s.take (k+1) := List.take_of_length_le (by simp; omega)
  have l1 : (s.take k).length = k := by simp; omega
  have l2 : (s.take (k+1)).length = k+1 := by simp; omega
  simp only [pad, e1, e2, l1, l2]
  rw [List.getElem?_set]
  by_cases e : k = j
  · subst e
    rw [if_pos rfl, if_pos (by simp; omega), List.getElem?_append_left (by omega), List.getElem?_take_of_lt (by omega)]
    simp [h]
  · rw [if_neg e]
    by_cases hj : j < k
    · rw [List.getElem?_append_left (by omega), List.getElem?_append_left (by omega), List.getElem?_take_of_lt hj, List.getElem?_take_of_lt (by omega)]
    · rw [List.getElem?_append_right (by omega), List.getElem?_append_right (by omega), l1, l2]
      by_cases hj2 : j < 12
      · rw [List.getElem?_replicate, List.getElem?_replicate, if_pos (by omega), if_pos (by omega)]
      · rw [List.getElem?_replicate, List.getElem?_replicate, if_neg (by omega), if_neg (by omega)]

theorem byte_lt (b : UInt8) : (b.toNat : Int) ≤ 255 := by have := b.toNat_lt; omega
theorem at_list (s : ByteArray) (k : Nat) (h : k < s.size) : s.data.toList[k]'(by simpa using h) = s[k] := by simp; rfl

theorem info23 : (Try.prog.info? 24).map (·.size) = some 12 := by kernel_rfl
theorem info22 : (Try.prog.info? 23).map (·.size) = some 12 := by kernel_rfl


/-- A row of bytes out of a variable. -/
theorem ld23 {ops : Array Oper} {rest : List Oper} {o : Oper} {a : Act} {w : World} {Q : Exit → Act → World → Prop} (hgd : o.guard = none) (x : Operand) (ho : o.op = .load 24 x)
    (g : Nat) (hx : a.eval x = .pointer (some ⟨g, 0, none⟩)) (l : List UInt8) (hl : l.length = 12) (fr : Nat × Nat) (hg : w.heap[g]? = some (.cells (bC l) 24 fr))
    (h : wpList Try.prog ops Q rest (a.put o.dst (.agg (bC l))) w) : wpList Try.prog ops Q (o :: rest) a w :=
  wpList_load_row hgd 24 x ho g hx 24 (bC l) fr _ hg Try.underlying24 rfl (by rw [info23, bC_size, hl]) h
theorem st23 {ops : Array Oper} {rest : List Oper} {o : Oper} {a : Act} {w : World} {Q : Exit → Act → World → Prop} (hgd : o.guard = none) (x y : Operand) (ho : o.op = .store 24 x y)
    (g : Nat) (l : List UInt8) (hx : a.eval x = .pointer (some ⟨g, 0, none⟩)) (hy : a.eval y = .agg (bC l)) (hl : l.length = 12)
    (old : List UInt8) (hg : w.heap[g]? = some (.cells (bC old) 24 (0, 0))) (hold : old.length = 12)
    (h : wpList Try.prog ops Q rest (a.put o.dst undef) (w.setRow g (bC l))) : wpList Try.prog ops Q (o :: rest) a w :=
  wpList_store_row hgd 24 x y ho g (bC l) hx hy 24 (bC old) hg (by rw [info23, bC_size, hl]) (by rw [bC_size, bC_size, hl, hold]) (bC_one l) h

theorem below_setRow {B : Nat} {a w : World} (h : Below B a w) {g : Nat} (hg : B ≤ g) (cs : Array Value) : Below B a (w.setRow g cs) :=
  h.trans ⟨rfl, rfl, rfl, by simp, fun k hk => setRow_other w g k cs (by omega)⟩

/-- Two results, the first one a row of bytes in a variable. -/
theorem res_row_tmp {fn : Func} {p t : Tmp} (h : fn.results = #[.cell p 24, .tmp t]) (tmps : Array Value) (w : World) (g : Nat) (l : List UInt8) (fr : Nat × Nat)
    (hp : tmps.getD p undef = .pointer (some ⟨g, 0, none⟩)) (hg : w.heap[g]? = some (.cells (bC l) 24 fr)) (hl : l.length = 12) :
    (results fn tmps).run Try.prog w = .ok (.tuple #[.agg (bC l), tmps.getD t undef]) w := by
  have hp' : tmps[p]?.getD undef = .pointer (some ⟨g, 0, none⟩) := by simpa using hp
  have hload := run_loadVar_row (P := Try.prog) w g 24 24 (bC l) fr _ hg Try.underlying24 rfl (by rw [info23, bC_size, hl])
  simp [results, h, hp', asAddr, hload]

theorem eql23 (w : World) (xs ys : List UInt8) (hx : xs.length = 12) (hy : ys.length = 12) : (binOp .eql 24 (.agg (bC xs)) (.agg (bC ys))).run Try.prog w = .ok (.bool (xs == ys)) w :=
  run_eql_bytes w 24 5 12 Try.underlying24 Try.underlying5 (fun _ => by kernel_rfl) xs ys hx hy
theorem neq23 (w : World) (xs ys : List UInt8) (hx : xs.length = 12) (hy : ys.length = 12) : (binOp .neq 24 (.agg (bC xs)) (.agg (bC ys))).run Try.prog w = .ok (.bool (!(xs == ys))) w := by
  rw [run_neq_struct]
  show ((Op.equalIn (9998 + 2) 24 (.agg (xs.map Extern.Stop.cell).toArray) (.agg (ys.map Extern.Stop.cell).toArray)).run Try.prog w).andThen _ = _
  rw [run_equalIn_bytes w 9998 24 5 12 Try.underlying24 Try.underlying5 (fun _ => by kernel_rfl) xs ys hx hy]
  rfl
theorem neq22 (w : World) (xs ys : List UInt8) (hx : xs.length = 12) (hy : ys.length = 12) : (binOp .neq 23 (.agg (bC xs)) (.agg (bC ys))).run Try.prog w = .ok (.bool (!(xs == ys))) w := by
  rw [run_neq_struct]
  show ((Op.equalIn (9998 + 2) 23 (.agg (xs.map Extern.Stop.cell).toArray) (.agg (ys.map Extern.Stop.cell).toArray)).run Try.prog w).andThen _ = _
  rw [run_equalIn_bytes w 9998 23 5 12 Try.underlying23 Try.underlying5 (fun _ => by kernel_rfl) xs ys hx hy]
  rfl

end Go.Proofs.Ytagdedjclbmlkaa
