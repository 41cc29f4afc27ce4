/- The document's Put. -/
import Derived.Test.YtagdedjclbmlkaaD7
namespace Go.Proofs.Ytagdedjclbmlkaa
open Go.RowKit

theorem rput_any (q : Option Addr) (n c : Nat) (xs : List RE) (k : List UInt8) (z : Int) (w : World) (hR : RSl w q n c xs) (hn9 : n ≤ 1000000) (hk : k.length = 25) :
    Calls Try.prog 12 #[.slice q n c, .agg (rkC k).toArray, .int .i64 z] w fun e w' => ∃ q' n' c' ys, e = .returned (.tuple #[.slice q' n' c', .bool (!(findL (xs.map RE.p) k).isSome)]) ∧ RSl w' q' n' c' ys ∧ ys.map RE.p = putL (xs.map RE.p) k z ∧ Below w.heap.size w w' := by
  cases hf : findL (xs.map RE.p) k with
  | none => exact rputN_any q n c xs k z w hR hn9 hk hf
  | some i => exact rputS_any q n c xs k z w i hR hn9 hk hf
/-- Two lists of entries of one key order and one number are one list of pairs. -/
theorem putL_len (l : List (List UInt8 × Int)) (k : List UInt8) (z : Int) : (putL l k z).length ≤ l.length + 1 := by
  unfold putL
  split
  · simp
  · simp only [List.length_append, List.length_take, List.length_drop, List.length_singleton]; omega
end Go.Proofs.Ytagdedjclbmlkaa
