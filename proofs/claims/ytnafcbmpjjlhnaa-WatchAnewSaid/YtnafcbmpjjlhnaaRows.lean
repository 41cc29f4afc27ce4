/-
  No cell of these rows narrows 'for every input' (looked for: loops, veiled, ifaces, maps, wideKeys, modest, calm, conditions, laid).
  DERIVED. THE GIVEN ROWS OF THIS SEAT. 2 by the template 'for every input the law returns true; each argument reads behind the call as it read before'; 0 by the template 'total and deterministic' (their statements: YtnafcbmpjjlhnaaTotals.lean).
  GIVEN WITH THE SEED: the statements are not yours to turn. If you find one false, say at which input.
  Laid BY PROGRAM, IN A SANDBOX (cutbox-rows.mjs): the forced cells as the released guide's own fill.sh prints them over the translation 1d58f71612d6b70d… (all of the seat's roots in one cut). By AI agents, Wed Nov 11 2026. No macro, syntax, notation, axiom, sorry.
-/
import Derived.Test.YtnafcbmpjjlhnaaChecked
import GoSem.Claim
import GoSem.ClaimJoined
import GoSem.ClaimMapViews
import Derived.JoinedTies
import Derived.KernelRfl
namespace Go.Proofs.Ytnafcbmpjjlhnaa
/- THE CELL 'sum', in the pinned program and in every row, IS THE sha256 OF THE DUMP (.gsa) THAT YtnafcbmpjjlhnaaProg.lean LOADS. Nothing in Lean hashes anything: it is a label: what it is worth is what the hold of that sum in a sandbox is worth. -/
noncomputable def Try.pinned : Pinned := { name := "ytnafcbmpjjlhnaa", sum := "1d58f71612d6b70d070f51acddfca808143c3a0641bd364dd48f0ceb98b83502", checked := Try.checked }
namespace Rows
def none {H : Type} : Left H := { results := [], args := [] }

/-- 'vulgatelaw27.WatchAnew': WHATEVER THE INPUT: true; the input reads as it did. -/
def watchAnewSpec : ChangeSpec := { name := "watchAnew", fn := fun _ => fun
  | [d1, d2, d3, d4] => { results := [.lit (.bool true)], args := [d1, d2, d3, d4] }
  | _ => none }
def watchAnewRow : OpenClaim := { program := "ytnafcbmpjjlhnaa", sum := "1d58f71612d6b70d070f51acddfca808143c3a0641bd364dd48f0ceb98b83502", func := "vulgate/vulgatelaw27.WatchAnew", spec := "watchAnew", inPlace := ["internal/bytealg.Compare"], unfollowed := true, recurses := true, apart := false }
def WatchAnewSaid : Prop := watchAnewRow.holds Try.pinned (OpenSpec.ofChange watchAnewSpec)

/-- ITS FALSE NEIGHBOUR: 'it returns false'. Refute it at one input. -/
def watchAnewWrong : ChangeSpec := { name := "watchAnew", fn := fun _ => fun
  | [d1, d2, d3, d4] => { results := [.lit (.bool false)], args := [d1, d2, d3, d4] }
  | _ => none }
def WatchAnewWrongFalsely : Prop := watchAnewRow.holds Try.pinned (OpenSpec.ofChange watchAnewWrong)

/-- 'vulgatelaw27.WatchNil': WHATEVER THE INPUT: true; the input reads as it did. -/
def watchNilSpec : ChangeSpec := { name := "watchNil", fn := fun _ => fun
  | [d1, d2, d3, d4, d5] => { results := [.lit (.bool true)], args := [d1, d2, d3, d4, d5] }
  | _ => none }
def watchNilRow : OpenClaim := { program := "ytnafcbmpjjlhnaa", sum := "1d58f71612d6b70d070f51acddfca808143c3a0641bd364dd48f0ceb98b83502", func := "vulgate/vulgatelaw27.WatchNil", spec := "watchNil", inPlace := ["internal/bytealg.Compare"], unfollowed := true, recurses := true, apart := false }
def WatchNilSaid : Prop := watchNilRow.holds Try.pinned (OpenSpec.ofChange watchNilSpec)

/-- ITS FALSE NEIGHBOUR: 'it returns false'. Refute it at one input. -/
def watchNilWrong : ChangeSpec := { name := "watchNil", fn := fun _ => fun
  | [d1, d2, d3, d4, d5] => { results := [.lit (.bool false)], args := [d1, d2, d3, d4, d5] }
  | _ => none }
def WatchNilWrongFalsely : Prop := watchNilRow.holds Try.pinned (OpenSpec.ofChange watchNilWrong)

/- THE SECOND FORM. 'bulk': how many values and letters a reading holds, each counted each time it is reached (what is shared counts as often as it is met; a slice's spare places count too). A statement '..UptoSaid' is the law's where the arguments, and the package variables that the reading takes, are together of bulk at most 1048576: NARROWER than '..Said'. Prove '..Said' where nothing that the law and all that it calls make is longer than what came in: it says more and counts as full. Else prove '..UptoSaid'. A law counts once. -/
mutual
def uptoBulk {H : Type} : DataW H → Nat
  | .lit (.string bytes) => bytes.length + 1
  | .lit _ => 1
  | .nil => 1
  | .ptr d => uptoBulk d + 1
  | .slice elems spare => uptoBulkAll elems + uptoBulkAll spare + 1
  | .agg parts => uptoBulkAll parts + 1
  | .iface _ d => uptoBulk d + 1
  | .map entries => uptoBulkEntries entries + 1
  | .held _ => 1
def uptoBulkAll {H : Type} : List (DataW H) → Nat
  | [] => 0
  | d :: r => uptoBulk d + uptoBulkAll r
def uptoBulkEntries {H : Type} : List (Lit × DataW H) → Nat
  | [] => 0
  | x :: r => uptoBulkEntry x + uptoBulkEntries r
def uptoBulkEntry {H : Type} : Lit × DataW H → Nat
  | (.string bytes, d) => bytes.length + uptoBulk d + 1
  | (_, d) => uptoBulk d + 1
 end
def uptoSmall : (H : Type) → List (DataW H) → Bool := fun _ ds => decide (uptoBulkAll ds ≤ 1048576)
def OpenSpec.upto (s : _root_.Go.ChangeSpec) : _root_.Go.OpenSpec := { _root_.Go.OpenSpec.ofChange s with cond := some uptoSmall }

/-- 'vulgatelaw27.WatchAnew', WHERE WHAT IT READS IS OF BULK AT MOST 1048576: true; the input reads as it did. -/
def watchAnewUptoRow : OpenClaim := { program := "ytnafcbmpjjlhnaa", sum := "1d58f71612d6b70d070f51acddfca808143c3a0641bd364dd48f0ceb98b83502", func := "vulgate/vulgatelaw27.WatchAnew", spec := "watchAnew", inPlace := ["internal/bytealg.Compare"], unfollowed := true, recurses := true, apart := false, narrowed := true }
def WatchAnewUptoSaid : Prop := watchAnewUptoRow.holds Try.pinned (OpenSpec.upto watchAnewSpec)

/-- 'vulgatelaw27.WatchNil', WHERE WHAT IT READS IS OF BULK AT MOST 1048576: true; the input reads as it did. -/
def watchNilUptoRow : OpenClaim := { program := "ytnafcbmpjjlhnaa", sum := "1d58f71612d6b70d070f51acddfca808143c3a0641bd364dd48f0ceb98b83502", func := "vulgate/vulgatelaw27.WatchNil", spec := "watchNil", inPlace := ["internal/bytealg.Compare"], unfollowed := true, recurses := true, apart := false, narrowed := true }
def WatchNilUptoSaid : Prop := watchNilUptoRow.holds Try.pinned (OpenSpec.upto watchNilSpec)

end Rows
end Go.Proofs.Ytnafcbmpjjlhnaa
