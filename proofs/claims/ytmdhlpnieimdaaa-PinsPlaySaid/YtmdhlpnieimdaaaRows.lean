/-
  No cell of these rows narrows 'for every input' (looked for: loops, veiled, ifaces, maps, wideKeys, modest, calm, conditions, laid).
  DERIVED. THE GIVEN ROWS OF THIS SEAT. 4 by the template 'for every input the law returns true; each argument reads behind the call as it read before'; 0 by the template 'total and deterministic' (their statements: YtmdhlpnieimdaaaTotals.lean).
  GIVEN WITH THE SEED: the statements are not yours to turn. If you find one false, say at which input.
  Laid BY PROGRAM, IN A SANDBOX (cutbox-rows.mjs): the forced cells as the released guide's own fill.sh prints them over the translation 63dfecb7d3196e0c… (all of the seat's roots in one cut). By AI agents, Wed Nov 11 2026. No macro, syntax, notation, axiom, sorry.
-/
import Derived.Test.YtmdhlpnieimdaaaChecked
import GoSem.Claim
import GoSem.ClaimJoined
import GoSem.ClaimMapViews
import Derived.JoinedTies
import Derived.KernelRfl
namespace Go.Proofs.Ytmdhlpnieimdaaa
/- THE CELL 'sum', in the pinned program and in every row, IS THE sha256 OF THE DUMP (.gsa) THAT YtmdhlpnieimdaaaProg.lean LOADS. Nothing in Lean hashes anything: it is a label: what it is worth is what the hold of that sum in a sandbox is worth. -/
noncomputable def Try.pinned : Pinned := { name := "ytmdhlpnieimdaaa", sum := "63dfecb7d3196e0c9b3a8b4a82e64bb1a6e6213a5ef94d6cc650e8c6d3f2f0af", checked := Try.checked }
namespace Rows
def none {H : Type} : Left H := { results := [], args := [] }

/-- 'vulgatelaw13.PinsStay': WHATEVER THE INPUT: true; the input reads as it did. -/
def pinsStaySpec : ChangeSpec := { name := "pinsStay", fn := fun _ => fun
  | [d1, d2, d3] => { results := [.lit (.bool true)], args := [d1, d2, d3] }
  | _ => none }
def pinsStayRow : OpenClaim := { program := "ytmdhlpnieimdaaa", sum := "63dfecb7d3196e0c9b3a8b4a82e64bb1a6e6213a5ef94d6cc650e8c6d3f2f0af", func := "vulgate/vulgatelaw13.PinsStay", spec := "pinsStay", recurses := true, apart := false }
def PinsStaySaid : Prop := pinsStayRow.holds Try.pinned (OpenSpec.ofChange pinsStaySpec)

/-- ITS FALSE NEIGHBOUR: 'it returns false'. Refute it at one input. -/
def pinsStayWrong : ChangeSpec := { name := "pinsStay", fn := fun _ => fun
  | [d1, d2, d3] => { results := [.lit (.bool false)], args := [d1, d2, d3] }
  | _ => none }
def PinsStayWrongFalsely : Prop := pinsStayRow.holds Try.pinned (OpenSpec.ofChange pinsStayWrong)

/-- 'vulgatelaw13.PinsFull': WHATEVER THE INPUT: true; the input reads as it did. -/
def pinsFullSpec : ChangeSpec := { name := "pinsFull", fn := fun _ => fun
  | [d1, d2] => { results := [.lit (.bool true)], args := [d1, d2] }
  | _ => none }
def pinsFullRow : OpenClaim := { program := "ytmdhlpnieimdaaa", sum := "63dfecb7d3196e0c9b3a8b4a82e64bb1a6e6213a5ef94d6cc650e8c6d3f2f0af", func := "vulgate/vulgatelaw13.PinsFull", spec := "pinsFull", recurses := true, apart := false }
def PinsFullSaid : Prop := pinsFullRow.holds Try.pinned (OpenSpec.ofChange pinsFullSpec)

/-- ITS FALSE NEIGHBOUR: 'it returns false'. Refute it at one input. -/
def pinsFullWrong : ChangeSpec := { name := "pinsFull", fn := fun _ => fun
  | [d1, d2] => { results := [.lit (.bool false)], args := [d1, d2] }
  | _ => none }
def PinsFullWrongFalsely : Prop := pinsFullRow.holds Try.pinned (OpenSpec.ofChange pinsFullWrong)

/-- 'vulgatelaw13.PinsPlay': WHATEVER THE INPUT: true; the input reads as it did. -/
def pinsPlaySpec : ChangeSpec := { name := "pinsPlay", fn := fun _ => fun
  | [d1, d2] => { results := [.lit (.bool true)], args := [d1, d2] }
  | _ => none }
def pinsPlayRow : OpenClaim := { program := "ytmdhlpnieimdaaa", sum := "63dfecb7d3196e0c9b3a8b4a82e64bb1a6e6213a5ef94d6cc650e8c6d3f2f0af", func := "vulgate/vulgatelaw13.PinsPlay", spec := "pinsPlay", recurses := true, apart := false }
def PinsPlaySaid : Prop := pinsPlayRow.holds Try.pinned (OpenSpec.ofChange pinsPlaySpec)

/-- ITS FALSE NEIGHBOUR: 'it returns false'. Refute it at one input. -/
def pinsPlayWrong : ChangeSpec := { name := "pinsPlay", fn := fun _ => fun
  | [d1, d2] => { results := [.lit (.bool false)], args := [d1, d2] }
  | _ => none }
def PinsPlayWrongFalsely : Prop := pinsPlayRow.holds Try.pinned (OpenSpec.ofChange pinsPlayWrong)

/-- 'vulgatelaw13.PinsNil': WHATEVER THE INPUT: true; the input reads as it did. -/
def pinsNilSpec : ChangeSpec := { name := "pinsNil", fn := fun _ => fun
  | [d1, d2] => { results := [.lit (.bool true)], args := [d1, d2] }
  | _ => none }
def pinsNilRow : OpenClaim := { program := "ytmdhlpnieimdaaa", sum := "63dfecb7d3196e0c9b3a8b4a82e64bb1a6e6213a5ef94d6cc650e8c6d3f2f0af", func := "vulgate/vulgatelaw13.PinsNil", spec := "pinsNil", recurses := true, apart := false }
def PinsNilSaid : Prop := pinsNilRow.holds Try.pinned (OpenSpec.ofChange pinsNilSpec)

/-- ITS FALSE NEIGHBOUR: 'it returns false'. Refute it at one input. -/
def pinsNilWrong : ChangeSpec := { name := "pinsNil", fn := fun _ => fun
  | [d1, d2] => { results := [.lit (.bool false)], args := [d1, d2] }
  | _ => none }
def PinsNilWrongFalsely : Prop := pinsNilRow.holds Try.pinned (OpenSpec.ofChange pinsNilWrong)

/- THE SECOND FORM. 'bulk': how many values and letters a reading holds, each counted each time it is reached (what is shared counts as often as it is met; a slice's spare places count too). A statement '..UptoSaid' is the law's where the arguments, and the package variables that the reading takes, are together of bulk at most 1048576: NARROWER than '..Said'. Prove '..Said' where nothing that the law and all that it calls make is longer than what came in: it says more and counts as full. Else prove '..UptoSaid'. A law counts once. -/
mutual
def uptoBulk {H : Type} : DataW H → Nat
  | .lit (.string bytes) => bytes.length + 1
  | .lit _ => 1
  | .nil => 1
  | .ptr d => uptoBulk d + 1
  | .slice elems spare => uptoBulkAll elems + uptoBulkAll spare + 1
  | .agg parts => uptoBulkAll parts + 1
  | .iface _ d => uptoBulk d + 1
  | .map entries => uptoBulkEntries entries + 1
  | .held _ => 1
def uptoBulkAll {H : Type} : List (DataW H) → Nat
  | [] => 0
  | d :: r => uptoBulk d + uptoBulkAll r
def uptoBulkEntries {H : Type} : List (Lit × DataW H) → Nat
  | [] => 0
  | x :: r => uptoBulkEntry x + uptoBulkEntries r
def uptoBulkEntry {H : Type} : Lit × DataW H → Nat
  | (.string bytes, d) => bytes.length + uptoBulk d + 1
  | (_, d) => uptoBulk d + 1
 end
def uptoSmall : (H : Type) → List (DataW H) → Bool := fun _ ds => decide (uptoBulkAll ds ≤ 1048576)
def OpenSpec.upto (s : _root_.Go.ChangeSpec) : _root_.Go.OpenSpec := { _root_.Go.OpenSpec.ofChange s with cond := some uptoSmall }

/-- 'vulgatelaw13.PinsStay', WHERE WHAT IT READS IS OF BULK AT MOST 1048576: true; the input reads as it did. -/
def pinsStayUptoRow : OpenClaim := { program := "ytmdhlpnieimdaaa", sum := "63dfecb7d3196e0c9b3a8b4a82e64bb1a6e6213a5ef94d6cc650e8c6d3f2f0af", func := "vulgate/vulgatelaw13.PinsStay", spec := "pinsStay", recurses := true, apart := false, narrowed := true }
def PinsStayUptoSaid : Prop := pinsStayUptoRow.holds Try.pinned (OpenSpec.upto pinsStaySpec)

/-- 'vulgatelaw13.PinsFull', WHERE WHAT IT READS IS OF BULK AT MOST 1048576: true; the input reads as it did. -/
def pinsFullUptoRow : OpenClaim := { program := "ytmdhlpnieimdaaa", sum := "63dfecb7d3196e0c9b3a8b4a82e64bb1a6e6213a5ef94d6cc650e8c6d3f2f0af", func := "vulgate/vulgatelaw13.PinsFull", spec := "pinsFull", recurses := true, apart := false, narrowed := true }
def PinsFullUptoSaid : Prop := pinsFullUptoRow.holds Try.pinned (OpenSpec.upto pinsFullSpec)

/-- 'vulgatelaw13.PinsPlay', WHERE WHAT IT READS IS OF BULK AT MOST 1048576: true; the input reads as it did. -/
def pinsPlayUptoRow : OpenClaim := { program := "ytmdhlpnieimdaaa", sum := "63dfecb7d3196e0c9b3a8b4a82e64bb1a6e6213a5ef94d6cc650e8c6d3f2f0af", func := "vulgate/vulgatelaw13.PinsPlay", spec := "pinsPlay", recurses := true, apart := false, narrowed := true }
def PinsPlayUptoSaid : Prop := pinsPlayUptoRow.holds Try.pinned (OpenSpec.upto pinsPlaySpec)

/-- 'vulgatelaw13.PinsNil', WHERE WHAT IT READS IS OF BULK AT MOST 1048576: true; the input reads as it did. -/
def pinsNilUptoRow : OpenClaim := { program := "ytmdhlpnieimdaaa", sum := "63dfecb7d3196e0c9b3a8b4a82e64bb1a6e6213a5ef94d6cc650e8c6d3f2f0af", func := "vulgate/vulgatelaw13.PinsNil", spec := "pinsNil", recurses := true, apart := false, narrowed := true }
def PinsNilUptoSaid : Prop := pinsNilUptoRow.holds Try.pinned (OpenSpec.upto pinsNilSpec)

end Rows
end Go.Proofs.Ytmdhlpnieimdaaa
