/- How a slice of bytes comes in. -/
import Derived.Test.YtbfefdedjcppaaaGreatDoorOP6
import Derived.Test.YtbfefdedjcppaaaGreatDoorRF
namespace Go.Proofs.YtbfefdedjcppaaaGreatDoor
set_option maxRecDepth 100000
open Go.ChangeShapes Go.WideShapes Go.ChangeAt Go.RowKit Go.Deep
theorem open_bys {H : Type} {ench : TypeId × Value → H} {w : World} {base : Nat} {held : Bool} {v : Value} {d : DataW H} {p : List MemPlace} {r : Reach} {b0 : Nat}
   (hv : Value.okWide Tryz.prog w r b0 22 v) (h : DataW.Trod ench Tryz.prog w base (fun _ => true) held 22 v d p) : ∃ (q : Option Addr) (l : List UInt8) (c : Nat), v = .slice q l.length c ∧ RdOk w q l.length c l := by
 obtain ⟨fuel, hf⟩ := h
 obtain ⟨q', n', c', rfl⟩ := okWide_slice Tryz.underlying22 hv
 obtain ⟨q, l, c, e1, h1, h2, h3, _, h5⟩ := open_rowsC (E := 5) (enc := byteC) (k := 1) (φ := fun _ => True) Tryz.underlying22 (by kernel_rfl) (by omega) (fun n cs y hy hl => by
   obtain ⟨u, rfl⟩ := BY.byte hy
   match u, hl with
   | [b], _ => exact ⟨b, rfl, trivial⟩) hf
 simp only [Value.cells] at e1
 simp at e1
 obtain ⟨rfl, rfl, rfl⟩ := e1
 exact ⟨_, l, _, rfl, ⟨rfl, h1, h2, h3, h5⟩⟩
end Go.Proofs.YtbfefdedjcppaaaGreatDoor
