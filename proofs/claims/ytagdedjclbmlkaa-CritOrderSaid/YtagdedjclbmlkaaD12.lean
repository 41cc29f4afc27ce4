/- How calls come in. -/
import Derived.Test.YtagdedjclbmlkaaD10
import Derived.Test.YtagdedjclbmlkaaC26
namespace Go.Proofs.Ytagdedjclbmlkaa
open Go.ChangeShapes Go.WideShapes Go.ChangeAt Go.RowKit Go.Deep

theorem dec_ac {H : Type} {ench : TypeId × Value → H} {w : World} {base : Nat} {held : Bool} {n : Nat} {cs : List Value} {y : DataW H × List MemPlace}
    (hl : cs.length = 27) (hy : DataW.trod ench Try.prog w base (fun _ => true) held n 35 cs = some y) : ∃ x : AC, cs = acC x := by
  obtain ⟨xs, n', _, _, _, hxl, hfl⟩ := DataW.trod_struct Try.underlying35 hy
  have hx3 : xs.length = 3 := hxl
  have cb : Try.prog.cellsOf 4 = 1 := by kernel_rfl
  have c25 : Try.prog.cellsOf 30 = 25 := by kernel_rfl
  have c1 : Try.prog.cellsOf 3 = 1 := by kernel_rfl
  have f0 : DataW.trod ench Try.prog w base (fun _ => true) held n' 4 ((cs.drop 0).take (Try.prog.cellsOf 4)) = xs[0]? := hfl 0 _ rfl
  have f1 : DataW.trod ench Try.prog w base (fun _ => true) held n' 30 ((cs.drop 1).take (Try.prog.cellsOf 30)) = xs[1]? := hfl 1 _ rfl
  have f2 : DataW.trod ench Try.prog w base (fun _ => true) held n' 3 ((cs.drop 26).take (Try.prog.cellsOf 3)) = xs[2]? := hfl 2 _ rfl
  rw [List.getElem?_eq_getElem (by omega)] at f0 f1 f2
  rw [cb, List.drop_zero] at f0
  rw [c25] at f1
  rw [c1, List.take_of_length_le (by rw [List.length_drop]; omega)] at f2
  obtain ⟨b, e0, _⟩ := DataW.trod_bool Try.underlying4 f0
  obtain ⟨k, hk, e1⟩ := dec_key (by rw [List.length_take, List.length_drop]; omega) f1
  obtain ⟨v, e2, _⟩ := DataW.trod_int Try.underlying3 f2
  refine ⟨⟨b, k, v, hk⟩, ?_⟩
  show cs = ([.bool b] ++ (bC k).toList) ++ [.int .i64 v]
  rw [List.append_assoc, ← e2, ← e1, ← e0]
  rw [show cs.drop 26 = (cs.drop 1).drop 25 by rw [List.drop_drop], List.take_append_drop, List.take_append_drop]
set_option maxRecDepth 100000 in
theorem open_acts {H : Type} {ench : TypeId × Value → H} {w : World} {base : Nat} {held : Bool} {v : Value} {d : DataW H} {p : List MemPlace} {r : Reach} {b0 : Nat}
    (hv : Value.okWide Try.prog w r b0 22 v) (h : DataW.Trod ench Try.prog w base (fun _ => true) held 22 v d p) :
    ∃ (q : Option Addr) (xs : List AC) (cap : Nat), v = .slice q xs.length cap ∧ xs.length ≤ cap ∧ cap ≤ maxLen ∧ SlAt acC 27 w q xs := by
  obtain ⟨q, xs, cap, h1, h2, h3, h4, _⟩ := open_rows (E := 35) (enc := acC) (k := 27) (φ := fun _ => True) Try.underlying22 (by kernel_rfl) (by omega) (fun _ _ _ hy hl => by
    obtain ⟨x, hx⟩ := dec_ac hl hy
    exact ⟨x, hx, trivial⟩) hv h
  exact ⟨q, xs, cap, h1, h2, h3, h4⟩
end Go.Proofs.Ytagdedjclbmlkaa
