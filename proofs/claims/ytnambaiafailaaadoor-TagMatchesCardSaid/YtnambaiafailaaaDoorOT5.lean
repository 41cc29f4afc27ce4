/- How a tag comes in; the library's variable. -/
import Derived.Test.YtnambaiafailaaaDoorP5
import Derived.Test.YtnambaiafailaaaDoorGT
namespace Go.Proofs.YtnambaiafailaaaDoor
open Go.ChangeShapes Go.WideShapes Go.ChangeAt Go.RowKit Go.Deep

theorem tag_dec {H : Type} {ench : TypeId × Value → H} {w : World} {base : Nat} {held : Bool} {n : Nat} {cs : List Value} {y : DataW H × List MemPlace}
    (hy : DataW.trod ench Tryd.prog w base (fun _ => true) held n 29 cs = some y) (hl : cs.length = 10) : ∃ l : List UInt8, l.length = 10 ∧ cs = (bC l).toList := by
  obtain ⟨xs, n', _, _, _, hxl, hfl⟩ := DataW.trod_struct Tryd.underlying29 hy
  have hx3 : xs.length = 3 := hxl
  have c3 : Tryd.prog.cellsOf 26 = 3 := by kernel_rfl
  have c4 : Tryd.prog.cellsOf 27 = 4 := by kernel_rfl
  have f0 : DataW.trod ench Tryd.prog w base (fun _ => true) held n' 26 ((cs.drop 0).take (Tryd.prog.cellsOf 26)) = xs[0]? := hfl 0 _ rfl
  have f1 : DataW.trod ench Tryd.prog w base (fun _ => true) held n' 27 ((cs.drop 3).take (Tryd.prog.cellsOf 27)) = xs[1]? := hfl 1 _ rfl
  have f2 : DataW.trod ench Tryd.prog w base (fun _ => true) held n' 26 ((cs.drop 7).take (Tryd.prog.cellsOf 26)) = xs[2]? := hfl 2 _ rfl
  rw [List.getElem?_eq_getElem (by omega)] at f0 f1 f2
  rw [c3, List.drop_zero] at f0
  rw [c4] at f1
  rw [c3] at f2
  obtain ⟨A, hA, eA⟩ := bytes_of_trod Tryd.underlying26 Tryd.underlying5 (by kernel_rfl) (by rw [List.length_take, hl]; rfl) f0
  obtain ⟨B, hB, eB⟩ := bytes_of_trod Tryd.underlying27 Tryd.underlying5 (by kernel_rfl) (by rw [List.length_take, List.length_drop, hl]; rfl) f1
  obtain ⟨C, hC, eC⟩ := bytes_of_trod Tryd.underlying26 Tryd.underlying5 (by kernel_rfl) (by rw [List.length_take, List.length_drop, hl]; rfl) f2
  refine ⟨A ++ B ++ C, by simp [hA, hB, hC], ?_⟩
  have e1 : cs = cs.take 3 ++ ((cs.drop 3).take 4 ++ (cs.drop 7).take 3) := by
    have t1 : (cs.drop 7).take 3 = cs.drop 7 := List.take_of_length_le (by rw [List.length_drop, hl]; omega)
    rw [t1]
    have := (List.take_append_drop 4 (cs.drop 3)).symm
    rw [List.drop_drop] at this
    rw [← this, List.take_append_drop]
  rw [e1, eA, eB, eC]
  simp [bC]
set_option maxRecDepth 100000 in
theorem open_tag {H : Type} {ench : TypeId × Value → H} {w : World} {base : Nat} {held : Bool} {v : Value} {d : DataW H} {p : List MemPlace} {r : Reach} {b0 : Nat}
    (hv : Value.okWide Tryd.prog w r b0 29 v) (h : DataW.Trod ench Tryd.prog w base (fun _ => true) held 29 v d p) : ∃ l : List UInt8, l.length = 10 ∧ v = .agg (bC l) := by
  obtain ⟨fuel, hf⟩ := h
  have hc : (Value.cells v).toList.length = 10 := by
    obtain ⟨_, _, _, _, hl, _⟩ := DataW.trod_struct Tryd.underlying29 hf
    rw [hl]; kernel_rfl
  simp only [Value.okWide, Tryd.underlying29] at hv
  obtain ⟨cs, rfl, _⟩ := hv
  obtain ⟨l, hl, he⟩ := tag_dec hf hc
  refine ⟨l, hl, ?_⟩
  congr 1
  exact Array.toList_inj.1 he
theorem mx_of_shape {w : World} (h : w.ShapedOpen Tryd.prog) : MX w :=
  cell_of_shapedOpen_int (g := 1) (t := 3) (zero := #[.int .i64 0]) h (of_decide_eq_true (by kernel_rfl)) (by kernel_rfl) rfl (by kernel_rfl) (by kernel_rfl) Tryd.underlying3
end Go.Proofs.YtnambaiafailaaaDoor
