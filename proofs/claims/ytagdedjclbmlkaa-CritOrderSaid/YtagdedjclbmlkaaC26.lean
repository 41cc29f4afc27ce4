/- How keys and prefixes come in. -/
import Derived.Test.YtagdedjclbmlkaaKX
import Derived.Test.YtagdedjclbmlkaaGX
namespace Go.Proofs.Ytagdedjclbmlkaa
open Go.ChangeShapes Go.WideShapes Go.ChangeAt Go.RowKit Go.Deep

/-- Cells that are bytes. -/
def BY (cs : List Value) : Prop := ∃ l : List UInt8, cs = (bC l).toList
theorem BY.nil : BY [] := ⟨[], rfl⟩
theorem BY.app {a b : List Value} (h : BY a) (k : BY b) : BY (a ++ b) := by
  obtain ⟨x, rfl⟩ := h
  obtain ⟨y, rfl⟩ := k
  exact ⟨x ++ y, by simp [bC]⟩
theorem BY.step {cs : List Value} (o k : Nat) (h : BY ((cs.drop o).take k)) (h' : BY (cs.drop (o + k))) : BY (cs.drop o) := by
  have := h.app h'
  rwa [← List.drop_drop, List.take_append_drop] at this
theorem BY.end {cs : List Value} (n : Nat) (h : cs.length = n) : BY (cs.drop n) := by rw [List.drop_eq_nil_of_le (by omega)]; exact BY.nil
section
variable {H : Type} {ench : TypeId × Value → H} {w : World} {base : Nat} {held : Bool} {n : Nat} {cs : List Value} {y : DataW H × List MemPlace}
theorem BY.byte (hy : DataW.trod ench Try.prog w base (fun _ => true) held n 5 cs = some y) : BY cs := by
  obtain ⟨z, rfl, _, wz⟩ := DataW.trod_int Try.underlying5 hy
  have hz : 0 ≤ z ∧ z ≤ 255 := by
    simpa [Lit.wf, show IntKind.u8.min = 0 from rfl, show IntKind.u8.max = 255 from rfl] using wz
  exact ⟨[UInt8.ofNat z.toNat], by simp [bC]; omega⟩
theorem BY.arr {t : TypeId} {k : Nat} (ht : Try.prog.underlying t = some (.array k 5)) (hl : cs.length = k) (hy : DataW.trod ench Try.prog w base (fun _ => true) held n t cs = some y) : BY cs := by
  obtain ⟨l, _, e⟩ := bytes_of_trod ht Try.underlying5 (by kernel_rfl) hl hy
  exact ⟨l, e⟩
theorem BY.list (h : BY cs) (k : Nat) (hk : cs.length = k) : ∃ l : List UInt8, l.length = k ∧ cs = (bC l).toList := by
  obtain ⟨l, rfl⟩ := h
  exact ⟨l, by simpa [bC] using hk, rfl⟩
theorem BY.tag (hl : cs.length = 10) (hy : DataW.trod ench Try.prog w base (fun _ => true) held n 28 cs = some y) : BY cs := by
  obtain ⟨xs, n', _, _, _, hxl, hfl⟩ := DataW.trod_struct Try.underlying28 hy
  have hx3 : xs.length = 3 := hxl
  have c3 : Try.prog.cellsOf 25 = 3 := by kernel_rfl
  have c4 : Try.prog.cellsOf 26 = 4 := by kernel_rfl
  have f0 : DataW.trod ench Try.prog w base (fun _ => true) held n' 25 ((cs.drop 0).take (Try.prog.cellsOf 25)) = xs[0]? := hfl 0 _ rfl
  have f1 : DataW.trod ench Try.prog w base (fun _ => true) held n' 26 ((cs.drop 3).take (Try.prog.cellsOf 26)) = xs[1]? := hfl 1 _ rfl
  have f2 : DataW.trod ench Try.prog w base (fun _ => true) held n' 25 ((cs.drop 7).take (Try.prog.cellsOf 25)) = xs[2]? := hfl 2 _ rfl
  rw [List.getElem?_eq_getElem (by omega)] at f0 f1 f2
  rw [c3] at f0 f2
  rw [c4] at f1
  rw [← List.drop_zero (l := cs)]
  exact (BY.arr Try.underlying25 (by rw [List.length_take, List.length_drop]; omega) f0).step 0 3 ((BY.arr Try.underlying26 (by rw [List.length_take, List.length_drop]; omega) f1).step 3 4 ((BY.arr Try.underlying25 (by rw [List.length_take, List.length_drop]; omega) f2).step 7 3 (BY.end 10 hl)))
theorem BY.key (hl : cs.length = 25) (hy : DataW.trod ench Try.prog w base (fun _ => true) held n 30 cs = some y) : BY cs := by
  obtain ⟨xs, n', _, _, _, hxl, hfl⟩ := DataW.trod_struct Try.underlying30 hy
  have hx5 : xs.length = 5 := hxl
  have c1 : Try.prog.cellsOf 5 = 1 := by kernel_rfl
  have c12 : Try.prog.cellsOf 24 = 12 := by kernel_rfl
  have c10 : Try.prog.cellsOf 28 = 10 := by kernel_rfl
  have f0 : DataW.trod ench Try.prog w base (fun _ => true) held n' 5 ((cs.drop 0).take (Try.prog.cellsOf 5)) = xs[0]? := hfl 0 _ rfl
  have f1 : DataW.trod ench Try.prog w base (fun _ => true) held n' 5 ((cs.drop 1).take (Try.prog.cellsOf 5)) = xs[1]? := hfl 1 _ rfl
  have f2 : DataW.trod ench Try.prog w base (fun _ => true) held n' 5 ((cs.drop 2).take (Try.prog.cellsOf 5)) = xs[2]? := hfl 2 _ rfl
  have f3 : DataW.trod ench Try.prog w base (fun _ => true) held n' 24 ((cs.drop 3).take (Try.prog.cellsOf 24)) = xs[3]? := hfl 3 _ rfl
  have f4 : DataW.trod ench Try.prog w base (fun _ => true) held n' 28 ((cs.drop 15).take (Try.prog.cellsOf 28)) = xs[4]? := hfl 4 _ rfl
  rw [List.getElem?_eq_getElem (by omega)] at f0 f1 f2 f3 f4
  rw [c1] at f0 f1 f2
  rw [c12] at f3
  rw [c10] at f4
  rw [← List.drop_zero (l := cs)]
  exact (BY.byte f0).step 0 1 ((BY.byte f1).step 1 1 ((BY.byte f2).step 2 1 ((BY.arr Try.underlying24 (by rw [List.length_take, List.length_drop]; omega) f3).step 3 12 ((BY.tag (by rw [List.length_take, List.length_drop]; omega) f4).step 15 10 (BY.end 25 hl)))))
theorem dec_key (hl : cs.length = 25) (hy : DataW.trod ench Try.prog w base (fun _ => true) held n 30 cs = some y) : ∃ l : List UInt8, l.length = 25 ∧ cs = (bC l).toList := (BY.key hl hy).list 25 hl
theorem dec_pre (hl : cs.length = 26) (hy : DataW.trod ench Try.prog w base (fun _ => true) held n 63 cs = some y) : ∃ (k : List UInt8) (d : Int), k.length = 25 ∧ cs = pC k d := by
  obtain ⟨xs, n', _, _, _, hxl, hfl⟩ := DataW.trod_struct Try.underlying63 hy
  have hx2 : xs.length = 2 := hxl
  have c1 : Try.prog.cellsOf 3 = 1 := by kernel_rfl
  have c25 : Try.prog.cellsOf 30 = 25 := by kernel_rfl
  have f0 : DataW.trod ench Try.prog w base (fun _ => true) held n' 30 ((cs.drop 0).take (Try.prog.cellsOf 30)) = xs[0]? := hfl 0 _ rfl
  have f1 : DataW.trod ench Try.prog w base (fun _ => true) held n' 3 ((cs.drop 25).take (Try.prog.cellsOf 3)) = xs[1]? := hfl 1 _ rfl
  rw [List.getElem?_eq_getElem (by omega)] at f0 f1
  rw [c25, List.drop_zero] at f0
  rw [c1, List.take_of_length_le (by rw [List.length_drop]; omega)] at f1
  obtain ⟨k, hk, e0⟩ := dec_key (by rw [List.length_take]; omega) f0
  obtain ⟨d, e1, _⟩ := DataW.trod_int Try.underlying3 f1
  exact ⟨k, d, hk, by rw [← List.take_append_drop 25 cs, e0, e1]; rfl⟩
end
set_option maxRecDepth 100000 in
theorem open_pre {H : Type} {ench : TypeId × Value → H} {w : World} {base : Nat} {held : Bool} {v : Value} {d : DataW H} {p : List MemPlace} {r : Reach} {b0 : Nat}
    (hv : Value.okWide Try.prog w r b0 63 v) (h : DataW.Trod ench Try.prog w base (fun _ => true) held 63 v d p) : ∃ (k : List UInt8) (n : Int), k.length = 25 ∧ v = .agg (pC k n).toArray := by
  obtain ⟨fuel, hf⟩ := h
  have hc : (Value.cells v).toList.length = 26 := by
    obtain ⟨_, _, _, _, hl, _⟩ := DataW.trod_struct Try.underlying63 hf
    rw [hl]; kernel_rfl
  simp only [Value.okWide, Try.underlying63] at hv
  obtain ⟨cs, rfl, _⟩ := hv
  obtain ⟨k, n, hk, he⟩ := dec_pre hc hf
  refine ⟨k, n, hk, ?_⟩
  congr 1
  exact Array.toList_inj.1 he
set_option maxRecDepth 100000 in
theorem open_key {H : Type} {ench : TypeId × Value → H} {w : World} {base : Nat} {held : Bool} {v : Value} {d : DataW H} {p : List MemPlace} {r : Reach} {b0 : Nat}
    (hv : Value.okWide Try.prog w r b0 30 v) (h : DataW.Trod ench Try.prog w base (fun _ => true) held 30 v d p) : ∃ k : List UInt8, k.length = 25 ∧ v = .agg (bC k) := by
  obtain ⟨fuel, hf⟩ := h
  have hc : (Value.cells v).toList.length = 25 := by
    obtain ⟨_, _, _, _, hl, _⟩ := DataW.trod_struct Try.underlying30 hf
    rw [hl]; kernel_rfl
  simp only [Value.okWide, Try.underlying30] at hv
  obtain ⟨cs, rfl, _⟩ := hv
  obtain ⟨k, hk, he⟩ := dec_key hc hf
  refine ⟨k, hk, ?_⟩
  congr 1
  exact Array.toList_inj.1 (by simpa [Value.cells] using he)
end Go.Proofs.Ytagdedjclbmlkaa
