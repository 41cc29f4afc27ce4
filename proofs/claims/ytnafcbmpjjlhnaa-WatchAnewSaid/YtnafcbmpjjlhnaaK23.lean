/- How keys, prefixes, writes and acts come in. -/
import Derived.Test.YtnafcbmpjjlhnaaK22
import Derived.Test.YtnafcbmpjjlhnaaG3
namespace Go.Proofs.Ytnafcbmpjjlhnaa
open Go.ChangeShapes Go.WideShapes Go.ChangeAt Go.RowKit Go.Deep

/-- Cells that are bytes. -/
def BY (cs : List Value) : Prop := ∃ l : List UInt8, cs = (bC l).toList
theorem BY.nil : BY [] := ⟨[], rfl⟩
theorem BY.app {a b : List Value} (h : BY a) (k : BY b) : BY (a ++ b) := by
  obtain ⟨x, rfl⟩ := h
  obtain ⟨y, rfl⟩ := k
  exact ⟨x ++ y, by simp [bC]⟩
theorem BY.step {cs : List Value} (o k : Nat) (h : BY ((cs.drop o).take k)) (h' : BY (cs.drop (o + k))) : BY (cs.drop o) := by
  have := h.app h'
  rwa [← List.drop_drop, List.take_append_drop] at this
theorem BY.end {cs : List Value} (n : Nat) (h : cs.length = n) : BY (cs.drop n) := by rw [List.drop_eq_nil_of_le (by omega)]; exact BY.nil
section
variable {H : Type} {ench : TypeId × Value → H} {w : World} {base : Nat} {held : Bool} {n : Nat} {cs : List Value} {y : DataW H × List MemPlace}
theorem BY.byte (hy : DataW.trod ench Try.prog w base (fun _ => true) held n 5 cs = some y) : BY cs := by
  obtain ⟨z, rfl, _, wz⟩ := DataW.trod_int Try.underlying5 hy
  have hz : 0 ≤ z ∧ z ≤ 255 := by
    simpa [Lit.wf, show IntKind.u8.min = 0 from rfl, show IntKind.u8.max = 255 from rfl] using wz
  exact ⟨[UInt8.ofNat z.toNat], by simp [bC]; omega⟩
theorem BY.arr {t : TypeId} {k : Nat} (ht : Try.prog.underlying t = some (.array k 5)) (hl : cs.length = k) (hy : DataW.trod ench Try.prog w base (fun _ => true) held n t cs = some y) : BY cs := by
  obtain ⟨l, _, e⟩ := bytes_of_trod ht Try.underlying5 (by kernel_rfl) hl hy
  exact ⟨l, e⟩
theorem BY.list (h : BY cs) (k : Nat) (hk : cs.length = k) : ∃ l : List UInt8, l.length = k ∧ cs = (bC l).toList := by
  obtain ⟨l, rfl⟩ := h
  exact ⟨l, by simpa [bC] using hk, rfl⟩
theorem BY.tag (hl : cs.length = 10) (hy : DataW.trod ench Try.prog w base (fun _ => true) held n 28 cs = some y) : BY cs := by
  obtain ⟨xs, n', _, _, _, hxl, hfl⟩ := DataW.trod_struct Try.underlying28 hy
  have hx3 : xs.length = 3 := hxl
  have c3 : Try.prog.cellsOf 25 = 3 := by kernel_rfl
  have c4 : Try.prog.cellsOf 26 = 4 := by kernel_rfl
  have f0 : DataW.trod ench Try.prog w base (fun _ => true) held n' 25 ((cs.drop 0).take (Try.prog.cellsOf 25)) = xs[0]? := hfl 0 _ rfl
  have f1 : DataW.trod ench Try.prog w base (fun _ => true) held n' 26 ((cs.drop 3).take (Try.prog.cellsOf 26)) = xs[1]? := hfl 1 _ rfl
  have f2 : DataW.trod ench Try.prog w base (fun _ => true) held n' 25 ((cs.drop 7).take (Try.prog.cellsOf 25)) = xs[2]? := hfl 2 _ rfl
  rw [List.getElem?_eq_getElem (by omega)] at f0 f1 f2
  rw [c3] at f0 f2
  rw [c4] at f1
  rw [← List.drop_zero (l := cs)]
  exact (BY.arr Try.underlying25 (by rw [List.length_take, List.length_drop]; omega) f0).step 0 3 ((BY.arr Try.underlying26 (by rw [List.length_take, List.length_drop]; omega) f1).step 3 4 ((BY.arr Try.underlying25 (by rw [List.length_take, List.length_drop]; omega) f2).step 7 3 (BY.end 10 hl)))
theorem BY.key (hl : cs.length = 25) (hy : DataW.trod ench Try.prog w base (fun _ => true) held n 30 cs = some y) : BY cs := by
  obtain ⟨xs, n', _, _, _, hxl, hfl⟩ := DataW.trod_struct Try.underlying30 hy
  have hx5 : xs.length = 5 := hxl
  have c1 : Try.prog.cellsOf 5 = 1 := by kernel_rfl
  have c12 : Try.prog.cellsOf 24 = 12 := by kernel_rfl
  have c10 : Try.prog.cellsOf 28 = 10 := by kernel_rfl
  have f0 : DataW.trod ench Try.prog w base (fun _ => true) held n' 5 ((cs.drop 0).take (Try.prog.cellsOf 5)) = xs[0]? := hfl 0 _ rfl
  have f1 : DataW.trod ench Try.prog w base (fun _ => true) held n' 5 ((cs.drop 1).take (Try.prog.cellsOf 5)) = xs[1]? := hfl 1 _ rfl
  have f2 : DataW.trod ench Try.prog w base (fun _ => true) held n' 5 ((cs.drop 2).take (Try.prog.cellsOf 5)) = xs[2]? := hfl 2 _ rfl
  have f3 : DataW.trod ench Try.prog w base (fun _ => true) held n' 24 ((cs.drop 3).take (Try.prog.cellsOf 24)) = xs[3]? := hfl 3 _ rfl
  have f4 : DataW.trod ench Try.prog w base (fun _ => true) held n' 28 ((cs.drop 15).take (Try.prog.cellsOf 28)) = xs[4]? := hfl 4 _ rfl
  rw [List.getElem?_eq_getElem (by omega)] at f0 f1 f2 f3 f4
  rw [c1] at f0 f1 f2
  rw [c12] at f3
  rw [c10] at f4
  rw [← List.drop_zero (l := cs)]
  exact (BY.byte f0).step 0 1 ((BY.byte f1).step 1 1 ((BY.byte f2).step 2 1 ((BY.arr Try.underlying24 (by rw [List.length_take, List.length_drop]; omega) f3).step 3 12 ((BY.tag (by rw [List.length_take, List.length_drop]; omega) f4).step 15 10 (BY.end 25 hl)))))
theorem dec_key (hl : cs.length = 25) (hy : DataW.trod ench Try.prog w base (fun _ => true) held n 30 cs = some y) : ∃ l : List UInt8, l.length = 25 ∧ cs = (bC l).toList := (BY.key hl hy).list 25 hl
theorem dec_pre (hl : cs.length = 26) (hy : DataW.trod ench Try.prog w base (fun _ => true) held n 32 cs = some y) : ∃ (k : List UInt8) (d : Int), k.length = 25 ∧ cs = pC k d := by
  obtain ⟨xs, n', _, _, _, hxl, hfl⟩ := DataW.trod_struct Try.underlying32 hy
  have hx2 : xs.length = 2 := hxl
  have c1 : Try.prog.cellsOf 3 = 1 := by kernel_rfl
  have c25 : Try.prog.cellsOf 30 = 25 := by kernel_rfl
  have f0 : DataW.trod ench Try.prog w base (fun _ => true) held n' 30 ((cs.drop 0).take (Try.prog.cellsOf 30)) = xs[0]? := hfl 0 _ rfl
  have f1 : DataW.trod ench Try.prog w base (fun _ => true) held n' 3 ((cs.drop 25).take (Try.prog.cellsOf 3)) = xs[1]? := hfl 1 _ rfl
  rw [List.getElem?_eq_getElem (by omega)] at f0 f1
  rw [c25, List.drop_zero] at f0
  rw [c1, List.take_of_length_le (by rw [List.length_drop]; omega)] at f1
  obtain ⟨k, hk, e0⟩ := dec_key (by rw [List.length_take]; omega) f0
  obtain ⟨d, e1, _⟩ := DataW.trod_int Try.underlying3 f1
  exact ⟨k, d, hk, by rw [← List.take_append_drop 25 cs, e0, e1]; rfl⟩
theorem dec_rec (hl : cs.length = 9) (hy : DataW.trod ench Try.prog w base (fun _ => true) held n 56 cs = some y) : cs.all (·.oneCell') = true ∧ ∃ s, cs[8]? = some (.string s) := by
  obtain ⟨xs, n', _, _, _, hxl, hfl⟩ := DataW.trod_struct Try.underlying56 hy
  have hx9 : xs.length = 9 := hxl
  have c1 : Try.prog.cellsOf 5 = 1 := by kernel_rfl
  have cb : Try.prog.cellsOf 4 = 1 := by kernel_rfl
  have c32 : Try.prog.cellsOf 54 = 1 := by kernel_rfl
  have c64 : Try.prog.cellsOf 33 = 1 := by kernel_rfl
  have cs1 : Try.prog.cellsOf 9 = 1 := by kernel_rfl
  have f0 : DataW.trod ench Try.prog w base (fun _ => true) held n' 5 ((cs.drop 0).take (Try.prog.cellsOf 5)) = xs[0]? := hfl 0 _ rfl
  have f1 : DataW.trod ench Try.prog w base (fun _ => true) held n' 5 ((cs.drop 1).take (Try.prog.cellsOf 5)) = xs[1]? := hfl 1 _ rfl
  have f2 : DataW.trod ench Try.prog w base (fun _ => true) held n' 5 ((cs.drop 2).take (Try.prog.cellsOf 5)) = xs[2]? := hfl 2 _ rfl
  have f3 : DataW.trod ench Try.prog w base (fun _ => true) held n' 5 ((cs.drop 3).take (Try.prog.cellsOf 5)) = xs[3]? := hfl 3 _ rfl
  have f4 : DataW.trod ench Try.prog w base (fun _ => true) held n' 5 ((cs.drop 4).take (Try.prog.cellsOf 5)) = xs[4]? := hfl 4 _ rfl
  have f5 : DataW.trod ench Try.prog w base (fun _ => true) held n' 4 ((cs.drop 5).take (Try.prog.cellsOf 4)) = xs[5]? := hfl 5 _ rfl
  have f6 : DataW.trod ench Try.prog w base (fun _ => true) held n' 54 ((cs.drop 6).take (Try.prog.cellsOf 54)) = xs[6]? := hfl 6 _ rfl
  have f7 : DataW.trod ench Try.prog w base (fun _ => true) held n' 33 ((cs.drop 7).take (Try.prog.cellsOf 33)) = xs[7]? := hfl 7 _ rfl
  have f8 : DataW.trod ench Try.prog w base (fun _ => true) held n' 9 ((cs.drop 8).take (Try.prog.cellsOf 9)) = xs[8]? := hfl 8 _ rfl
  rw [List.getElem?_eq_getElem (by omega)] at f0 f1 f2 f3 f4 f5 f6 f7 f8
  match cs, hl with
  | [v0, v1, v2, v3, v4, v5, v6, v7, v8], _ =>
    rw [c1] at f0 f1 f2 f3 f4
    rw [cb] at f5
    rw [c32] at f6
    rw [c64] at f7
    rw [cs1] at f8
    simp only [List.drop_zero, List.drop_succ_cons, List.take_succ_cons, List.take_zero] at f0 f1 f2 f3 f4 f5 f6 f7 f8
    obtain ⟨x0, e0, _⟩ := DataW.trod_int Try.underlying5 f0
    obtain ⟨x1, e1, _⟩ := DataW.trod_int Try.underlying5 f1
    obtain ⟨x2, e2, _⟩ := DataW.trod_int Try.underlying5 f2
    obtain ⟨x3, e3, _⟩ := DataW.trod_int Try.underlying5 f3
    obtain ⟨x4, e4, _⟩ := DataW.trod_int Try.underlying5 f4
    obtain ⟨x5, e5, _⟩ := DataW.trod_bool Try.underlying4 f5
    obtain ⟨x6, e6, _⟩ := DataW.trod_int Try.underlying54 f6
    obtain ⟨x7, e7, _⟩ := DataW.trod_int Try.underlying33 f7
    obtain ⟨x8, e8, _⟩ := DataW.trod_string Try.underlying9 f8
    simp only [List.cons.injEq, and_true] at e0 e1 e2 e3 e4 e5 e6 e7 e8
    subst e0 e1 e2 e3 e4 e5 e6 e7 e8
    exact ⟨rfl, x8, rfl⟩
theorem dec_wr (hl : cs.length = 35) (hy : DataW.trod ench Try.prog w base (fun _ => true) held n 58 cs = some y) : ∃ x : Wr, cs = wrC x ∧ ∃ s, x.rest[8]? = some (.string s) := by
  obtain ⟨xs, n', _, _, _, hxl, hfl⟩ := DataW.trod_struct Try.underlying58 hy
  have hx3 : xs.length = 3 := hxl
  have c25 : Try.prog.cellsOf 30 = 25 := by kernel_rfl
  have cb : Try.prog.cellsOf 4 = 1 := by kernel_rfl
  have c9 : Try.prog.cellsOf 56 = 9 := by kernel_rfl
  have f0 : DataW.trod ench Try.prog w base (fun _ => true) held n' 30 ((cs.drop 0).take (Try.prog.cellsOf 30)) = xs[0]? := hfl 0 _ rfl
  have f1 : DataW.trod ench Try.prog w base (fun _ => true) held n' 4 ((cs.drop 25).take (Try.prog.cellsOf 4)) = xs[1]? := hfl 1 _ rfl
  have f2 : DataW.trod ench Try.prog w base (fun _ => true) held n' 56 ((cs.drop 26).take (Try.prog.cellsOf 56)) = xs[2]? := hfl 2 _ rfl
  rw [List.getElem?_eq_getElem (by omega)] at f0 f1 f2
  rw [c25, List.drop_zero] at f0
  rw [cb] at f1
  rw [c9, List.take_of_length_le (by rw [List.length_drop]; omega)] at f2
  obtain ⟨k, hk, e0⟩ := dec_key (by rw [List.length_take]; omega) f0
  obtain ⟨d, e1, _⟩ := DataW.trod_bool Try.underlying4 f1
  obtain ⟨g1, g2⟩ := dec_rec (by rw [List.length_drop]; omega) f2
  refine ⟨⟨k, d, cs.drop 26, hk, by rw [List.length_drop]; omega, g1⟩, ?_, g2⟩
  have e2 : cs.drop 25 = .bool d :: cs.drop 26 := by rw [← List.take_append_drop 1 (cs.drop 25), e1, List.drop_drop]; rfl
  show cs = (bC k).toList ++ (.bool d :: cs.drop 26)
  rw [← e2, ← e0, List.take_append_drop]
end
end Go.Proofs.Ytnafcbmpjjlhnaa
