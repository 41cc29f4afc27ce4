/- How keys, orders, replies, records and writes come in. -/
import Derived.Test.YthimpgnagjgmdaaP4
import Derived.Test.YthimpgnagjgmdaaG3
namespace Go.Proofs.Ythimpgnagjgmdaa
open Go.ChangeShapes Go.WideShapes Go.ChangeAt Go.RowKit Go.Deep

/-- Cells that are bytes. -/
def BY (cs : List Value) : Prop := ∃ l : List UInt8, cs = (bC l).toList
theorem BY.nil : BY [] := ⟨[], rfl⟩
theorem BY.app {a b : List Value} (h : BY a) (k : BY b) : BY (a ++ b) := by
  obtain ⟨x, rfl⟩ := h
  obtain ⟨y, rfl⟩ := k
  exact ⟨x ++ y, by simp [bC]⟩
theorem BY.step {cs : List Value} (o k : Nat) (h : BY ((cs.drop o).take k)) (h' : BY (cs.drop (o + k))) : BY (cs.drop o) := by
  have := h.app h'
  rwa [← List.drop_drop, List.take_append_drop] at this
theorem BY.end {cs : List Value} (n : Nat) (h : cs.length = n) : BY (cs.drop n) := by rw [List.drop_eq_nil_of_le (by omega)]; exact BY.nil
section
variable {H : Type} {ench : TypeId × Value → H} {w : World} {base : Nat} {held : Bool} {n : Nat} {cs : List Value} {y : DataW H × List MemPlace}
theorem BY.byte (hy : DataW.trod ench Try.prog w base (fun _ => true) held n 5 cs = some y) : BY cs := by
  obtain ⟨z, rfl, _, wz⟩ := DataW.trod_int Try.underlying5 hy
  have hz : 0 ≤ z ∧ z ≤ 255 := by
    simpa [Lit.wf, show IntKind.u8.min = 0 from rfl, show IntKind.u8.max = 255 from rfl] using wz
  exact ⟨[UInt8.ofNat z.toNat], by simp [bC]; omega⟩
theorem BY.arr {t : TypeId} {k : Nat} (ht : Try.prog.underlying t = some (.array k 5)) (hl : cs.length = k) (hy : DataW.trod ench Try.prog w base (fun _ => true) held n t cs = some y) : BY cs := by
  obtain ⟨l, _, e⟩ := bytes_of_trod ht Try.underlying5 (by kernel_rfl) hl hy
  exact ⟨l, e⟩
theorem BY.list (h : BY cs) (k : Nat) (hk : cs.length = k) : ∃ l : List UInt8, l.length = k ∧ cs = (bC l).toList := by
  obtain ⟨l, rfl⟩ := h
  exact ⟨l, by simpa [bC] using hk, rfl⟩
theorem BY.tag (hl : cs.length = 10) (hy : DataW.trod ench Try.prog w base (fun _ => true) held n 33 cs = some y) : BY cs := by
  obtain ⟨xs, n', _, _, _, hxl, hfl⟩ := DataW.trod_struct Try.underlying33 hy
  have hx3 : xs.length = 3 := hxl
  have c3 : Try.prog.cellsOf 30 = 3 := by kernel_rfl
  have c4 : Try.prog.cellsOf 31 = 4 := by kernel_rfl
  have f0 : DataW.trod ench Try.prog w base (fun _ => true) held n' 30 ((cs.drop 0).take (Try.prog.cellsOf 30)) = xs[0]? := hfl 0 _ rfl
  have f1 : DataW.trod ench Try.prog w base (fun _ => true) held n' 31 ((cs.drop 3).take (Try.prog.cellsOf 31)) = xs[1]? := hfl 1 _ rfl
  have f2 : DataW.trod ench Try.prog w base (fun _ => true) held n' 30 ((cs.drop 7).take (Try.prog.cellsOf 30)) = xs[2]? := hfl 2 _ rfl
  rw [List.getElem?_eq_getElem (by omega)] at f0 f1 f2
  rw [c3] at f0 f2
  rw [c4] at f1
  rw [← List.drop_zero (l := cs)]
  exact (BY.arr Try.underlying30 (by rw [List.length_take, List.length_drop]; omega) f0).step 0 3 ((BY.arr Try.underlying31 (by rw [List.length_take, List.length_drop]; omega) f1).step 3 4 ((BY.arr Try.underlying30 (by rw [List.length_take, List.length_drop]; omega) f2).step 7 3 (BY.end 10 hl)))
theorem BY.key (hl : cs.length = 25) (hy : DataW.trod ench Try.prog w base (fun _ => true) held n 73 cs = some y) : BY cs := by
  obtain ⟨xs, n', _, _, _, hxl, hfl⟩ := DataW.trod_struct Try.underlying73 hy
  have hx5 : xs.length = 5 := hxl
  have c1 : Try.prog.cellsOf 5 = 1 := by kernel_rfl
  have c12 : Try.prog.cellsOf 29 = 12 := by kernel_rfl
  have c10 : Try.prog.cellsOf 33 = 10 := by kernel_rfl
  have f0 : DataW.trod ench Try.prog w base (fun _ => true) held n' 5 ((cs.drop 0).take (Try.prog.cellsOf 5)) = xs[0]? := hfl 0 _ rfl
  have f1 : DataW.trod ench Try.prog w base (fun _ => true) held n' 5 ((cs.drop 1).take (Try.prog.cellsOf 5)) = xs[1]? := hfl 1 _ rfl
  have f2 : DataW.trod ench Try.prog w base (fun _ => true) held n' 5 ((cs.drop 2).take (Try.prog.cellsOf 5)) = xs[2]? := hfl 2 _ rfl
  have f3 : DataW.trod ench Try.prog w base (fun _ => true) held n' 29 ((cs.drop 3).take (Try.prog.cellsOf 29)) = xs[3]? := hfl 3 _ rfl
  have f4 : DataW.trod ench Try.prog w base (fun _ => true) held n' 33 ((cs.drop 15).take (Try.prog.cellsOf 33)) = xs[4]? := hfl 4 _ rfl
  rw [List.getElem?_eq_getElem (by omega)] at f0 f1 f2 f3 f4
  rw [c1] at f0 f1 f2
  rw [c12] at f3
  rw [c10] at f4
  rw [← List.drop_zero (l := cs)]
  exact (BY.byte f0).step 0 1 ((BY.byte f1).step 1 1 ((BY.byte f2).step 2 1 ((BY.arr Try.underlying29 (by rw [List.length_take, List.length_drop]; omega) f3).step 3 12 ((BY.tag (by rw [List.length_take, List.length_drop]; omega) f4).step 15 10 (BY.end 25 hl)))))
theorem key_of (l : List UInt8) (h : l.length = 25) : ∃ k : K5, k.ok ∧ k.bytes = l := by
  match l, h with
  | a :: b :: c :: r, h =>
    have hr : r.length = 22 := by simpa using h
    exact ⟨⟨a, b, c, r.take 12, r.drop 12⟩, ⟨by simp [hr], by simp [hr]⟩, by simp [K5.bytes]⟩
theorem byte_of {x : Int} (wz : (Lit.int IntKind.u8 x).wf = true) : ∃ b : UInt8, x = (b.toNat : Int) := by
  have hz : 0 ≤ x ∧ x ≤ 255 := by
    simpa [Lit.wf, show IntKind.u8.min = 0 from rfl, show IntKind.u8.max = 255 from rfl] using wz
  exact ⟨UInt8.ofNat x.toNat, by simp; omega⟩
theorem u32_of {x : Int} (wz : (Lit.int IntKind.u32 x).wf = true) : ∃ b : UInt32, x = (b.toNat : Int) := by
  have hz : 0 ≤ x ∧ x ≤ 4294967295 := by
    simpa [Lit.wf, show IntKind.u32.min = 0 from rfl, show IntKind.u32.max = 4294967295 from rfl] using wz
  exact ⟨UInt32.ofNat x.toNat, by simp; omega⟩
theorem dec_key (hl : cs.length = 25) (hy : DataW.trod ench Try.prog w base (fun _ => true) held n 73 cs = some y) : ∃ k : K5, k.ok ∧ cs = (kC k).toList := by
  obtain ⟨l, h1, h2⟩ := (BY.key hl hy).list 25 hl
  obtain ⟨k, hk, hb⟩ := key_of l h1
  exact ⟨k, hk, by rw [h2, kC, hb]⟩
theorem dec_rec (hl : cs.length = 9) (hy : DataW.trod ench Try.prog w base (fun _ => true) held n 76 cs = some y) : ∃ r : RcD, cs = rcC r := by
  obtain ⟨xs, n', _, _, _, hxl, hfl⟩ := DataW.trod_struct Try.underlying76 hy
  have hx9 : xs.length = 9 := hxl
  have c1 : Try.prog.cellsOf 5 = 1 := by kernel_rfl
  have cb : Try.prog.cellsOf 4 = 1 := by kernel_rfl
  have c32 : Try.prog.cellsOf 74 = 1 := by kernel_rfl
  have c64 : Try.prog.cellsOf 37 = 1 := by kernel_rfl
  have cs1 : Try.prog.cellsOf 9 = 1 := by kernel_rfl
  have f0 : DataW.trod ench Try.prog w base (fun _ => true) held n' 5 ((cs.drop 0).take (Try.prog.cellsOf 5)) = xs[0]? := hfl 0 _ rfl
  have f1 : DataW.trod ench Try.prog w base (fun _ => true) held n' 5 ((cs.drop 1).take (Try.prog.cellsOf 5)) = xs[1]? := hfl 1 _ rfl
  have f2 : DataW.trod ench Try.prog w base (fun _ => true) held n' 5 ((cs.drop 2).take (Try.prog.cellsOf 5)) = xs[2]? := hfl 2 _ rfl
  have f3 : DataW.trod ench Try.prog w base (fun _ => true) held n' 5 ((cs.drop 3).take (Try.prog.cellsOf 5)) = xs[3]? := hfl 3 _ rfl
  have f4 : DataW.trod ench Try.prog w base (fun _ => true) held n' 5 ((cs.drop 4).take (Try.prog.cellsOf 5)) = xs[4]? := hfl 4 _ rfl
  have f5 : DataW.trod ench Try.prog w base (fun _ => true) held n' 4 ((cs.drop 5).take (Try.prog.cellsOf 4)) = xs[5]? := hfl 5 _ rfl
  have f6 : DataW.trod ench Try.prog w base (fun _ => true) held n' 74 ((cs.drop 6).take (Try.prog.cellsOf 74)) = xs[6]? := hfl 6 _ rfl
  have f7 : DataW.trod ench Try.prog w base (fun _ => true) held n' 37 ((cs.drop 7).take (Try.prog.cellsOf 37)) = xs[7]? := hfl 7 _ rfl
  have f8 : DataW.trod ench Try.prog w base (fun _ => true) held n' 9 ((cs.drop 8).take (Try.prog.cellsOf 9)) = xs[8]? := hfl 8 _ rfl
  rw [List.getElem?_eq_getElem (by omega)] at f0 f1 f2 f3 f4 f5 f6 f7 f8
  match cs, hl with
  | [v0, v1, v2, v3, v4, v5, v6, v7, v8], _ =>
    rw [c1] at f0 f1 f2 f3 f4
    rw [cb] at f5
    rw [c32] at f6
    rw [c64] at f7
    rw [cs1] at f8
    simp only [List.drop_zero, List.drop_succ_cons, List.take_succ_cons, List.take_zero] at f0 f1 f2 f3 f4 f5 f6 f7 f8
    obtain ⟨x0, e0, _, w0⟩ := DataW.trod_int Try.underlying5 f0
    obtain ⟨b0, rfl⟩ := byte_of w0
    obtain ⟨x1, e1, _, w1⟩ := DataW.trod_int Try.underlying5 f1
    obtain ⟨b1, rfl⟩ := byte_of w1
    obtain ⟨x2, e2, _, w2⟩ := DataW.trod_int Try.underlying5 f2
    obtain ⟨b2, rfl⟩ := byte_of w2
    obtain ⟨x3, e3, _, w3⟩ := DataW.trod_int Try.underlying5 f3
    obtain ⟨b3, rfl⟩ := byte_of w3
    obtain ⟨x4, e4, _, w4⟩ := DataW.trod_int Try.underlying5 f4
    obtain ⟨b4, rfl⟩ := byte_of w4
    obtain ⟨x5, e5, _⟩ := DataW.trod_bool Try.underlying4 f5
    obtain ⟨x6, e6, _, w6⟩ := DataW.trod_int Try.underlying74 f6
    obtain ⟨b6, rfl⟩ := u32_of w6
    obtain ⟨x7, e7, _⟩ := DataW.trod_int Try.underlying37 f7
    obtain ⟨x8, e8, _⟩ := DataW.trod_string Try.underlying9 f8
    simp only [List.cons.injEq, and_true] at e0 e1 e2 e3 e4 e5 e6 e7 e8
    subst e0 e1 e2 e3 e4 e5 e6 e7 e8
    exact ⟨⟨b0, b1, b2, b3, b4, x5, b6, x7, x8⟩, rfl⟩
theorem dec_wr (hl : cs.length = 35) (hy : DataW.trod ench Try.prog w base (fun _ => true) held n 78 cs = some y) : ∃ x : WrD, cs = wrC x := by
  obtain ⟨xs, n', _, _, _, hxl, hfl⟩ := DataW.trod_struct Try.underlying78 hy
  have hx3 : xs.length = 3 := hxl
  have c25 : Try.prog.cellsOf 73 = 25 := by kernel_rfl
  have cb : Try.prog.cellsOf 4 = 1 := by kernel_rfl
  have c9 : Try.prog.cellsOf 76 = 9 := by kernel_rfl
  have f0 : DataW.trod ench Try.prog w base (fun _ => true) held n' 73 ((cs.drop 0).take (Try.prog.cellsOf 73)) = xs[0]? := hfl 0 _ rfl
  have f1 : DataW.trod ench Try.prog w base (fun _ => true) held n' 4 ((cs.drop 25).take (Try.prog.cellsOf 4)) = xs[1]? := hfl 1 _ rfl
  have f2 : DataW.trod ench Try.prog w base (fun _ => true) held n' 76 ((cs.drop 26).take (Try.prog.cellsOf 76)) = xs[2]? := hfl 2 _ rfl
  rw [List.getElem?_eq_getElem (by omega)] at f0 f1 f2
  rw [c25, List.drop_zero] at f0
  rw [cb] at f1
  rw [c9, List.take_of_length_le (by rw [List.length_drop]; omega)] at f2
  obtain ⟨k, hk, e0⟩ := dec_key (by rw [List.length_take]; omega) f0
  obtain ⟨d, e1, _⟩ := DataW.trod_bool Try.underlying4 f1
  obtain ⟨r, e3⟩ := dec_rec (by rw [List.length_drop]; omega) f2
  refine ⟨⟨k, d, r, hk⟩, ?_⟩
  have e2 : cs.drop 25 = .bool d :: cs.drop 26 := by rw [← List.take_append_drop 1 (cs.drop 25), e1, List.drop_drop]; rfl
  show cs = (kC k).toList ++ (.bool d :: rcC r)
  rw [← e3, ← e2, ← e0, List.take_append_drop]
theorem dec_op (hl : cs.length = 30) (hy : DataW.trod ench Try.prog w base (fun _ => true) held n 35 cs = some y) : ∃ x : OpD, cs = opC x := by
  obtain ⟨xs, n', _, _, _, hxl, hfl⟩ := DataW.trod_struct Try.underlying35 hy
  have hx10 : xs.length = 10 := hxl
  have ci : Try.prog.cellsOf 3 = 1 := by kernel_rfl
  have cn : Try.prog.cellsOf 29 = 12 := by kernel_rfl
  have ct : Try.prog.cellsOf 33 = 10 := by kernel_rfl
  have cs1 : Try.prog.cellsOf 9 = 1 := by kernel_rfl
  have f0 : DataW.trod ench Try.prog w base (fun _ => true) held n' 3 ((cs.drop 0).take (Try.prog.cellsOf 3)) = xs[0]? := hfl 0 _ rfl
  have f1 : DataW.trod ench Try.prog w base (fun _ => true) held n' 3 ((cs.drop 1).take (Try.prog.cellsOf 3)) = xs[1]? := hfl 1 _ rfl
  have f2 : DataW.trod ench Try.prog w base (fun _ => true) held n' 3 ((cs.drop 2).take (Try.prog.cellsOf 3)) = xs[2]? := hfl 2 _ rfl
  have f3 : DataW.trod ench Try.prog w base (fun _ => true) held n' 3 ((cs.drop 3).take (Try.prog.cellsOf 3)) = xs[3]? := hfl 3 _ rfl
  have f4 : DataW.trod ench Try.prog w base (fun _ => true) held n' 3 ((cs.drop 4).take (Try.prog.cellsOf 3)) = xs[4]? := hfl 4 _ rfl
  have f5 : DataW.trod ench Try.prog w base (fun _ => true) held n' 3 ((cs.drop 5).take (Try.prog.cellsOf 3)) = xs[5]? := hfl 5 _ rfl
  have f6 : DataW.trod ench Try.prog w base (fun _ => true) held n' 3 ((cs.drop 6).take (Try.prog.cellsOf 3)) = xs[6]? := hfl 6 _ rfl
  have f7 : DataW.trod ench Try.prog w base (fun _ => true) held n' 29 ((cs.drop 7).take (Try.prog.cellsOf 29)) = xs[7]? := hfl 7 _ rfl
  have f8 : DataW.trod ench Try.prog w base (fun _ => true) held n' 33 ((cs.drop 19).take (Try.prog.cellsOf 33)) = xs[8]? := hfl 8 _ rfl
  have f9 : DataW.trod ench Try.prog w base (fun _ => true) held n' 9 ((cs.drop 29).take (Try.prog.cellsOf 9)) = xs[9]? := hfl 9 _ rfl
  rw [List.getElem?_eq_getElem (by omega)] at f0 f1 f2 f3 f4 f5 f6 f7 f8 f9
  rw [ci] at f0 f1 f2 f3 f4 f5 f6
  rw [cn] at f7
  rw [ct] at f8
  rw [cs1] at f9
  obtain ⟨x0, e0, _⟩ := DataW.trod_int Try.underlying3 f0
  obtain ⟨x1, e1, _⟩ := DataW.trod_int Try.underlying3 f1
  obtain ⟨x2, e2, _⟩ := DataW.trod_int Try.underlying3 f2
  obtain ⟨x3, e3, _⟩ := DataW.trod_int Try.underlying3 f3
  obtain ⟨x4, e4, _⟩ := DataW.trod_int Try.underlying3 f4
  obtain ⟨x5, e5, _⟩ := DataW.trod_int Try.underlying3 f5
  obtain ⟨x6, e6, _⟩ := DataW.trod_int Try.underlying3 f6
  obtain ⟨nm, hnm, e7⟩ := bytes_of_trod Try.underlying29 Try.underlying5 (by kernel_rfl) (by rw [List.length_take, List.length_drop]; omega) f7
  obtain ⟨tg, htg, e8⟩ := (BY.tag (by rw [List.length_take, List.length_drop]; omega) f8).list 10 (by rw [List.length_take, List.length_drop]; omega)
  obtain ⟨tx, e9, _⟩ := DataW.trod_string Try.underlying9 f9
  refine ⟨⟨x0, x1, x2, x3, x4, x5, x6, nm, tg, tx, hnm, htg⟩, ?_⟩
  have st : ∀ (o k : Nat) (A B : List Value), (cs.drop o).take k = A → cs.drop (o + k) = B → cs.drop o = A ++ B := fun o k A B h1 h2 => by
    rw [← h1, ← h2, ← List.drop_drop, List.take_append_drop]
  have h30 : cs.drop 30 = [] := List.drop_eq_nil_of_le (by omega)
  have h := st 0 1 _ _ e0 (st 1 1 _ _ e1 (st 2 1 _ _ e2 (st 3 1 _ _ e3 (st 4 1 _ _ e4 (st 5 1 _ _ e5 (st 6 1 _ _ e6 (st 7 12 _ _ e7 (st 19 10 _ _ e8 (st 29 1 _ _ e9 h30)))))))))
  rw [List.drop_zero] at h
  rw [h]
  rfl
theorem dec_rp (hl : cs.length = 14) (hy : DataW.trod ench Try.prog w base (fun _ => true) held n 40 cs = some y) : ∃ x : RpD, cs = rpC x := by
  obtain ⟨xs, n', _, _, _, hxl, hfl⟩ := DataW.trod_struct Try.underlying40 hy
  have hx5 : xs.length = 5 := hxl
  have ci : Try.prog.cellsOf 3 = 1 := by kernel_rfl
  have ce : Try.prog.cellsOf 38 = 1 := by kernel_rfl
  have ct : Try.prog.cellsOf 33 = 10 := by kernel_rfl
  have cs1 : Try.prog.cellsOf 9 = 1 := by kernel_rfl
  have f0 : DataW.trod ench Try.prog w base (fun _ => true) held n' 38 ((cs.drop 0).take (Try.prog.cellsOf 38)) = xs[0]? := hfl 0 _ rfl
  have f1 : DataW.trod ench Try.prog w base (fun _ => true) held n' 9 ((cs.drop 1).take (Try.prog.cellsOf 9)) = xs[1]? := hfl 1 _ rfl
  have f2 : DataW.trod ench Try.prog w base (fun _ => true) held n' 33 ((cs.drop 2).take (Try.prog.cellsOf 33)) = xs[2]? := hfl 2 _ rfl
  have f3 : DataW.trod ench Try.prog w base (fun _ => true) held n' 3 ((cs.drop 12).take (Try.prog.cellsOf 3)) = xs[3]? := hfl 3 _ rfl
  have f4 : DataW.trod ench Try.prog w base (fun _ => true) held n' 3 ((cs.drop 13).take (Try.prog.cellsOf 3)) = xs[4]? := hfl 4 _ rfl
  rw [List.getElem?_eq_getElem (by omega)] at f0 f1 f2 f3 f4
  rw [ce] at f0
  rw [cs1] at f1
  rw [ct] at f2
  rw [ci] at f3 f4
  obtain ⟨x0, e0, _⟩ := DataW.trod_int Try.underlying38 f0
  obtain ⟨tx, e1, _⟩ := DataW.trod_string Try.underlying9 f1
  obtain ⟨tg, htg, e2⟩ := (BY.tag (by rw [List.length_take, List.length_drop]; omega) f2).list 10 (by rw [List.length_take, List.length_drop]; omega)
  obtain ⟨x3, e3, _⟩ := DataW.trod_int Try.underlying3 f3
  obtain ⟨x4, e4, _⟩ := DataW.trod_int Try.underlying3 f4
  refine ⟨⟨x0, tx, tg, x3, x4, htg⟩, ?_⟩
  have st : ∀ (o k : Nat) (A B : List Value), (cs.drop o).take k = A → cs.drop (o + k) = B → cs.drop o = A ++ B := fun o k A B h1 h2 => by
    rw [← h1, ← h2, ← List.drop_drop, List.take_append_drop]
  have h14 : cs.drop 14 = [] := List.drop_eq_nil_of_le (by omega)
  have h := st 0 1 _ _ e0 (st 1 1 _ _ e1 (st 2 10 _ _ e2 (st 12 1 _ _ e3 (st 13 1 _ _ e4 h14))))
  rw [List.drop_zero] at h
  rw [h]
  rfl
end
theorem open_rowsC {H : Type} {ench : TypeId × Value → H} {P : Program} {w : World} {base : Nat} {spare : Nat → Bool} {held : Bool} {fuel : Nat} {cs : List Value} {y : DataW H × List MemPlace} {T E : TypeId} {α : Type} {enc : α → List Value} {k : Nat} {φ : α → Prop}
    (hT : P.underlying T = some (.slice E)) (hC : P.cellsOf E = k) (hk : 0 < k)
    (dec : ∀ n cs y, DataW.trod ench P w base spare held n E cs = some y → cs.length = k → ∃ x : α, cs = enc x ∧ φ x)
    (hf : DataW.trod ench P w base spare held fuel T cs = some y) :
    ∃ (q : Option Addr) (xs : List α) (cap : Nat), cs = [.slice q xs.length cap] ∧ xs.length ≤ cap ∧ cap ≤ maxLen ∧ SlAt enc k w q xs ∧ (∀ x ∈ xs, φ x) ∧ (q = none → xs.length = 0 ∧ cap = 0) := by
  rcases open_slice hT hf with ⟨rfl, _⟩ | ⟨a, len, cap, m, n, D, Pl, rfl, hb, hl, hm, hmm, hx, hi⟩
  · exact ⟨none, [], 0, rfl, Nat.le_refl _, by unfold maxLen; omega, SlAt.nil _ _, fun x hx => by simp at hx, fun _ => ⟨rfl, rfl⟩⟩
  · have hlm : len ≤ m := by rw [hmm]; split <;> omega
    rw [hC] at hi
    obtain ⟨xs, hxl, hxs⟩ := list_of_all (R := fun i (x : α) => φ x ∧ ∀ j u, (enc x)[j]? = some u → w.cell? (a.add (i * k + j)) = some u) len (fun i hil => by
      obtain ⟨cs', h1, h2⟩ := hi i (by omega)
      obtain ⟨_, hlen, hat⟩ := World.cells?_some h1
      obtain ⟨x, rfl, hφ⟩ := dec _ _ _ h2 hlen
      refine ⟨x, hφ, fun j u hu => ?_⟩
      have hj := (List.getElem?_eq_some_iff.1 hu).1
      rw [← add_addA, hat j (by omega), hu])
    refine ⟨some a, xs, cap, by rw [hxl], by omega, hm, fun i hil => ?_, fun x hx => ?_, fun h => by cases h⟩
    · obtain ⟨cs0, g1, g2⟩ := hi 0 (by omega)
      obtain ⟨_, hlen0, hat0⟩ := World.cells?_some g1
      have hu : w.cell? a = some (cs0[0]'(by omega)) := by
        have := hat0 0 (by omega)
        rw [add_addA, List.getElem?_eq_getElem (by omega)] at this
        simpa [Addr.add] using this
      obtain ⟨b, o, s⟩ := a
      obtain rfl : s = none := World.cell?_spot hu
      refine ⟨b, o, rfl, ?_, fun j u hju => ?_⟩
      · obtain ⟨c', e', fr', hbk, _⟩ := Go.Sort.cells_of_cell? hu
        exact lt_heap hbk
      · have := (hxs i hil).2 j u hju
        rw [Addr.add_mid] at this
        rw [Nat.add_assoc]; exact this
    · obtain ⟨i, hi', rfl⟩ := List.mem_iff_getElem.1 hx
      exact (hxs i hi').1
end Go.Proofs.Ythimpgnagjgmdaa
