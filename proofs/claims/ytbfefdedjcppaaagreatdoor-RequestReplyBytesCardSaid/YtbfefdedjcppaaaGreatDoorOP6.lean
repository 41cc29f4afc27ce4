/- How replies and events come in. -/
import Derived.Test.YtbfefdedjcppaaaGreatDoorEL6
import Derived.Test.YtbfefdedjcppaaaGreatDoorTX5
import Derived.Test.YtbfefdedjcppaaaGreatDoorGX
namespace Go.Proofs.YtbfefdedjcppaaaGreatDoor
set_option maxRecDepth 100000
open Go.ChangeShapes Go.WideShapes Go.ChangeAt Go.RowKit Go.Deep
def BY (cs : List Value) : Prop := ∃ l : List UInt8, cs = (bC l).toList
theorem BY.nil : BY [] := ⟨[], rfl⟩
theorem BY.app {a b : List Value} (h : BY a) (k : BY b) : BY (a ++ b) := by
 obtain ⟨x, rfl⟩ := h
 obtain ⟨y, rfl⟩ := k
 exact ⟨x ++ y, by simp [bC]⟩
theorem BY.step {cs : List Value} (o k : Nat) (h : BY ((cs.drop o).take k)) (h' : BY (cs.drop (o + k))) : BY (cs.drop o) := by
 have := h.app h'
 rwa [← List.drop_drop, List.take_append_drop] at this
theorem BY.end {cs : List Value} (n : Nat) (h : cs.length = n) : BY (cs.drop n) := by rw [List.drop_eq_nil_of_le (by omega)]; exact BY.nil
section
variable {H : Type} {ench : TypeId × Value → H} {w : World} {base : Nat} {held : Bool} {n : Nat} {cs : List Value} {y : DataW H × List MemPlace}
theorem BY.byte (hy : DataW.trod ench Tryz.prog w base (fun _ => true) held n 5 cs = some y) : BY cs := by
 obtain ⟨z, rfl, _, wz⟩ := DataW.trod_int Tryz.underlying5 hy
 have hz : 0 ≤ z ∧ z ≤ 255 := by
   simpa [Lit.wf, show IntKind.u8.min = 0 from rfl, show IntKind.u8.max = 255 from rfl] using wz
 exact ⟨[UInt8.ofNat z.toNat], by simp [bC]; omega⟩
theorem BY.arr {t : TypeId} {k : Nat} (ht : Tryz.prog.underlying t = some (.array k 5)) (hl : cs.length = k) (hy : DataW.trod ench Tryz.prog w base (fun _ => true) held n t cs = some y) : BY cs := by
 obtain ⟨l, _, e⟩ := bytes_of_trod ht Tryz.underlying5 (by kernel_rfl) hl hy
 exact ⟨l, e⟩
theorem BY.list (h : BY cs) (k : Nat) (hk : cs.length = k) : ∃ l : List UInt8, l.length = k ∧ cs = (bC l).toList := by
 obtain ⟨l, rfl⟩ := h
 exact ⟨l, by simpa [bC] using hk, rfl⟩
theorem BY.tag (hl : cs.length = 10) (hy : DataW.trod ench Tryz.prog w base (fun _ => true) held n 28 cs = some y) : BY cs := by
 obtain ⟨xs, n', _, _, _, hxl, hfl⟩ := DataW.trod_struct Tryz.underlying28 hy
 have hx3 : xs.length = 3 := hxl
 have c3 : Tryz.prog.cellsOf 25 = 3 := by kernel_rfl
 have c4 : Tryz.prog.cellsOf 26 = 4 := by kernel_rfl
 have f0 : DataW.trod ench Tryz.prog w base (fun _ => true) held n' 25 ((cs.drop 0).take (Tryz.prog.cellsOf 25)) = xs[0]? := hfl 0 _ rfl
 have f1 : DataW.trod ench Tryz.prog w base (fun _ => true) held n' 26 ((cs.drop 3).take (Tryz.prog.cellsOf 26)) = xs[1]? := hfl 1 _ rfl
 have f2 : DataW.trod ench Tryz.prog w base (fun _ => true) held n' 25 ((cs.drop 7).take (Tryz.prog.cellsOf 25)) = xs[2]? := hfl 2 _ rfl
 rw [List.getElem?_eq_getElem (by omega)] at f0 f1 f2
 rw [c3] at f0 f2
 rw [c4] at f1
 rw [← List.drop_zero (l := cs)]
 exact (BY.arr Tryz.underlying25 (by rw [List.length_take, List.length_drop]; omega) f0).step 0 3 ((BY.arr Tryz.underlying26 (by rw [List.length_take, List.length_drop]; omega) f1).step 3 4 ((BY.arr Tryz.underlying25 (by rw [List.length_take, List.length_drop]; omega) f2).step 7 3 (BY.end 10 hl)))
theorem BY.key (hl : cs.length = 25) (hy : DataW.trod ench Tryz.prog w base (fun _ => true) held n 32 cs = some y) : BY cs := by
 obtain ⟨xs, n', _, _, _, hxl, hfl⟩ := DataW.trod_struct Tryz.underlying32 hy
 have hx5 : xs.length = 5 := hxl
 have c1 : Tryz.prog.cellsOf 5 = 1 := by kernel_rfl
 have c12 : Tryz.prog.cellsOf 24 = 12 := by kernel_rfl
 have c10 : Tryz.prog.cellsOf 28 = 10 := by kernel_rfl
 have f0 : DataW.trod ench Tryz.prog w base (fun _ => true) held n' 5 ((cs.drop 0).take (Tryz.prog.cellsOf 5)) = xs[0]? := hfl 0 _ rfl
 have f1 : DataW.trod ench Tryz.prog w base (fun _ => true) held n' 5 ((cs.drop 1).take (Tryz.prog.cellsOf 5)) = xs[1]? := hfl 1 _ rfl
 have f2 : DataW.trod ench Tryz.prog w base (fun _ => true) held n' 5 ((cs.drop 2).take (Tryz.prog.cellsOf 5)) = xs[2]? := hfl 2 _ rfl
 have f3 : DataW.trod ench Tryz.prog w base (fun _ => true) held n' 24 ((cs.drop 3).take (Tryz.prog.cellsOf 24)) = xs[3]? := hfl 3 _ rfl
 have f4 : DataW.trod ench Tryz.prog w base (fun _ => true) held n' 28 ((cs.drop 15).take (Tryz.prog.cellsOf 28)) = xs[4]? := hfl 4 _ rfl
 rw [List.getElem?_eq_getElem (by omega)] at f0 f1 f2 f3 f4
 rw [c1] at f0 f1 f2
 rw [c12] at f3
 rw [c10] at f4
 rw [← List.drop_zero (l := cs)]
 exact (BY.byte f0).step 0 1 ((BY.byte f1).step 1 1 ((BY.byte f2).step 2 1 ((BY.arr Tryz.underlying24 (by rw [List.length_take, List.length_drop]; omega) f3).step 3 12 ((BY.tag (by rw [List.length_take, List.length_drop]; omega) f4).step 15 10 (BY.end 25 hl)))))
theorem dec_rp (hl : cs.length = 14) (hy : DataW.trod ench Tryz.prog w base (fun _ => true) held n 56 cs = some y) : ∃ x : RpD, cs = rpC x := by
 obtain ⟨xs, n', _, _, _, hxl, hfl⟩ := DataW.trod_struct Tryz.underlying56 hy
 have hx5 : xs.length = 5 := hxl
 have ci : Tryz.prog.cellsOf 3 = 1 := by kernel_rfl
 have ce : Tryz.prog.cellsOf 37 = 1 := by kernel_rfl
 have ct : Tryz.prog.cellsOf 28 = 10 := by kernel_rfl
 have cs1 : Tryz.prog.cellsOf 9 = 1 := by kernel_rfl
 have f0 : DataW.trod ench Tryz.prog w base (fun _ => true) held n' 37 ((cs.drop 0).take (Tryz.prog.cellsOf 37)) = xs[0]? := hfl 0 _ rfl
 have f1 : DataW.trod ench Tryz.prog w base (fun _ => true) held n' 9 ((cs.drop 1).take (Tryz.prog.cellsOf 9)) = xs[1]? := hfl 1 _ rfl
 have f2 : DataW.trod ench Tryz.prog w base (fun _ => true) held n' 28 ((cs.drop 2).take (Tryz.prog.cellsOf 28)) = xs[2]? := hfl 2 _ rfl
 have f3 : DataW.trod ench Tryz.prog w base (fun _ => true) held n' 3 ((cs.drop 12).take (Tryz.prog.cellsOf 3)) = xs[3]? := hfl 3 _ rfl
 have f4 : DataW.trod ench Tryz.prog w base (fun _ => true) held n' 3 ((cs.drop 13).take (Tryz.prog.cellsOf 3)) = xs[4]? := hfl 4 _ rfl
 rw [List.getElem?_eq_getElem (by omega)] at f0 f1 f2 f3 f4
 rw [ce] at f0
 rw [cs1] at f1
 rw [ct] at f2
 rw [ci] at f3 f4
 obtain ⟨x0, e0, _⟩ := DataW.trod_int Tryz.underlying37 f0
 obtain ⟨tx, e1, _⟩ := DataW.trod_string Tryz.underlying9 f1
 obtain ⟨tg, htg, e2⟩ := (BY.tag (by rw [List.length_take, List.length_drop]; omega) f2).list 10 (by rw [List.length_take, List.length_drop]; omega)
 obtain ⟨x3, e3, _⟩ := DataW.trod_int Tryz.underlying3 f3
 obtain ⟨x4, e4, _⟩ := DataW.trod_int Tryz.underlying3 f4
 refine ⟨⟨x0, tx, tg, x3, x4, htg⟩, ?_⟩
 have st : ∀ (o k : Nat) (A B : List Value), (cs.drop o).take k = A → cs.drop (o + k) = B → cs.drop o = A ++ B := fun o k A B h1 h2 => by
   rw [← h1, ← h2, ← List.drop_drop, List.take_append_drop]
 have h14 : cs.drop 14 = [] := List.drop_eq_nil_of_le (by omega)
 have h := st 0 1 _ _ e0 (st 1 1 _ _ e1 (st 2 10 _ _ e2 (st 12 1 _ _ e3 (st 13 1 _ _ e4 h14))))
 rw [List.drop_zero] at h
 rw [h]
 rfl
theorem dec_ev (hl : cs.length = 28) (hy : DataW.trod ench Tryz.prog w base (fun _ => true) held n 62 cs = some y) : ∃ x : Ev, cs = evC x ∧ 0 ≤ x.at_ ∧ x.at_ < 2 ^ 64 := by
 obtain ⟨xs, n', _, _, _, hxl, hfl⟩ := DataW.trod_struct Tryz.underlying62 hy
 have hx4 : xs.length = 4 := hxl
 have c64 : Tryz.prog.cellsOf 60 = 1 := by kernel_rfl
 have ck : Tryz.prog.cellsOf 32 = 25 := by kernel_rfl
 have cb : Tryz.prog.cellsOf 4 = 1 := by kernel_rfl
 have f0 : DataW.trod ench Tryz.prog w base (fun _ => true) held n' 60 ((cs.drop 0).take (Tryz.prog.cellsOf 60)) = xs[0]? := hfl 0 _ rfl
 have f1 : DataW.trod ench Tryz.prog w base (fun _ => true) held n' 32 ((cs.drop 1).take (Tryz.prog.cellsOf 32)) = xs[1]? := hfl 1 _ rfl
 have f2 : DataW.trod ench Tryz.prog w base (fun _ => true) held n' 4 ((cs.drop 26).take (Tryz.prog.cellsOf 4)) = xs[2]? := hfl 2 _ rfl
 have f3 : DataW.trod ench Tryz.prog w base (fun _ => true) held n' 4 ((cs.drop 27).take (Tryz.prog.cellsOf 4)) = xs[3]? := hfl 3 _ rfl
 rw [List.getElem?_eq_getElem (by omega)] at f0 f1 f2 f3
 rw [c64] at f0
 rw [ck] at f1
 rw [cb] at f2 f3
 obtain ⟨x0, e0, _, w0⟩ := DataW.trod_int Tryz.underlying60 f0
 have hw0 : 0 ≤ x0 ∧ x0 < 2 ^ 64 := by
   have : 0 ≤ x0 ∧ x0 ≤ 18446744073709551615 := by simpa [Lit.wf, show IntKind.u64.min = 0 from rfl, show IntKind.u64.max = 18446744073709551615 from rfl] using w0
   omega
 obtain ⟨k, hk, e1⟩ := (BY.key (by rw [List.length_take, List.length_drop]; omega) f1).list 25 (by rw [List.length_take, List.length_drop]; omega)
 obtain ⟨d, e2, _⟩ := DataW.trod_bool Tryz.underlying4 f2
 obtain ⟨m, e3, _⟩ := DataW.trod_bool Tryz.underlying4 f3
 refine ⟨⟨x0, k, d, m, hk⟩, ?_, hw0⟩
 have st : ∀ (o k : Nat) (A B : List Value), (cs.drop o).take k = A → cs.drop (o + k) = B → cs.drop o = A ++ B := fun o k A B h1 h2 => by
   rw [← h1, ← h2, ← List.drop_drop, List.take_append_drop]
 have h28 : cs.drop 28 = [] := List.drop_eq_nil_of_le (by omega)
 have h := st 0 1 _ _ e0 (st 1 25 _ _ e1 (st 26 1 _ _ e2 (st 27 1 _ _ e3 h28)))
 rw [List.drop_zero] at h
 rw [h]
 rfl
end
theorem open_rowsC {H : Type} {ench : TypeId × Value → H} {P : Program} {w : World} {base : Nat} {spare : Nat → Bool} {held : Bool} {fuel : Nat} {cs : List Value} {y : DataW H × List MemPlace} {T E : TypeId} {α : Type} {enc : α → List Value} {k : Nat} {φ : α → Prop}
   (hT : P.underlying T = some (.slice E)) (hC : P.cellsOf E = k) (hk : 0 < k)
   (dec : ∀ n cs y, DataW.trod ench P w base spare held n E cs = some y → cs.length = k → ∃ x : α, cs = enc x ∧ φ x)
   (hf : DataW.trod ench P w base spare held fuel T cs = some y) :
   ∃ (q : Option Addr) (xs : List α) (cap : Nat), cs = [.slice q xs.length cap] ∧ xs.length ≤ cap ∧ cap ≤ maxLen ∧ SlAt enc k w q xs ∧ (∀ x ∈ xs, φ x) ∧ (q = none → xs.length = 0 ∧ cap = 0) := by
 rcases open_slice hT hf with ⟨rfl, _⟩ | ⟨a, len, cap, m, n, D, Pl, rfl, hb, hl, hm, hmm, hx, hi⟩
 · exact ⟨none, [], 0, rfl, Nat.le_refl _, by unfold maxLen; omega, SlAt.nil _ _, fun x hx => by simp at hx, fun _ => ⟨rfl, rfl⟩⟩
 · have hlm : len ≤ m := by rw [hmm]; split <;> omega
   rw [hC] at hi
   obtain ⟨xs, hxl, hxs⟩ := list_of_all (R := fun i (x : α) => φ x ∧ ∀ j u, (enc x)[j]? = some u → w.cell? (a.add (i * k + j)) = some u) len (fun i hil => by
     obtain ⟨cs', h1, h2⟩ := hi i (by omega)
     obtain ⟨_, hlen, hat⟩ := World.cells?_some h1
     obtain ⟨x, rfl, hφ⟩ := dec _ _ _ h2 hlen
     refine ⟨x, hφ, fun j u hu => ?_⟩
     have hj := (List.getElem?_eq_some_iff.1 hu).1
     rw [← add_addA, hat j (by omega), hu])
   refine ⟨some a, xs, cap, by rw [hxl], by omega, hm, fun i hil => ?_, fun x hx => ?_, fun h => by cases h⟩
   · obtain ⟨cs0, g1, g2⟩ := hi 0 (by omega)
     obtain ⟨_, hlen0, hat0⟩ := World.cells?_some g1
     have hu : w.cell? a = some (cs0[0]'(by omega)) := by
       have := hat0 0 (by omega)
       rw [add_addA, List.getElem?_eq_getElem (by omega)] at this
       simpa [Addr.add] using this
     obtain ⟨b, o, s⟩ := a
     obtain rfl : s = none := World.cell?_spot hu
     refine ⟨b, o, rfl, ?_, fun j u hju => ?_⟩
     · obtain ⟨c', e', fr', hbk, _⟩ := Go.Sort.cells_of_cell? hu
       exact lt_heap hbk
     · have := (hxs i hil).2 j u hju
       rw [Addr.add_mid] at this
       rw [Nat.add_assoc]; exact this
   · obtain ⟨i, hi', rfl⟩ := List.mem_iff_getElem.1 hx
     exact (hxs i hi').1
def OkRy (w : World) (q : Option Addr) (es : List Ev) (c : Nat) : Prop := es.length ≤ c ∧ c ≤ maxLen ∧ SlAt evC 28 w q es ∧ (q = none → c = 0) ∧ ∀ v ∈ es, 0 ≤ v.at_ ∧ v.at_ < 2 ^ 64
theorem dec_ry {H : Type} {ench : TypeId × Value → H} {w : World} {base : Nat} {held : Bool} {n : Nat} {cs : List Value} {y : DataW H × List MemPlace}
   (hl : cs.length = 15) (hy : DataW.trod ench Tryz.prog w base (fun _ => true) held n 59 cs = some y) : ∃ (x : RpD) (q : Option Addr) (es : List Ev) (c : Nat), cs = ryC x (.slice q es.length c) ∧ OkRy w q es c := by
 obtain ⟨xs, n', _, _, _, hxl, hfl⟩ := DataW.trod_struct Tryz.underlying59 hy
 have hx2 : xs.length = 2 := hxl
 have cR : Tryz.prog.cellsOf 56 = 14 := by kernel_rfl
 have cS : Tryz.prog.cellsOf 57 = 1 := by kernel_rfl
 have f0 : DataW.trod ench Tryz.prog w base (fun _ => true) held n' 56 ((cs.drop 0).take (Tryz.prog.cellsOf 56)) = xs[0]? := hfl 0 _ rfl
 have f1 : DataW.trod ench Tryz.prog w base (fun _ => true) held n' 57 ((cs.drop 14).take (Tryz.prog.cellsOf 57)) = xs[1]? := hfl 1 _ rfl
 rw [List.getElem?_eq_getElem (by omega)] at f0 f1
 rw [cR, List.drop_zero] at f0
 rw [cS, List.take_of_length_le (by rw [List.length_drop]; omega)] at f1
 obtain ⟨x, e0⟩ := dec_rp (by rw [List.length_take]; omega) f0
 obtain ⟨q, es, c, e1, h1, h2, h3, h4, h5⟩ := open_rowsC (E := 62) (enc := evC) (k := 28) (φ := fun v => 0 ≤ v.at_ ∧ v.at_ < 2 ^ 64) Tryz.underlying57 (by kernel_rfl) (by omega) (fun n cs y hy hl => dec_ev hl hy) f1
 refine ⟨x, q, es, c, ?_, h1, h2, h3, fun e => (h5 e).2, h4⟩
 show cs = rpC x ++ [.slice q es.length c]
 rw [← e0, ← e1, List.take_append_drop]
theorem open_ry {H : Type} {ench : TypeId × Value → H} {w : World} {base : Nat} {held : Bool} {v : Value} {d : DataW H} {p : List MemPlace} {r : Reach} {b0 : Nat}
   (hv : Value.okWide Tryz.prog w r b0 59 v) (h : DataW.Trod ench Tryz.prog w base (fun _ => true) held 59 v d p) : ∃ (x : RpD) (q : Option Addr) (es : List Ev) (c : Nat), v = .agg (ryC x (.slice q es.length c)).toArray ∧ OkRy w q es c := by
 obtain ⟨fuel, hf⟩ := h
 have hc : (Value.cells v).toList.length = 15 := by
   obtain ⟨_, _, _, _, hl, _⟩ := DataW.trod_struct Tryz.underlying59 hf
   rw [hl]; kernel_rfl
 simp only [Value.okWide, Tryz.underlying59] at hv
 obtain ⟨cs, rfl, _⟩ := hv
 obtain ⟨x, q, es, c, he, ho⟩ := dec_ry hc hf
 refine ⟨x, q, es, c, ?_, ho⟩
 congr 1
 exact Array.toList_inj.1 he
end Go.Proofs.YtbfefdedjcppaaaGreatDoor
