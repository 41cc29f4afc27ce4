/- How acts come in. -/
import Derived.Test.YtnafcbmpjjlhnaaK23
namespace Go.Proofs.Ytnafcbmpjjlhnaa
open Go.ChangeShapes Go.WideShapes Go.ChangeAt Go.RowKit Go.Deep

theorem open_rowsC {H : Type} {ench : TypeId × Value → H} {P : Program} {w : World} {base : Nat} {spare : Nat → Bool} {held : Bool} {fuel : Nat} {cs : List Value} {y : DataW H × List MemPlace} {T E : TypeId} {α : Type} {enc : α → List Value} {k : Nat} {φ : α → Prop}
    (hT : P.underlying T = some (.slice E)) (hC : P.cellsOf E = k) (hk : 0 < k)
    (dec : ∀ n cs y, DataW.trod ench P w base spare held n E cs = some y → cs.length = k → ∃ x : α, cs = enc x ∧ φ x)
    (hf : DataW.trod ench P w base spare held fuel T cs = some y) :
    ∃ (q : Option Addr) (xs : List α) (cap : Nat), cs = [.slice q xs.length cap] ∧ xs.length ≤ cap ∧ cap ≤ maxLen ∧ SlAt enc k w q xs ∧ (∀ x ∈ xs, φ x) ∧ (q = none → xs.length = 0 ∧ cap = 0) := by
  rcases open_slice hT hf with ⟨rfl, _⟩ | ⟨a, len, cap, m, n, D, Pl, rfl, hb, hl, hm, hmm, hx, hi⟩
  · exact ⟨none, [], 0, rfl, Nat.le_refl _, by unfold maxLen; omega, SlAt.nil _ _, fun x hx => by simp at hx, fun _ => ⟨rfl, rfl⟩⟩
  · have hlm : len ≤ m := by rw [hmm]; split <;> omega
    rw [hC] at hi
    obtain ⟨xs, hxl, hxs⟩ := list_of_all (R := fun i (x : α) => φ x ∧ ∀ j u, (enc x)[j]? = some u → w.cell? (a.add (i * k + j)) = some u) len (fun i hil => by
      obtain ⟨cs', h1, h2⟩ := hi i (by omega)
      obtain ⟨_, hlen, hat⟩ := World.cells?_some h1
      obtain ⟨x, rfl, hφ⟩ := dec _ _ _ h2 hlen
      refine ⟨x, hφ, fun j u hu => ?_⟩
      have hj := (List.getElem?_eq_some_iff.1 hu).1
      rw [← add_addA, hat j (by omega), hu])
    refine ⟨some a, xs, cap, by rw [hxl], by omega, hm, fun i hil => ?_, fun x hx => ?_, fun h => by cases h⟩
    · obtain ⟨cs0, g1, g2⟩ := hi 0 (by omega)
      obtain ⟨_, hlen0, hat0⟩ := World.cells?_some g1
      have hu : w.cell? a = some (cs0[0]'(by omega)) := by
        have := hat0 0 (by omega)
        rw [add_addA, List.getElem?_eq_getElem (by omega)] at this
        simpa [Addr.add] using this
      obtain ⟨b, o, s⟩ := a
      obtain rfl : s = none := World.cell?_spot hu
      refine ⟨b, o, rfl, ?_, fun j u hju => ?_⟩
      · obtain ⟨c', e', fr', hbk, _⟩ := Go.Sort.cells_of_cell? hu
        exact lt_heap hbk
      · have := (hxs i hil).2 j u hju
        rw [Addr.add_mid] at this
        rw [Nat.add_assoc]; exact this
    · obtain ⟨i, hi', rfl⟩ := List.mem_iff_getElem.1 hx
      exact (hxs i hi').1
/-- An act: its first 29 cells, its time, its writes. -/
structure Ac where
  head : List Value
  t : Int
  q : Option Addr
  c : Nat
  ws : List Wr
  lhead : head.length = 29
def acC (x : Ac) : List Value := x.head ++ [.int .u64 x.t, .slice x.q x.ws.length x.c]
theorem acC_len (x : Ac) : (acC x).length = 31 := by simp [acC, x.lhead]
def Txt (x : Wr) : Prop := ∃ s, x.rest[8]? = some (.string s)
def OkAc (w : World) (x : Ac) : Prop := x.ws.length ≤ x.c ∧ x.c ≤ maxLen ∧ SlAt wrC 35 w x.q x.ws ∧ (∀ y ∈ x.ws, Txt y) ∧ (x.q = none → x.ws.length = 0 ∧ x.c = 0)
theorem OkAc.below {w w' : World} {x : Ac} (h : OkAc w x) (hb : Below w.heap.size w w') : OkAc w' x := ⟨h.1, h.2.1, h.2.2.1.below hb, h.2.2.2⟩
theorem dec_ac {H : Type} {ench : TypeId × Value → H} {w : World} {base : Nat} {held : Bool} {n : Nat} {cs : List Value} {y : DataW H × List MemPlace}
    (hl : cs.length = 31) (hy : DataW.trod ench Try.prog w base (fun _ => true) held n 44 cs = some y) : ∃ x : Ac, cs = acC x ∧ OkAc w x := by
  obtain ⟨xs, n', _, _, _, hxl, hfl⟩ := DataW.trod_struct Try.underlying44 hy
  have hx6 : xs.length = 6 := hxl
  have c64 : Try.prog.cellsOf 33 = 1 := by kernel_rfl
  have cS : Try.prog.cellsOf 42 = 1 := by kernel_rfl
  have f4 : DataW.trod ench Try.prog w base (fun _ => true) held n' 33 ((cs.drop 29).take (Try.prog.cellsOf 33)) = xs[4]? := hfl 4 _ rfl
  have f5 : DataW.trod ench Try.prog w base (fun _ => true) held n' 42 ((cs.drop 30).take (Try.prog.cellsOf 42)) = xs[5]? := hfl 5 _ rfl
  rw [List.getElem?_eq_getElem (by omega)] at f4 f5
  rw [c64] at f4
  rw [cS, List.take_of_length_le (by rw [List.length_drop]; omega)] at f5
  obtain ⟨t, e4, _⟩ := DataW.trod_int Try.underlying33 f4
  obtain ⟨q, ws, c, e5, h1, h2, h3, h4, h5⟩ := open_rowsC (E := 58) (enc := wrC) (k := 35) (φ := Txt) Try.underlying42 (by kernel_rfl) (by omega) (fun n cs y hy hl => dec_wr hl hy) f5
  refine ⟨⟨cs.take 29, t, q, c, ws, by rw [List.length_take]; omega⟩, ?_, h1, h2, h3, h4, h5⟩
  have e2 : cs.drop 29 = .int .u64 t :: cs.drop 30 := by rw [← List.take_append_drop 1 (cs.drop 29), e4, List.drop_drop]; rfl
  show cs = cs.take 29 ++ (.int .u64 t :: [.slice q ws.length c])
  rw [← e5, ← e2, List.take_append_drop]
theorem open_acts {H : Type} {ench : TypeId × Value → H} {w : World} {base : Nat} {held : Bool} {v : Value} {d : DataW H} {p : List MemPlace} {r : Reach} {b0 : Nat}
    (hv : Value.okWide Try.prog w r b0 22 v) (h : DataW.Trod ench Try.prog w base (fun _ => true) held 22 v d p) :
    ∃ (q : Option Addr) (xs : List Ac) (cap : Nat), v = .slice q xs.length cap ∧ xs.length ≤ cap ∧ cap ≤ maxLen ∧ SlAt acC 31 w q xs ∧ ∀ x ∈ xs, OkAc w x :=
  open_rows (E := 44) (enc := acC) (k := 31) (φ := OkAc w) Try.underlying22 (by kernel_rfl) (by omega) (fun _ _ _ hy hl => dec_ac hl hy) hv h
theorem open_pre {H : Type} {ench : TypeId × Value → H} {w : World} {base : Nat} {held : Bool} {v : Value} {d : DataW H} {p : List MemPlace} {r : Reach} {b0 : Nat}
    (hv : Value.okWide Try.prog w r b0 32 v) (h : DataW.Trod ench Try.prog w base (fun _ => true) held 32 v d p) : ∃ (k : List UInt8) (n : Int), k.length = 25 ∧ v = .agg (pC k n).toArray := by
  obtain ⟨fuel, hf⟩ := h
  have hc : (Value.cells v).toList.length = 26 := by
    obtain ⟨_, _, _, _, hl, _⟩ := DataW.trod_struct Try.underlying32 hf
    rw [hl]; kernel_rfl
  simp only [Value.okWide, Try.underlying32] at hv
  obtain ⟨cs, rfl, _⟩ := hv
  obtain ⟨k, n, hk, he⟩ := dec_pre hc hf
  refine ⟨k, n, hk, ?_⟩
  congr 1
  exact Array.toList_inj.1 he
theorem open_wr {H : Type} {ench : TypeId × Value → H} {w : World} {base : Nat} {held : Bool} {v : Value} {d : DataW H} {p : List MemPlace} {r : Reach} {b0 : Nat}
    (hv : Value.okWide Try.prog w r b0 58 v) (h : DataW.Trod ench Try.prog w base (fun _ => true) held 58 v d p) : ∃ x : Wr, v = .agg (wrC x).toArray := by
  obtain ⟨fuel, hf⟩ := h
  have hc : (Value.cells v).toList.length = 35 := by
    obtain ⟨_, _, _, _, hl, _⟩ := DataW.trod_struct Try.underlying58 hf
    rw [hl]; kernel_rfl
  simp only [Value.okWide, Try.underlying58] at hv
  obtain ⟨cs, rfl, _⟩ := hv
  obtain ⟨x, he, _⟩ := dec_wr hc hf
  refine ⟨x, ?_⟩
  congr 1
  exact Array.toList_inj.1 he
end Go.Proofs.Ytnafcbmpjjlhnaa
