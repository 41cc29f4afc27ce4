/- How a slice of rows comes in. -/
import Derived.Test.YtagdedjclbmlkaaG1
import Derived.ProofKit
import Derived.OpenShut
import Derived.Deep.Slices
namespace Go.Proofs.Ytagdedjclbmlkaa
open Go.ChangeShapes Go.WideShapes Go.ChangeAt Go.RowKit Go.Deep

theorem add_addA (a : Addr) (i j : Nat) : (a.add i).add j = a.add (i + j) := by
  obtain ⟨b, o, s⟩ := a
  unfold Addr.add
  by_cases h1 : i = 0
  · subst h1; simp
  · by_cases h2 : j = 0
    · subst h2; simp [h1]
    · have : ¬ (i + j = 0) := by omega
      simp [h1, h2, Nat.add_assoc]
theorem list_of_all {α : Type} {R : Nat → α → Prop} : ∀ n, (∀ i, i < n → ∃ x, R i x) → ∃ xs : List α, xs.length = n ∧ ∀ i (h : i < xs.length), R i xs[i]
  | 0, _ => ⟨[], rfl, fun i h => by simp at h⟩
  | n + 1, h => by
    obtain ⟨xs, h1, h2⟩ := list_of_all n fun i hi => h i (by omega)
    obtain ⟨x, hx⟩ := h n (by omega)
    refine ⟨xs ++ [x], by simp [h1], fun i hi => ?_⟩
    by_cases e : i < xs.length
    · rw [List.getElem_append_left e]; exact h2 i e
    · simp only [List.length_append, List.length_singleton] at hi
      obtain rfl : i = xs.length := by omega
      rw [List.getElem_append_right (Nat.le_refl _)]
      simpa [h1] using hx
theorem open_rows {H : Type} {ench : TypeId × Value → H} {P : Program} {w : World} {base : Nat} {spare : Nat → Bool} {held : Bool} {v : Value} {d : DataW H} {p : List MemPlace} {r : Reach} {b0 : Nat} {T E : TypeId} {α : Type} {enc : α → List Value} {k : Nat} {φ : α → Prop}
    (hT : P.underlying T = some (.slice E)) (hC : P.cellsOf E = k) (hk : 0 < k)
    (dec : ∀ n cs y, DataW.trod ench P w base spare held n E cs = some y → cs.length = k → ∃ x : α, cs = enc x ∧ φ x)
    (hv : Value.okWide P w r b0 T v) (h : DataW.Trod ench P w base spare held T v d p) :
    ∃ (q : Option Addr) (xs : List α) (cap : Nat), v = .slice q xs.length cap ∧ xs.length ≤ cap ∧ cap ≤ maxLen ∧ SlAt enc k w q xs ∧ ∀ x ∈ xs, φ x := by
  obtain ⟨fuel, hf⟩ := h
  obtain ⟨q, l, c, rfl⟩ := okWide_slice hT hv
  rcases open_slice hT hf with ⟨h0, _⟩ | ⟨a, len, cap, m, n, D, Pl, hcs, hb, hl, hm, hmm, hx, hi⟩
  · simp only [Value.cells] at h0
    simp at h0
    obtain ⟨rfl, rfl, rfl⟩ := h0
    exact ⟨none, [], 0, rfl, Nat.le_refl _, by unfold maxLen; omega, SlAt.nil _ _, fun x hx => by simp at hx⟩
  · simp only [Value.cells] at hcs
    simp at hcs
    obtain ⟨rfl, rfl, rfl⟩ := hcs
    have hlm : l ≤ m := by rw [hmm]; split <;> omega
    rw [hC] at hi
    obtain ⟨xs, hxl, hxs⟩ := list_of_all (R := fun i (x : α) => φ x ∧ ∀ j u, (enc x)[j]? = some u → w.cell? (a.add (i * k + j)) = some u) l (fun i hil => by
      obtain ⟨cs', h1, h2⟩ := hi i (by omega)
      obtain ⟨_, hlen, hat⟩ := World.cells?_some h1
      obtain ⟨x, rfl, hφ⟩ := dec _ _ _ h2 hlen
      refine ⟨x, hφ, fun j u hu => ?_⟩
      have hj := (List.getElem?_eq_some_iff.1 hu).1
      rw [← add_addA, hat j (by omega), hu])
    refine ⟨some a, xs, c, by rw [hxl], by omega, hm, fun i hil => ?_, fun x hx => ?_⟩
    · obtain ⟨cs0, g1, g2⟩ := hi 0 (by omega)
      obtain ⟨_, hlen0, hat0⟩ := World.cells?_some g1
      have hu : w.cell? a = some (cs0[0]'(by omega)) := by
        have := hat0 0 (by omega)
        rw [add_addA, List.getElem?_eq_getElem (by omega)] at this
        simpa [Addr.add] using this
      obtain ⟨b, o, s⟩ := a
      obtain rfl : s = none := World.cell?_spot hu
      refine ⟨b, o, rfl, ?_, fun j u hju => ?_⟩
      · obtain ⟨c', e', fr', hbk, _⟩ := Go.Sort.cells_of_cell? hu
        exact lt_heap hbk
      · have := (hxs i hil).2 j u hju
        rw [Addr.add_mid] at this
        rw [Nat.add_assoc]; exact this
    · obtain ⟨i, hi', rfl⟩ := List.mem_iff_getElem.1 hx
      exact (hxs i hi').1
theorem own : ownKnob Try.prog.godebug = none := by kernel_rfl
theorem laidOut : laidOutB Try.prog = true := by kernel_rfl
end Go.Proofs.Ytagdedjclbmlkaa
