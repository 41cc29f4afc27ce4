/- A slice of names as an argument. -/
import Derived.Test.YtbflliiaigkmgaaC3
import Derived.Deep.Slices
namespace Go.Proofs.Ytbflliiaigkmgaa
open Go.ChangeShapes Go.WideShapes Go.ChangeAt Go.RowKit Go.Deep

theorem bytes_of_trod {H : Type} {enc : TypeId × Value → H} {P : Program} {w : World} {base : Nat} {spare : Nat → Bool} {held : Bool} {t e : TypeId} {n fuel : Nat} {cs : List Value} {x : DataW H × List MemPlace}
    (ht : P.underlying t = some (.array n e)) (he : P.underlying e = some (.int .u8)) (hce : P.cellsOf e = 1) (hl : cs.length = n)
    (hf : DataW.trod enc P w base spare held fuel t cs = some x) : ∃ l : List UInt8, l.length = n ∧ cs = (bC l).toList := by
  obtain ⟨xs, m, _, _, hlen, hxs, hall⟩ := DataW.trod_array ht hf
  refine ⟨cs.map byteOf, by simpa using hl, ?_⟩
  simp only [bC, List.map_map]
  apply List.ext_getElem?
  intro i
  by_cases hi : i < n
  · have h1 := hall i hi
    rw [List.getElem?_eq_getElem (by omega)] at h1
    have e1 : (cs.drop (i * P.cellsOf e)).take (P.cellsOf e) = [cs[i]'(by omega)] := by
      rw [hce, Nat.mul_one, List.drop_eq_getElem_cons (by omega), List.take_succ_cons, List.take_zero]
    rw [e1] at h1
    obtain ⟨x, hx, _, wx⟩ := DataW.trod_int he h1
    simp only [List.cons.injEq, and_true] at hx
    have hw : 0 ≤ x ∧ x ≤ 255 := by
      simpa [Lit.wf, show IntKind.u8.min = 0 from rfl, show IntKind.u8.max = 255 from rfl] using wx
    have e2 : cs[i]? = some (.int .u8 x) := by
      rw [← hx]; simp
    simp only [List.getElem?_map, e2, Option.map_some, Function.comp, byteOf]
    congr 2
    simp
    omega
  · rw [List.getElem?_eq_none (by omega), List.getElem?_eq_none (by simp; omega)]

theorem flat_map_get (f : Nat → List UInt8) : ∀ (n j : Nat), (∀ i, i < n → (f i).length = 12) → j < n * 12 → (((List.range n).map f).flatten)[j]? = (f (j / 12))[j % 12]? := by
  intro n
  induction n with
  | zero => intro j _ hj; omega
  | succ n ih =>
    intro j h hj
    have hl : (((List.range n).map f).flatten).length = n * 12 := by
      rw [flatten_length _ (fun x hx => by
        obtain ⟨i, hi, rfl⟩ := List.mem_map.1 hx
        exact h i (by have := List.mem_range.1 hi; omega))]
      simp
    rw [List.range_succ, List.map_append, List.flatten_append]
    by_cases hjn : j < n * 12
    · rw [List.getElem?_append_left (by rw [hl]; exact hjn), ih j (fun i hi => h i (by omega)) hjn]
    · rw [List.getElem?_append_right (by rw [hl]; omega), hl]
      have e1 : j / 12 = n := by omega
      have e2 : j % 12 = j - n * 12 := by omega
      rw [e1, e2]
      simp

theorem open_names {H : Type} {enc : TypeId × Value → H} {w : World} {base : Nat} {held : Bool} {v : Value} {d : DataW H} {p : List MemPlace} {r : Reach} {b0 : Nat}
    (hv : Value.okWide Try.prog w r b0 45 v) (h : DataW.Trod enc Try.prog w base (fun _ => true) held 45 v d p) :
    (∃ q cap, v = .slice q 0 cap ∧ (q = none → cap = 0) ∧ cap ≤ maxLen) ∨ ∃ b o cap ns, v = .slice (some ⟨b, o, none⟩) ns.length cap ∧ 0 < ns.length ∧ ns.length ≤ cap ∧ cap ≤ maxLen ∧ b < w.heap.size ∧ All12 ns ∧ w.rangeAt b o (bC ns.flatten).toList := by
  obtain ⟨fuel, hf⟩ := h
  have hcv : ∃ q l c, v = .slice q l c := okWide_slice Try.underlying45 hv
  obtain ⟨q, l, c, rfl⟩ := hcv
  rcases open_slice Try.underlying45 hf with ⟨h0, _⟩ | ⟨a, len, cap, m, n, D, Pl, hcs, hb, hl, hm, hmm, hx, hi⟩
  · simp only [Value.cells, List.cons.injEq, and_true] at h0
    simp at h0
    obtain ⟨rfl, rfl, rfl⟩ := h0
    exact .inl ⟨none, 0, rfl, fun _ => rfl, by unfold maxLen; omega⟩
  · simp only [Value.cells] at hcs
    simp at hcs
    obtain ⟨rfl, rfl, rfl⟩ := hcs
    have hmc : m = c := by simpa using hmm
    subst hmc
    by_cases h0 : l = 0
    · subst h0; exact .inl ⟨some a, m, rfl, (fun h => nomatch h), hm⟩
    · right
      have hC : Try.prog.cellsOf 23 = 12 := by kernel_rfl
      rw [hC] at hi
      obtain ⟨F, hF⟩ := choose_lt (α := List UInt8) (p := fun i x => x.length = 12 ∧ w.cells? base (a.add (i * 12)) 12 = some (bC x).toList) (n := l) (fun i hil => by
        obtain ⟨cs', h1, h2⟩ := hi i (by omega)
        obtain ⟨_, hlen, _⟩ := World.cells?_some h1
        obtain ⟨x, hx1, rfl⟩ := bytes_of_trod Try.underlying23 Try.underlying5 (by kernel_rfl) hlen h2
        exact ⟨x, hx1, h1⟩)
      obtain ⟨b, o, s⟩ := a
      have hc0 : ∀ i j, i < l → j < 12 → w.cell? ((⟨b, o, s⟩ : Addr).add (i * 12 + j)) = (bC (F i)).toList[j]? := fun i j hil hj => by
        obtain ⟨_, hlen, hat⟩ := World.cells?_some (hF i hil).2
        rw [← hat j hj, add_add]
      obtain ⟨u, hu⟩ : ∃ u, w.cell? (⟨b, o, s⟩ : Addr) = some u := by
        have := hc0 0 0 (by omega) (by omega)
        rw [List.getElem?_eq_getElem (by simp [bC, (hF 0 (by omega)).1])] at this
        exact ⟨_, this⟩
      have hs : s = none := World.cell?_spot hu
      subst hs
      refine ⟨b, o, m, (List.range l).map F, by simp, by simp; omega, by simpa using hl, hm, ?_, ?_, ?_⟩
      · obtain ⟨c', e', fr', hbk, _⟩ := Go.Sort.cells_of_cell? hu
        exact lt_heap hbk
      · intro x hx
        obtain ⟨i, hi', rfl⟩ := List.mem_map.1 hx
        exact (hF i (List.mem_range.1 hi')).1
      · intro j u' hu'
        have hj : j < l * 12 := by
          have := (List.getElem?_eq_some_iff.1 hu').1
          rw [bC, List.toList_toArray, List.length_map, flatten_length _ (fun x hx => by
            obtain ⟨i, hi', rfl⟩ := List.mem_map.1 hx
            exact (hF i (List.mem_range.1 hi')).1)] at this
          simpa using this
        have hd := hc0 (j / 12) (j % 12) (by omega) (by omega)
        rw [show j / 12 * 12 + j % 12 = j by omega] at hd
        have e : (⟨b, o, none⟩ : Addr).add j = ⟨b, o + j, none⟩ := Addr.add_mid b o j
        rw [e] at hd
        rw [hd, ← hu']
        simp only [bC, List.toList_toArray, List.getElem?_map]
        rw [flat_map_get F l j (fun i hi' => (hF i hi').1) hj]
end Go.Proofs.Ytbflliiaigkmgaa
