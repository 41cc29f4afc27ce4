/- Which two places don't fit: what both answers are; asked, is. -/
import Derived.Test.YthimpgnagjgmdaaH3
namespace Go.Proofs.Ythimpgnagjgmdaa
open Go.RowKit

/-- Of a call: when it began and ended, how many writes. -/
abbrev Tr := Int × Int × Nat
def trs (xs : List Ca) : List Tr := xs.map fun x => (x.be, x.en, x.n)
theorem trs_core {xs ys : List Ca} (h : ys.map core = xs.map core) : trs ys = trs xs := by
  have e : ∀ zs : List Ca, trs zs = (zs.map core).map fun x => (x.be, x.en, x.n) := fun zs => by
    rw [List.map_map]; rfl
  rw [e, e, h]
theorem trs_len (xs : List Ca) : (trs xs).length = xs.length := by simp [trs]
def askB (L : List Tr) (i : Int) : Bool := decide (0 ≤ i) && (L[i.toNat]?).any fun t => t.2.2 == 0
def badB (L : List Tr) (a b : Int) : Bool := askB L a && askB L b && decide (0 ≤ (L.getD b.toNat (0, 0, 0)).2.1) && decide ((L.getD b.toNat (0, 0, 0)).2.1 < (L.getD a.toNat (0, 0, 0)).1)
/-- What both answer: the first two places that don't fit. -/
def FR (L : List Tr) (ord : List Int) (r : Nat × Nat × Bool) : Prop :=
  (r = (0, 0, true) ∧ ∀ i j (h : i < j) (h' : j < ord.length), badB L (ord[i]'(by omega)) ord[j] = false) ∨
  ∃ i j, ∃ (h : i < j) (h' : j < ord.length), r = (i, j, false) ∧ badB L (ord[i]'(by omega)) ord[j] = true ∧ ∀ i' j' (g : i' < j') (g' : j' < ord.length), (i' < i ∨ i' = i ∧ j' < j) → badB L (ord[i']'(by omega)) ord[j'] = false
theorem FR.uniq {L : List Tr} {ord : List Int} {r s : Nat × Nat × Bool} (h : FR L ord r) (k : FR L ord s) : r = s := by
  rcases h with ⟨rfl, h⟩ | ⟨i, j, h1, h2, rfl, h3, h4⟩ <;> rcases k with ⟨rfl, k⟩ | ⟨i', j', k1, k2, rfl, k3, k4⟩
  · rfl
  · rw [h i' j' k1 k2] at k3; cases k3
  · rw [k i j h1 h2] at h3; cases h3
  · rcases (by omega : i' < i ∨ i < i' ∨ i = i') with hlt | hlt | rfl
    · rw [h4 i' j' k1 k2 (Or.inl hlt)] at k3; cases k3
    · rw [k4 i j h1 h2 (Or.inl hlt)] at h3; cases h3
    · rcases (by omega : j' < j ∨ j < j' ∨ j = j') with hlt | hlt | rfl
      · rw [h4 i j' k1 k2 (Or.inr ⟨rfl, hlt⟩)] at k3; cases k3
      · rw [k4 i j h1 h2 (Or.inr ⟨rfl, hlt⟩)] at h3; cases h3
      · rfl
theorem ask_neg {L : List Tr} {i : Int} (h : ¬ 0 ≤ i) : askB L i = false := by simp [askB, h]
theorem ask_big {L : List Tr} {i : Int} (h : ¬ i < L.length) : askB L i = false := by
  have : L[i.toNat]? = none := List.getElem?_eq_none (by omega)
  simp [askB, this]
theorem ask_at {xs : List Ca} {j : Nat} (h : j < xs.length) : askB (trs xs) (j : Int) = (xs[j].n == 0) := by
  simp [askB, trs, List.getElem?_eq_getElem h]
/-- A row of calls, of whichever type. -/
theorem ca_slice {w : World} {q : Option Addr} {xs : List Ca} (h : SlAt caC 51 w q xs) (j : Nat) (hj : j < xs.length) : ∃ b o, q = some ⟨b, o, none⟩ ∧ b < w.heap.size ∧ w.rangeAt b (o + j * 51) (caC xs[j]) := h j hj
set_option maxRecDepth 100000 in
set_option maxHeartbeats 4000000 in
theorem asked_any (q : Option Addr) (n c : Nat) (xs : List Ca) (i : Int) (w : World) (hn : xs.length = n) (hq : SlAt caC 51 w q xs) :
    Calls Try.prog 28 #[.slice q n c, .int .i64 i] w fun e w' => e = .returned (.bool (askB (trs xs) i)) ∧ w' = w := by
  have HN := Lib.hid hn
  have HQ := Lib.hid hq
  clear hn hq
  by_cases h0 : 0 ≤ i
  · by_cases h1 : i < n
    · obtain ⟨j, rfl⟩ : ∃ j : Nat, i = (j : Int) := ⟨i.toNat, by omega⟩
      obtain ⟨b, o, rfl, _, hr⟩ := HQ.out j (by rw [HN.out]; omega)
      have hc : w.cell? ⟨b, o + j * 51 + 34, none⟩ = some (.slice (xs[j]'(by rw [HN.out]; omega)).q (xs[j]'(by rw [HN.out]; omega)).n (xs[j]'(by rw [HN.out]; omega)).c) := hr 34 _ (ca_w _)
      have HE : Hid (askB (trs xs) (j : Int) = ((xs[j]'(by rw [HN.out]; omega)).n == 0)) := ask_at _
      generalize xs[j]'(by rw [HN.out]; omega) = x at *
      obtain ⟨xq, hxq⟩ : ∃ z, z = x.q := ⟨_, rfl⟩
      obtain ⟨xn, hxn⟩ : ∃ z, z = x.n := ⟨_, rfl⟩
      obtain ⟨xc, hxc⟩ : ∃ z, z = x.c := ⟨_, rfl⟩
      rw [← hxq, ← hxn, ← hxc] at hc
      rw [← hxn] at HE
      clear hr hxq hxn hxc
      have hj : j < n := by omega
      go_enter Try.func28, Try.ntmps28
      go_wp2_with fail
      go_ret
      refine ⟨ret_bool ?_, rfl⟩
      rw [HE.out]
      rw [Bool.eq_iff_iff]
      simp
    · have HE := Lib.hid (ask_big (L := trs xs) (i := i) (by rw [trs_len, HN.out]; exact h1))
      go_enter Try.func28, Try.ntmps28
      go_wp2_with fail
      go_ret
      exact ⟨ret_bool HE.out.symm, rfl⟩
  · have HE := Lib.hid (ask_neg (L := trs xs) h0)
    go_enter Try.func28, Try.ntmps28
    go_wp2_with fail
    go_ret
    exact ⟨ret_bool HE.out.symm, rfl⟩
set_option maxRecDepth 100000 in
set_option maxHeartbeats 4000000 in
theorem is_any (q : Option Addr) (n c : Nat) (xs : List Ca) (i : Int) (w : World) (hn : xs.length = n) (hq : SlAt caC 51 w q xs) :
    Calls Try.prog 29 #[.slice q n c, .int .i64 i] w fun e w' => e = .returned (.bool (askB (trs xs) i)) ∧ w' = w := by
  have HN := Lib.hid hn
  have HQ := Lib.hid hq
  clear hn hq
  by_cases h0 : 0 ≤ i
  · by_cases h1 : i < n
    · obtain ⟨j, rfl⟩ : ∃ j : Nat, i = (j : Int) := ⟨i.toNat, by omega⟩
      obtain ⟨b, o, rfl, _, hr⟩ := HQ.out j (by rw [HN.out]; omega)
      have hc : w.cell? ⟨b, o + j * 51 + 34, none⟩ = some (.slice (xs[j]'(by rw [HN.out]; omega)).q (xs[j]'(by rw [HN.out]; omega)).n (xs[j]'(by rw [HN.out]; omega)).c) := hr 34 _ (ca_w _)
      have HE : Hid (askB (trs xs) (j : Int) = ((xs[j]'(by rw [HN.out]; omega)).n == 0)) := ask_at _
      generalize xs[j]'(by rw [HN.out]; omega) = x at *
      obtain ⟨xq, hxq⟩ : ∃ z, z = x.q := ⟨_, rfl⟩
      obtain ⟨xn, hxn⟩ : ∃ z, z = x.n := ⟨_, rfl⟩
      obtain ⟨xc, hxc⟩ : ∃ z, z = x.c := ⟨_, rfl⟩
      rw [← hxq, ← hxn, ← hxc] at hc
      rw [← hxn] at HE
      clear hr hxq hxn hxc
      have hj : j < n := by omega
      go_enter Try.func29, Try.ntmps29
      go_wp2_with fail
      go_ret
      refine ⟨ret_bool ?_, rfl⟩
      rw [HE.out]
      rw [Bool.eq_iff_iff]
      simp
    · have HE := Lib.hid (ask_big (L := trs xs) (i := i) (by rw [trs_len, HN.out]; exact h1))
      go_enter Try.func29, Try.ntmps29
      go_wp2_with fail
      go_ret
      exact ⟨ret_bool HE.out.symm, rfl⟩
  · have HE := Lib.hid (ask_neg (L := trs xs) h0)
    go_enter Try.func29, Try.ntmps29
    go_wp2_with fail
    go_ret
    exact ⟨ret_bool HE.out.symm, rfl⟩
end Go.Proofs.Ythimpgnagjgmdaa
