/- TagMatches: the plain law. -/
import Derived.Test.YtnambaiafailaaaDoorTMa5
import Derived.Test.YtnambaiafailaaaDoorPC5
namespace Go.Proofs.YtnambaiafailaaaDoor
open Go.RowKit

/-- The first place from k on, as a loop from the end tells it. -/
def gI (p : T3 → Bool) (c : List T3) (k : Nat) : Int := match (c.drop k).findIdx? p with
  | some j => ((j + k : Nat) : Int)
  | none => -1
theorem gI_end {p : T3 → Bool} {c : List T3} {k : Nat} (h : c.length ≤ k) : gI p c k = -1 := by
  unfold gI; rw [List.drop_eq_nil_of_le h]; rfl
theorem gI_step {p : T3 → Bool} {c : List T3} {k : Nat} (h : k < c.length) : gI p c k = if p c[k] then (k : Int) else gI p c (k + 1) := by
  unfold gI
  rw [List.drop_eq_getElem_cons h, List.findIdx?_cons]
  cases hp : p c[k] with
  | true => simp
  | false =>
    simp only [Bool.false_eq_true, if_false]
    cases hf : (c.drop (k + 1)).findIdx? p with
    | none => simp
    | some j => simp; omega
theorem gI_ge {p : T3 → Bool} {c : List T3} {k : Nat} : -1 ≤ gI p c k := by
  unfold gI; split <;> omega
theorem find_both (p : T3 → Bool) (ks : List (List UInt8)) : ∀ (c : List T3) (xs : List B10), xs.map (·.1) = c.map bytT → (∀ u ∈ c, p u = decide (bytT u ∈ ks)) →
    (c.findIdx? p = none ∧ xs.find? (inKs ks) = none) ∨ ∃ (i : Nat) (h : i < c.length) (z : B10), c.findIdx? p = some i ∧ xs.find? (inKs ks) = some z ∧ z.1 = bytT c[i]
  | [], [], _, _ => Or.inl ⟨rfl, rfl⟩
  | [], _ :: _, h, _ => by simp at h
  | _ :: _, [], h, _ => by simp at h
  | u :: c, x :: xs, h, hp => by
    simp only [List.map_cons, List.cons.injEq] at h
    have hx : inKs ks x = p u := by unfold inKs; rw [hp u List.mem_cons_self, h.1]
    rw [List.findIdx?_cons, List.find?_cons, hx]
    cases hpu : p u with
    | true => exact Or.inr ⟨0, by simp, x, rfl, rfl, h.1⟩
    | false =>
      simp only [Bool.false_eq_true, if_false]
      rcases find_both p ks c xs h.2 (fun v hv => hp v (List.mem_cons_of_mem _ hv)) with ⟨h1, h2⟩ | ⟨i, hi, z, h1, h2, h3⟩
      · exact Or.inl ⟨by rw [h1]; rfl, h2⟩
      · exact Or.inr ⟨i + 1, by simpa using hi, z, by rw [h1]; rfl, h2, by simpa using h3⟩
theorem gI_spec {p : T3 → Bool} {ks : List (List UInt8)} {c : List T3} {xs : List B10} (h : xs.map (·.1) = c.map bytT) (hp : ∀ u ∈ c, p u = decide (bytT u ∈ ks)) :
    (gI p c 0 = -1 ∧ mB ks xs = false ∧ mR ks xs = tag0) ∨ ∃ (i : Nat) (h : i < c.length), gI p c 0 = (i : Int) ∧ mB ks xs = true ∧ mR ks xs = bytT c[i] := by
  unfold gI mB mR
  rw [List.drop_zero]
  rcases find_both p ks c xs h hp with ⟨h1, h2⟩ | ⟨i, hi, z, h1, h2, h3⟩
  · rw [h1, h2]; exact Or.inl ⟨rfl, rfl, rfl⟩
  · rw [h1, h2]; exact Or.inr ⟨i, hi, by simp, rfl, h3⟩
/-- The document's tags of a chain are read back. -/
theorem of_chain {l : List UInt8} {y : T3} (hr : rightT l = true) (h : RightT l y) : ∀ u ∈ chR y, ofT (bytT u) = some u := by
  have hz : ofT (bytT t30) = some t30 := by decide +kernel
  have hcan : ∀ n (t : T3), farT t ≤ n → canT t → ∀ u ∈ chR t, ofT (bytT u) = some u := by
    intro n
    induction n with
    | zero => intro t hn hc; have := far_par hc; omega
    | succ n ih =>
      intro t hn hc u hu
      rw [chR_cons hc] at hu
      rcases List.mem_cons.1 hu with rfl | hu
      · exact of_can hc
      · rcases par_can hc with h | h
        · exact ih (parT t) (by have := far_par hc; omega) h u hu
        · have h4 : parT t = t30 := h
          rw [h4] at hu
          have : chR t30 = [t30] := by decide +kernel
          rw [this, List.mem_singleton] at hu
          rw [hu]; exact hz
  have hy := h.byt
  rcases right_cases hr with rfl | ⟨t, hc, he⟩
  · obtain ⟨rfl, hc1⟩ := right_root h
    intro u hu
    rw [hc1, List.mem_singleton] at hu
    rw [hu]; exact hz
  · have e : y = t := by
      have h1 := h.oR
      unfold oR at h1
      rw [he, of_can hc] at h1
      exact h1.symm
    rw [e]
    exact hcan _ t (Nat.le_refl _) hc
theorem of_inv {b : List UInt8} {u : T3} (hb : b.length = 10) (h : ofT b = some u) : bytT u = b ∧ rightT b = true := by
  cases hr : rightT b with
  | false =>
    have := (wrong_all hb hr).oB
    unfold oB at this
    rw [h] at this; cases this
  | true =>
    obtain ⟨y, hy⟩ := right_oR hr
    have h1 := hy.oR
    unfold oR at h1
    rw [h] at h1
    exact ⟨by rw [show u = y from h1]; exact hy.byt, rfl⟩
/-- The document's tags among any. -/
def lT (hs : List B10) : List T3 := hs.filterMap fun h => ofT h.1
theorem inT_lT {hs : List B10} {u : T3} (hu : ofT (bytT u) = some u) : inT u (lT hs) = decide (bytT u ∈ hs.map (·.1)) := by
  unfold inT lT
  refine decide_eq_decide.2 ?_
  rw [List.mem_filterMap, List.mem_map]
  constructor
  · rintro ⟨h, hm, he⟩
    exact ⟨h, hm, (of_inv h.2 he).1.symm⟩
  · rintro ⟨h, hm, he⟩
    exact ⟨h, hm, by rw [he]; exact hu⟩
theorem inT_chain {d : List T3} {ys : List B10} (h : ys.map (·.1) = d.map bytT) (hd : ∀ u ∈ d, ofT (bytT u) = some u) {u : T3} (hu : ofT (bytT u) = some u) : inT u d = decide (bytT u ∈ ys.map (·.1)) := by
  unfold inT
  refine decide_eq_decide.2 ?_
  rw [h, List.mem_map]
  constructor
  · exact fun hm => ⟨u, hm, rfl⟩
  · rintro ⟨v, hm, he⟩
    have h1 := hd v hm
    rw [he, hu] at h1
    rw [Option.some.inj h1]; exact hm
theorem upX_right {x : B10} {z : B10} (h : z ∈ upX x) : rightT x.1 = true := by
  unfold upX at h
  split at h
  · assumption
  · cases h
/-- What stands in a chain behind one of its tags is that one's chain. -/
theorem upX_from : ∀ (xs1 : List B10) (x b : B10) (bs : List B10), upX x = xs1 ++ b :: bs → b :: bs = upX b ∧ rightT b.1 = true
  | [], x, b, bs, h => by
    have hr : rightT x.1 = true := upX_right (z := b) (by rw [h]; simp)
    have h2 := upX_cons hr
    rw [h, List.nil_append] at h2
    obtain rfl : b = x := (List.cons.inj h2).1
    exact ⟨h.symm, hr⟩
  | a :: xs1, x, b, bs, h => by
    have hr : rightT x.1 = true := upX_right (z := a) (by rw [h]; simp)
    have h2 := upX_cons hr
    rw [h, List.cons_append] at h2
    have h3 := (List.cons.inj h2).2
    by_cases h0 : x.1 = tag0
    · rw [if_pos h0] at h3; simp at h3
    · rw [if_neg h0] at h3
      exact upX_from xs1 (parX x) b bs h3.symm
theorem upX_lt {x z : B10} (h : z ∈ upX x) : z = x ∨ farB z.1 < farB x.1 := by
  have hr := upX_right h
  rw [upX_cons hr] at h
  rcases List.mem_cons.1 h with h | h
  · exact Or.inl h
  · right
    by_cases h0 : x.1 = tag0
    · rw [if_pos h0] at h; cases h
    · rw [if_neg h0] at h
      have h1 := upX_far z h
      have h2 := far_step hr h0
      have h3 : farB (parX x).1 = farB (parB x.1) := rfl
      omega
theorem common_sym (x y : B10) : (upX x).find? (inKs ((upX y).map (·.1))) = (upX y).find? (inKs ((upX x).map (·.1))) := by
  have key : ∀ (x y z : B10), (upX x).find? (inKs ((upX y).map (·.1))) = some z → ∃ z', (upX y).find? (inKs ((upX x).map (·.1))) = some z' ∧ (z' ∈ upX z) := by
    intro x y z h
    obtain ⟨h1, xs1, bs, h2, h3⟩ := List.find?_eq_some_iff_append.1 h
    have hz : z ∈ upX y := by
      simp only [inKs, decide_eq_true_eq, List.mem_map] at h1
      obtain ⟨u, hu, e⟩ := h1
      rw [← Subtype.ext e]; exact hu
    have hzx : z ∈ upX x := by rw [h2]; simp
    cases hf : (upX y).find? (inKs ((upX x).map (·.1))) with
    | none =>
      have := List.find?_eq_none.1 hf z hz
      simp only [inKs, decide_eq_true_eq] at this
      exact absurd (List.mem_map.2 ⟨z, hzx, rfl⟩) this
    | some z' =>
      refine ⟨z', rfl, ?_⟩
      obtain ⟨g1, xs2, bs', g2, g3⟩ := List.find?_eq_some_iff_append.1 hf
      have hz' : z' ∈ upX x := by
        simp only [inKs, decide_eq_true_eq, List.mem_map] at g1
        obtain ⟨u, hu, e⟩ := g1
        rw [← Subtype.ext e]; exact hu
      have hzy' : z' ∈ upX y := by rw [g2]; simp
      rw [h2] at hz'
      rcases List.mem_append.1 hz' with hm | hm
      · have := h3 z' hm
        have h5 : inKs ((upX y).map (·.1)) z' = true := by
          simp only [inKs, decide_eq_true_eq]; exact List.mem_map.2 ⟨z', hzy', rfl⟩
        rw [h5] at this; cases this
      · rw [← (upX_from xs1 x z bs h2).1]; exact hm
  cases h : (upX x).find? (inKs ((upX y).map (·.1))) with
  | none =>
    cases h' : (upX y).find? (inKs ((upX x).map (·.1))) with
    | none => rfl
    | some z' =>
      obtain ⟨z, hz, _⟩ := key y x z' h'
      rw [h] at hz; cases hz
  | some z =>
    obtain ⟨z', hz', hm⟩ := key x y z h
    obtain ⟨z2, hz2, hm2⟩ := key y x z' hz'
    rw [h] at hz2
    obtain rfl := Option.some.inj hz2
    rw [hz']
    rcases upX_lt hm with e | e
    · rw [e]
    · rcases upX_lt hm2 with e2 | e2
      · rw [e2]
      · omega
theorem coR_sym (x y : B10) : coR x y = coR y x := by
  unfold coR mR; rw [common_sym]
/-- Roots are common. -/
theorem common_some {x y : B10} (hx : rightT x.1 = true) (hy : rightT y.1 = true) : mB ((upX y).map (·.1)) (upX x) = true := by
  have hl : ∀ z : B10, rightT z.1 = true → (⟨tag0, rfl⟩ : B10) ∈ upX z := fun z hz => by
    have := up_last _ z hz (Nat.le_refl _)
    obtain ⟨u, hu, he⟩ := Option.map_eq_some_iff.1 this
    have e : u = ⟨tag0, rfl⟩ := Subtype.ext he
    rw [← e]; exact List.mem_of_getLast? hu
  unfold mB
  rw [List.find?_isSome]
  exact ⟨⟨tag0, rfl⟩, hl x hx, by simp only [inKs, decide_eq_true_eq]; exact List.mem_map.2 ⟨_, hl y hy, rfl⟩⟩
/-- Which of two rows of bytes comes first, from a place on. -/
def lsB (p q : List UInt8) (k : Nat) : Bool := decide (Lib.compareBytes (p.drop k) (q.drop k) < 0)
theorem lsB_end {p q : List UInt8} {k : Nat} (hp : p.length ≤ k) (hq : q.length ≤ k) : lsB p q k = false := by
  unfold lsB; rw [List.drop_eq_nil_of_le hp, List.drop_eq_nil_of_le hq]; rfl
theorem cmp_cons (x y : UInt8) (l m : List UInt8) : Lib.compareBytes (x :: l) (y :: m) = if x < y then -1 else if y < x then 1 else Lib.compareBytes l m := rfl
theorem lsB_step {p q : List UInt8} {k : Nat} (hp : k < p.length) (hq : k < q.length) : lsB p q k = if p[k] = q[k] then lsB p q (k + 1) else decide (p[k] < q[k]) := by
  unfold lsB
  rw [List.drop_eq_getElem_cons hp, List.drop_eq_getElem_cons hq]
  rw [cmp_cons]
  by_cases e : p[k] = q[k]
  · rw [if_pos e, e, if_neg (UInt8.lt_irrefl _), if_neg (UInt8.lt_irrefl _)]
  · rw [if_neg e]
    by_cases h : p[k] < q[k]
    · rw [if_pos h, decide_eq_true h]; rfl
    · rw [if_neg h, decide_eq_false h]
      have : q[k] < p[k] := UInt8.lt_of_le_of_ne (UInt8.not_lt.1 h) (Ne.symm e)
      rw [if_pos this]; rfl
end Go.Proofs.YtnambaiafailaaaDoor
