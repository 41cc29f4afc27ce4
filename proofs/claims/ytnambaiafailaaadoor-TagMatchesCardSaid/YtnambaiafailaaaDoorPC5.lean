/- TagChains: the plain law. -/
import Derived.Test.YtnambaiafailaaaDoorCO5
namespace Go.Proofs.YtnambaiafailaaaDoor
open Go.RowKit

theorem upX_self {x : B10} (hr : rightT x.1 = true) : x ∈ upX x := by rw [upX_cons hr]; simp
theorem up_all : ∀ k (x : B10) (L : List B10), upX x = L → rightT x.1 = true → farB x.1 ≤ k → ∀ i (h : i < L.length),
    rightT (L[i]).1 = true ∧ parOk (L[i]).1 = decide (i + 1 < L.length) ∧ (∀ h2 : i + 1 < L.length, parR (L[i]).1 = (L[i + 1]).1) ∧ L.find? (inKs ((upX L[i]).map (·.1))) = some L[i] ∧ farB (L[i]).1 ≤ farB x.1 := by
  intro k
  induction k with
  | zero =>
    intro x L hL hr hk i h
    have h0 := far_zero hr (by omega)
    rw [upX_cons hr, if_pos h0] at hL
    subst hL
    obtain rfl : i = 0 := by simp at h; exact h
    refine ⟨hr, ?_, fun h2 => by simp at h2, ?_, Nat.le_refl _⟩
    · show parOk x.1 = _
      rw [h0, root_par.2]; rfl
    · have : inKs ((upX x).map (·.1)) x = true := by
        simp only [inKs, decide_eq_true_eq]; exact List.mem_map.2 ⟨x, upX_self hr, rfl⟩
      show List.find? (inKs ((upX x).map (·.1))) [x] = some x
      rw [List.find?_cons, this]
  | succ k ih =>
    intro x L hL hr hk i h
    by_cases h0 : x.1 = tag0
    · rw [upX_cons hr, if_pos h0] at hL
      subst hL
      obtain rfl : i = 0 := by simp at h; exact h
      refine ⟨hr, ?_, fun h2 => by simp at h2, ?_, Nat.le_refl _⟩
      · show parOk x.1 = _
        rw [h0, root_par.2]; rfl
      · have : inKs ((upX x).map (·.1)) x = true := by
          simp only [inKs, decide_eq_true_eq]; exact List.mem_map.2 ⟨x, upX_self hr, rfl⟩
        show List.find? (inKs ((upX x).map (·.1))) [x] = some x
        rw [List.find?_cons, this]
    · have hs := far_step hr h0
      have hrp : rightT (parX x).1 = true := right_par hr h0
      have hfp : farB (parX x).1 + 1 = farB x.1 := hs
      have hok : parOk x.1 = true := by unfold parOk; rw [hr]; simpa using h0
      have hpr : parR x.1 = (parX x).1 := by unfold parR; rw [if_pos hok]; rfl
      rw [upX_cons hr, if_neg h0] at hL
      subst hL
      obtain ⟨R, hR⟩ : ∃ R, upX (parX x) = R := ⟨_, rfl⟩
      have hlen : 0 < R.length := by rw [← hR, upX_cons hrp]; simp
      cases i with
      | zero =>
        refine ⟨hr, ?_, fun h2 => ?_, ?_, Nat.le_refl _⟩
        · show parOk x.1 = _
          rw [hok]
          simp only [List.length_cons, Nat.zero_add, hR]
          exact (decide_eq_true (by omega)).symm
        · show parR x.1 = ((upX (parX x))[0]'(by rw [hR]; exact hlen)).1
          rw [hpr]
          have : upX (parX x) = parX x :: (if (parX x).1 = tag0 then [] else upX (parX (parX x))) := upX_cons hrp
          simp [this]
        · have : inKs ((upX x).map (·.1)) x = true := by
            simp only [inKs, decide_eq_true_eq]; exact List.mem_map.2 ⟨x, upX_self hr, rfl⟩
          show (x :: upX (parX x)).find? (inKs ((upX x).map (·.1))) = some x
          rw [List.find?_cons, this]
      | succ i =>
        have hi : i < R.length := by simp [hR] at h; exact h
        obtain ⟨a1, a2, a3, a4, a5⟩ := ih (parX x) R hR hrp (by omega) i hi
        simp only [hR, List.getElem_cons_succ, List.length_cons]
        refine ⟨a1, ?_, fun h2 => ?_, ?_, by omega⟩
        · rw [a2]
          exact decide_eq_decide.2 (by omega)
        · exact a3 (by omega)
        · rw [List.find?_cons]
          have hno : inKs ((upX R[i]).map (·.1)) x = false := by
            simp only [inKs, decide_eq_false_iff_not, List.mem_map]
            rintro ⟨y, hy, e⟩
            have := upX_far y hy
            rw [e] at this
            omega
          rw [hno]
          exact a4
theorem up_last : ∀ k (x : B10), rightT x.1 = true → farB x.1 ≤ k → ((upX x).getLast?.map (·.1)) = some tag0 := by
  intro k
  induction k with
  | zero =>
    intro x hr hk
    have h0 := far_zero hr (by omega)
    rw [upX_cons hr, if_pos h0]; simp [h0]
  | succ k ih =>
    intro x hr hk
    by_cases h0 : x.1 = tag0
    · rw [upX_cons hr, if_pos h0]; simp [h0]
    · have hs := far_step hr h0
      have hrp : rightT (parX x).1 = true := right_par hr h0
      have := ih (parX x) hrp (by have : farB (parX x).1 + 1 = farB x.1 := hs; omega)
      rw [upX_cons hr, if_neg h0]
      obtain ⟨y, r, hy⟩ : ∃ y r, upX (parX x) = y :: r := ⟨_, _, upX_cons hrp⟩
      rw [hy] at this ⊢
      rw [List.getLast?_cons_cons]; exact this
/-- A right tag's text is read as it. -/
theorem read_text {l : List UInt8} (hr : rightT l = true) : tagR (textB l) = l ∧ tagE (textB l) = 0 ∧ (textB l).length ≤ 1000000 := by
  have h : ∃ t, parseT (plainL l) = some t ∧ bytT t = l := by
    unfold rightT at hr
    cases hp : parseT (plainL l) with
    | none => rw [hp] at hr; cases hr
    | some t => rw [hp] at hr; exact ⟨t, rfl, by simpa using hr⟩
  obtain ⟨t, hp, hb⟩ := h
  have e : textB l = plainL l := by rw [textB, if_pos hr]
  refine ⟨by rw [e, tagR, hp]; exact hb, by rw [e, tagE, hp]; rfl, ?_⟩
  rw [e]
  have h10 : l.length = 10 := by
    rcases right_cases hr with rfl | ⟨t, hc, rfl⟩
    · rfl
    · exact byt_len hc.ok
  have := plainL_len l h10
  omega
/-- What a round of the law asks of the tag at i. -/
structure RoundT (x : B10) (xs : List B10) (i : Nat) (y : B10) : Prop where
  right : rightT y.1 = true
  ok : parOk y.1 = decide (i + 1 < xs.length)
  par : ∀ h2 : i + 1 < xs.length, parR y.1 = (xs[i + 1]).1
  mem : memX y.1 xs = true
  com : coR x y = y.1
theorem round_of {x : B10} (hr : rightT x.1 = true) {xs : List B10} (hx : upX x = xs) (i : Nat) (h : i < xs.length) : RoundT x xs i xs[i] := by
  obtain ⟨a1, a2, a3, a4, _⟩ := up_all (farB x.1) x xs hx hr (Nat.le_refl _) i h
  refine ⟨a1, a2, a3, ?_, ?_⟩
  · unfold memX; simp only [decide_eq_true_eq]; exact List.mem_map.2 ⟨xs[i], List.getElem_mem h, rfl⟩
  · rw [coR, mR, hx, a4]; rfl
end Go.Proofs.YtnambaiafailaaaDoor
