/- A row of words that is sorted: what lies in memory, the exchange of two; insertion sort. -/
import Derived.Test.YtmdhlpnieimdaaaW2
import Derived.Sort.Defs
import Derived.BigRegion
namespace Go.Proofs.Ytmdhlpnieimdaaa
open Go.RowKit

def ltN (x y : Nat) : Bool := decide (x < y)
/-- The words d lie in block g. -/
structure SM (W : World) (g : Nat) (d : Array Nat) : Prop where
  c : ∀ i, i < d.size → W.cell? ⟨g, i, none⟩ = some (.int .u64 ((d[i]! : Nat) : Int))
  f : ∀ i, W.frozen? ⟨g, i, none⟩ = false
theorem SM.block {W W' : World} {g : Nat} {d : Array Nat} (h : SM W g d) (he : W'.heap[g]? = W.heap[g]?) : SM W' g d :=
  ⟨fun i hi => (cell_of he i).trans (h.c i hi), fun i => (frozen_of he i).trans (h.f i)⟩
theorem SM.lt {W : World} {g : Nat} {d : Array Nat} (h : SM W g d) (h0 : 0 < d.size) : g < W.heap.size := by
  obtain ⟨c', e', fr', hbk, _⟩ := Go.Sort.cells_of_cell? (h.c 0 h0)
  exact lt_heap hbk
theorem swp_size (d : Array Nat) (i j : Nat) : (Sort.swp d i j).size = d.size := by simp [Sort.swp]
theorem swp_get (d : Array Nat) (i j k : Nat) (hi : i < d.size) (hj : j < d.size) (hk : k < d.size) : (Sort.swp d i j)[k]! = if k = j then d[i]! else if k = i then d[j]! else d[k]! := by
  unfold Sort.swp
  simp only [getElem!_def, Array.getElem?_setIfInBounds, Array.size_setIfInBounds, hi, hj, if_true]
  by_cases h1 : k = j
  · subst h1; simp
  · by_cases h2 : k = i
    · subst h2
      simp [h1, Ne.symm h1, hj]
    · simp [h1, h2, Ne.symm h1, Ne.symm h2]
theorem SM.swap {W : World} {g : Nat} {d : Array Nat} (h : SM W g d) (i j : Nat) (hi : i < d.size) (hj : j < d.size) : SM ((W.setCell ⟨g, i, none⟩ (.int .u64 ((d[j]! : Nat) : Int))).setCell ⟨g, j, none⟩ (.int .u64 ((d[i]! : Nat) : Int))) g (Sort.swp d i j) := by
  obtain ⟨cs, T, fr, hbk, _⟩ := Go.Sort.cells_of_cell? (h.c i hi)
  have hb2 := heap_setCell_self (i := j) (.int .u64 ((d[i]! : Nat) : Int)) (heap_setCell_self (i := i) (.int .u64 ((d[j]! : Nat) : Int)) hbk)
  have hc : ∀ k, k < d.size → cs[k]? = some (.int .u64 ((d[k]! : Nat) : Int)) := fun k hk => by have := h.c k hk; rwa [cell_of_tab hbk] at this
  have hs : ∀ k, k < d.size → k < cs.size := fun k hk => (Array.getElem?_eq_some_iff.1 (hc k hk)).1
  refine ⟨fun k hk => ?_, fun k => ?_⟩
  · rw [swp_size] at hk
    rw [cell_of_tab hb2, swp_get d i j k hi hj hk, Array.getElem?_setIfInBounds, Array.getElem?_setIfInBounds, Array.size_setIfInBounds]
    by_cases h1 : k = j
    · subst h1; rw [if_pos rfl, if_pos (hs _ hj), if_pos rfl]
    · rw [if_neg (Ne.symm h1), if_neg h1]
      by_cases h2 : k = i
      · subst h2; rw [if_pos rfl, if_pos (hs _ hi), if_pos rfl]
      · rw [if_neg (Ne.symm h2), if_neg h2]; exact hc k hk
  · have := h.f k
    simp only [World.frozen?, hb2, hbk] at this ⊢
    exact this
theorem SM.mid {W : World} {g : Nat} {d : Array Nat} (h : SM W g d) (i j v : Nat) (hi : i < d.size) (hj : j < d.size) : ∃ z : Nat, (W.setCell ⟨g, i, none⟩ (.int .u64 (v : Int))).cell? ⟨g, j, none⟩ = some (.int .u64 (z : Int)) := by
  obtain ⟨cs, T, fr, hbk, _⟩ := Go.Sort.cells_of_cell? (h.c i hi)
  have hb2 := heap_setCell_self (i := i) (.int .u64 (v : Int)) hbk
  have hc : ∀ k, k < d.size → cs[k]? = some (.int .u64 ((d[k]! : Nat) : Int)) := fun k hk => by have := h.c k hk; rwa [cell_of_tab hbk] at this
  rw [cell_of_tab hb2, Array.getElem?_setIfInBounds]
  by_cases h2 : i = j
  · subst h2; exact ⟨v, by rw [if_pos rfl, if_pos (Array.getElem?_eq_some_iff.1 (hc _ hi)).1]⟩
  · exact ⟨_, by rw [if_neg h2]; exact hc j hj⟩
/-- What sorting leaves: the row turned. -/
def SoP (g : Nat) (d' : Array Nat) (w : World) (e : Ending) (w' : World) : Prop := e = .returned (.tuple #[]) ∧ Turn [g] w w' ∧ SM w' g d'
theorem insOuter_pos {a b i : Nat} {d : Array Nat} (h : i < b) : Sort.insOuter ltN a b i d = Sort.insOuter ltN a b (i + 1) (Sort.insInner ltN a i d) := by rw [Sort.insOuter, if_pos h]
theorem insOuter_neg {a b i : Nat} {d : Array Nat} (h : ¬ i < b) : Sort.insOuter ltN a b i d = d := by rw [Sort.insOuter, if_neg h]
theorem insInner_size (a : Nat) : ∀ (j : Nat) (d : Array Nat), (Sort.insInner ltN a j d).size = d.size
  | 0, _ => rfl
  | j + 1, d => by
    rw [Sort.insInner]
    split
    · rw [insInner_size a j, swp_size]
    · rfl
set_option maxRecDepth 100000 in
set_option maxHeartbeats 4000000 in
theorem ins_any (g n a b cap : Nat) (d : Array Nat) (w : World) (h : SM w g d) (hn : d.size = n) (hab : a ≤ b) (hb : b ≤ n) (hn2 : n ≤ 1000) :
    Calls Try.prog 28 #[.slice (some ⟨g, 0, none⟩) n cap, .int .i64 (a : Int), .int .i64 (b : Int)] w (SoP g (Sort.insertionSort ltN d a b) w) := by
  have H := Lib.hid h
  obtain ⟨R, hR⟩ : ∃ R, Sort.insertionSort ltN d a b = R := ⟨_, rfl⟩
  have HR : Hid (Sort.insOuter ltN a b (a + 1) d = R) := hR
  rw [hR]
  have HN := Lib.hid hn
  clear h hR hn
  go_enter Try.func28, Try.ntmps28
  go_wp2_with fail
  go_loopw [6] (fun i wr => ∃ (k : Nat) (d' : Array Nat), a < k ∧ k ≤ max (a + 1) b ∧ i = .int .i64 (k : Int) ∧ Hid (d'.size = n) ∧ Hid (Turn [g] w wr ∧ SM wr g d') ∧ Hid (Sort.insOuter ltN a b k d' = R)) (fun i _ => b - (intOf i).toNat)
  case atStart => exact ⟨a + 1, d, by omega, by omega, by simp, HN.out, ⟨Turn.refl _ _, H.out⟩, HR.out⟩
  case round =>
    obtain ⟨k, d', hak, hkb, rfl, HN', HM, HR'⟩ := hrel
    clear H HR
    by_cases hkb2 : k < b
    · have hlt' : (k : Int) < (b : Int) := by omega
      have HE : Hid (Sort.insOuter ltN a b (k + 1) (Sort.insInner ltN a k d') = R) := by show _ = _; rw [← insOuter_pos hkb2]; exact HR'.out
      clear HR'
      go_wp2_with fail
      go_loopw [7] (fun j wi => ∃ (jj : Nat) (d2 : Array Nat), a ≤ jj ∧ jj ≤ k ∧ j = .int .i64 (jj : Int) ∧ Hid (d2.size = n) ∧ Hid (Turn [g] w wi ∧ SM wi g d2) ∧ Hid (Sort.insOuter ltN a b (k + 1) (Sort.insInner ltN a jj d2) = R)) (fun j _ => (intOf j).toNat)
      case atStart => exact ⟨k, d', by omega, Nat.le_refl _, rfl, HN'.out, HM.out, HE.out⟩
      case round =>
        obtain ⟨jj, d2, haj, hjk, rfl, HN2, HM2, HE2⟩ := hrel
        clear HE HM HN'
        by_cases hja : a < jj
        · obtain ⟨p, hp⟩ : ∃ p, jj = p + 1 := ⟨jj - 1, by omega⟩
          have hjaI : (a : Int) < (jj : Int) := by omega
          have hsub : IntKind.i64.wrap ((jj : Int) - 1) = (p : Int) := by rw [IntWalk.i64_in _ (by omega)]; omega
          have hjn : jj < n := by omega
          have hpn : p < n := by omega
          have hjnI : (jj : Int) < (n : Int) := by omega
          have hpnI : (p : Int) < (n : Int) := by omega
          have hcj := HM2.out.2.c jj (by rw [HN2.out]; exact hjn)
          have hcp := HM2.out.2.c p (by rw [HN2.out]; exact hpn)
          have hfr := HM2.out.2.f
          have hl := HM2.out.2.lt (by rw [HN2.out]; omega)
          have HP : Hid (Sort.insInner ltN a jj d2 = if ltN d2[jj]! d2[p]! = true then Sort.insInner ltN a p (Sort.swp d2 jj p) else d2) := by
            show _ = _
            rw [hp, Sort.insInner]
            simp only [show p + 1 > a by omega, decide_true, Bool.true_and]
          have HSW : Hid (∀ W, SM W g d2 → SM ((W.setCell ⟨g, jj, none⟩ (.int .u64 ((d2[p]! : Nat) : Int))).setCell ⟨g, p, none⟩ (.int .u64 ((d2[jj]! : Nat) : Int))) g (Sort.swp d2 jj p)) := fun W hW => hW.swap jj p (by rw [HN2.out]; exact hjn) (by rw [HN2.out]; exact hpn)
          have HSZ : Hid ((Sort.swp d2 jj p).size = n) := by show _ = _; rw [swp_size]; exact HN2.out
          obtain ⟨x, hx⟩ : ∃ x, d2[jj]! = x := ⟨_, rfl⟩
          obtain ⟨y, hy⟩ : ∃ y, d2[p]! = y := ⟨_, rfl⟩
          have HX := Lib.hid hx
          have HY := Lib.hid hy
          rw [hx] at hcj
          rw [hy] at hcp
          rw [hx, hy] at HP HSW
          clear hx hy
          by_cases hxy : x < y
          · have HP2 : Hid (Sort.insInner ltN a jj d2 = Sort.insInner ltN a p (Sort.swp d2 jj p)) := by show _ = _; rw [HP.out, if_pos (show ltN x y = true by simpa [ltN] using hxy)]
            have hd : decide (x < y) = true := by simpa using hxy
            have HPJ := Lib.hid hp
            clear HP hp
            go_wp2_with fail
            go_quiet ((go_at_call 34; refine Calls.quiet_of_same ((less_any _ _ _).mono fun _ _ h => ⟨h.1, h.2.symm⟩)))
            have HI2 : Hid (Turn [g] w (wr.drewN nq) ∧ SM (wr.drewN nq) g d2) := ⟨turn_drewN HM2.out.1 _, HM2.out.2.block rfl⟩
            clear hcj hcp hfr hl HM2
            generalize wr.drewN nq = W at *
            have hcj := HI2.out.2.c jj (by rw [HN2.out]; exact hjn)
            have hcp := HI2.out.2.c p (by rw [HN2.out]; exact hpn)
            rw [HX.out] at hcj
            rw [HY.out] at hcp
            have hfr := HI2.out.2.f
            have hl := HI2.out.2.lt (by rw [HN2.out]; omega)
            have HP3 : Hid (SM ((W.setCell ⟨g, jj, none⟩ (.int .u64 (y : Int))).setCell ⟨g, p, none⟩ (.int .u64 (x : Int))) g (Sort.swp d2 jj p)) := HSW.out W HI2.out.2
            have HT : Hid (Turn [g] W ((W.setCell ⟨g, jj, none⟩ (.int .u64 (y : Int))).setCell ⟨g, p, none⟩ (.int .u64 (x : Int)))) := (Turn.setCell g jj _ _).trans (Turn.setCell g p _ _)
            clear HSW
            obtain ⟨zm, hmid⟩ := HI2.out.2.mid jj p y (by rw [HN2.out]; exact hjn) (by rw [HN2.out]; exact hpn)
            go_wp2_with fail
            go_region
            go_wp2_with fail
            go_roundw
            case rel => exact ⟨p, Sort.swp d2 jj p, by have := HPJ.out; omega, by have := HPJ.out; omega, by first | exact congrArg (Value.int .i64) hsub | simp [hsub], HSZ.out, ⟨(HI2.out.1.trans HT.out).trans (Turn.drew _ _), HP3.out.block rfl⟩, by rw [← HP2.out]; exact HE2.out⟩
            case measure => have := HPJ.out; simp [intOf, hsub]; omega
          · have HP2 : Hid (Sort.insInner ltN a jj d2 = d2) := by show _ = _; rw [HP.out, if_neg (show ¬ ltN x y = true by simpa [ltN] using hxy)]
            have hd : decide (x < y) = false := by simpa using hxy
            clear HP hp
            go_wp2_with fail
            go_quiet ((go_at_call 34; refine Calls.quiet_of_same ((less_any _ _ _).mono fun _ _ h => ⟨h.1, h.2.symm⟩)))
            have HI2 : Hid (Turn [g] w (wr.drewN nq) ∧ SM (wr.drewN nq) g d2) := ⟨turn_drewN HM2.out.1 _, HM2.out.2.block rfl⟩
            clear hcj hcp hfr hl HM2
            generalize wr.drewN nq = W at *
            go_wp2_with fail
            go_roundw
            case rel => exact ⟨k + 1, d2, by omega, by omega, by simp, HN2.out, HI2.out, by rw [← HP2.out]; exact HE2.out⟩
            case measure => simp [intOf]; omega
        · have hjaI : ¬ (a : Int) < (jj : Int) := by omega
          have HP2 : Hid (Sort.insInner ltN a jj d2 = d2) := by
            show _ = _
            match jj, hja with
            | 0, _ => rfl
            | q + 1, h => rw [Sort.insInner]; simp only [show ¬ q + 1 > a from h, decide_false, Bool.false_and]; rfl
          go_wp2_with fail
          go_quiet ((go_at_call 34; refine Calls.quiet_of_same ((less_any _ _ _).mono fun _ _ h => ⟨h.1, h.2.symm⟩)))
          have HI2 : Hid (Turn [g] w (wr.drewN nq) ∧ SM (wr.drewN nq) g d2) := ⟨turn_drewN HM2.out.1 _, HM2.out.2.block rfl⟩
          clear HM2
          generalize wr.drewN nq = W at *
          go_wp2_with fail
          go_roundw
          case rel => exact ⟨k + 1, d2, by omega, by omega, by simp, HN2.out, HI2.out, by rw [← HP2.out]; exact HE2.out⟩
          case measure => simp [intOf]; omega
    · have hlt2 : ¬ (k : Int) < (b : Int) := by omega
      have HD : Hid (d' = R) := by show _ = _; rw [← insOuter_neg hkb2 (a := a) (d := d')]; exact HR'.out
      go_wp2_with fail
      go_end0
      exact ⟨rfl, HM.out.1, by rw [← HD.out]; exact HM.out.2⟩
end Go.Proofs.Ytmdhlpnieimdaaa
