/- slices.Sort at two words. -/
import Derived.Test.YtmdhlpnieimdaaaV3
import Derived.Test.YtmdhlpnieimdaaaSh
import Derived.Deep.Quiet
namespace Go.Proofs.Ytmdhlpnieimdaaa
open Go.RowKit

set_option maxHeartbeats 400000 in
theorem nan_any (x : Nat) (w : World) : Calls Try.prog 44 #[.int .u64 x] w fun e w' => e = .returned (.bool false) ∧ w = w' := by
  go_enter Try.func44, Try.ntmps44
  go_wp2_with fail
  go_ret
  exact ⟨rfl, rfl⟩
set_option maxHeartbeats 400000 in
theorem less_any (x y : Nat) (w : World) : Calls Try.prog 34 #[.int .u64 x, .int .u64 y] w fun e w' => e = .returned (.bool (decide (x < y))) ∧ w = w' := by
  have hd : decide ((x : Int) < y) = decide (x < y) := by simp
  go_enter Try.func34, Try.ntmps34
  go_wp2_with (go_at_call 44; (refine (nan_any _ _).mono ?_); rintro e w1 ⟨rfl, rfl⟩)
  go_ret
  exact ⟨rfl, rfl⟩

/-- Two words in a row's head. -/
structure Two (w : World) (g x y : Nat) : Prop where
  c0 : w.cell? ⟨g, 0, none⟩ = some (.int .u64 x)
  c1 : w.cell? ⟨g, 1, none⟩ = some (.int .u64 y)
  f : ∀ i, w.frozen? ⟨g, i, none⟩ = false
theorem Two.lt {w : World} {g x y : Nat} (h : Two w g x y) : g < w.heap.size := by
  obtain ⟨c', e', fr', hbk, _⟩ := Go.Sort.cells_of_cell? h.c0
  exact lt_heap hbk
theorem Two.block {w w' : World} {g x y : Nat} (h : Two w g x y) (he : w'.heap[g]? = w.heap[g]?) : Two w' g x y :=
  ⟨(cell_of he 0).trans h.c0, (cell_of he 1).trans h.c1, fun i => (frozen_of he i).trans (h.f i)⟩

theorem turn_drewN {S : List Nat} {a w : World} (h : Turn S a w) (n : Nat) : Turn S a (w.drewN n) := h.trans ⟨rfl, rfl, rfl, Nat.le_refl _, fun _ _ _ => rfl⟩
theorem two_swap {w : World} {g x y : Nat} (h : Two w g x y) : Two ((w.setCell ⟨g, 1, none⟩ (.int .u64 x)).setCell ⟨g, 0, none⟩ (.int .u64 y)) g y x := by
  obtain ⟨cs, T, fr, hbk, _⟩ := Go.Sort.cells_of_cell? h.c0
  have h0 := h.c0
  have h1 := h.c1
  have hf := h.f
  rw [cell_of_tab hbk] at h0 h1
  have hb2 := heap_setCell_self (i := 0) (.int .u64 y) (heap_setCell_self (i := 1) (.int .u64 x) hbk)
  have s0 : 0 < cs.size := (Array.getElem?_eq_some_iff.1 h0).1
  have s1 : 1 < cs.size := (Array.getElem?_eq_some_iff.1 h1).1
  refine ⟨?_, ?_, fun i => ?_⟩
  · rw [cell_of_tab hb2]; simp [Array.getElem?_setIfInBounds, s0]
  · rw [cell_of_tab hb2]; simp [Array.getElem?_setIfInBounds, s1]
  · have := hf i
    simp only [World.frozen?, hb2, hbk] at this ⊢
    exact this
set_option maxHeartbeats 1000000 in
theorem ins2_any (g x y cap : Nat) (w : World) (h : Two w g x y) :
    Calls Try.prog 28 #[.slice (some ⟨g, 0, none⟩) 2 cap, .int .i64 0, .int .i64 2] w fun e w' => e = .returned (.tuple #[]) ∧ Turn [g] w w' ∧ Two w' g (min x y) (max x y) := by
  have H := Lib.hid h
  clear h
  go_enter Try.func28, Try.ntmps28
  go_wp2_with fail
  go_loopw [6] (fun i wr => (i = .int .i64 1 ∧ Hid (Turn [g] w wr ∧ Two wr g x y)) ∨ (i = .int .i64 2 ∧ Hid (Turn [g] w wr ∧ Two wr g (min x y) (max x y)))) (fun i _ => 2 - (intOf i).toNat)
  case atStart => exact .inl ⟨rfl, Turn.refl _ _, H.out⟩
  case round =>
    rcases hrel with ⟨rfl, HR⟩ | ⟨rfl, HR⟩
    · obtain ⟨wo, hwo⟩ : ∃ wo : World, wo = wr := ⟨_, rfl⟩
      subst hwo
      go_wp2_with fail
      go_loopw [7] (fun j wi => (j = .int .i64 1 ∧ Hid (Turn [g] w wi ∧ Two wi g x y)) ∨ (j = .int .i64 0 ∧ Hid (Turn [g] w wi ∧ Two wi g (min x y) (max x y)))) (fun j _ => (intOf j).toNat)
      case atStart => exact .inl ⟨rfl, HR.out⟩
      case round =>
        rcases hrel with ⟨rfl, HI⟩ | ⟨rfl, HI⟩
        · have hc0 := HI.out.2.c0
          have hc1 := HI.out.2.c1
          have hfr := HI.out.2.f
          have hl := HI.out.2.lt
          have hsub : IntKind.i64.wrap 0 = 0 := by rw [IntWalk.i64_in _ (by omega)]
          by_cases hxy : y < x
          · have HM : Hid (min x y = y ∧ max x y = x) := ⟨by omega, by omega⟩
            have hd : decide (y < x) = true := by simpa using hxy
            go_wp2_with fail
            go_quiet ((go_at_call 34; refine Calls.quiet_of_same ((less_any _ _ _).mono fun _ _ h => ⟨h.1, h.2.symm⟩)))
            have HI2 : Hid (Turn [g] w (wr.drewN nq) ∧ Two (wr.drewN nq) g x y) := ⟨turn_drewN HI.out.1 _, HI.out.2.block rfl⟩
            clear hc0 hc1 hfr hl
            generalize wr.drewN nq = W at *
            have hc0 := HI2.out.2.c0
            have hc1 := HI2.out.2.c1
            have hfr := HI2.out.2.f
            have HP : Hid (Two ((W.setCell ⟨g, 1, none⟩ (.int .u64 x)).setCell ⟨g, 0, none⟩ (.int .u64 y)) g y x) := two_swap HI2.out.2
            have HT : Hid (Turn [g] W ((W.setCell ⟨g, 1, none⟩ (.int .u64 x)).setCell ⟨g, 0, none⟩ (.int .u64 y))) := (Turn.setCell g 1 _ _).trans (Turn.setCell g 0 _ _)
            go_wp2_with fail
            go_region
            go_wp2_with fail
            go_roundw
            case rel => exact .inr ⟨by go_num, (HI2.out.1.trans HT.out).trans (Turn.drew _ _), by rw [HM.out.1, HM.out.2]; exact HP.out.block rfl⟩
            case measure => simp [intOf]
          · have HM : Hid (min x y = x ∧ max x y = y) := ⟨by omega, by omega⟩
            have hd : decide (y < x) = false := by simpa using hxy
            go_wp2_with fail
            go_quiet ((go_at_call 34; refine Calls.quiet_of_same ((less_any _ _ _).mono fun _ _ h => ⟨h.1, h.2.symm⟩)))
            go_wp2_with fail
            go_roundw
            case rel => exact .inr ⟨by go_num, turn_drewN HI.out.1 _, by rw [HM.out.1, HM.out.2]; exact HI.out.2.block rfl⟩
            case measure => simp [intOf]
        · go_wp2_with fail
          go_quiet ((go_at_call 34; refine Calls.quiet_of_same ((less_any _ _ _).mono fun _ _ h => ⟨h.1, h.2.symm⟩)))
          go_wp2_with fail
          go_roundw
          case rel => exact .inr ⟨by go_num, turn_drewN HI.out.1 _, HI.out.2.block rfl⟩
          case measure => simp [intOf]
    · go_wp2_with fail
      go_end0
      exact ⟨rfl, HR.out⟩
end Go.Proofs.Ytmdhlpnieimdaaa
