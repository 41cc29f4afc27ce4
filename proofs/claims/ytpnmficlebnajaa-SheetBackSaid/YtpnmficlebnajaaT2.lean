/- Right, Text. -/
import Derived.Test.YtpnmficlebnajaaT
namespace Go.Proofs.Ytpnmficlebnajaa
open Go.RowKit

def rightB (l : List UInt8) : Bool := isName (front l) && pad (front l) == l
def textL (l : List UInt8) : List UInt8 := if rightB l then front l else []

theorem front_small {l : List UInt8} (hl : l.length = 12) : (⟨(front l).toArray⟩ : ByteArray).size ≤ maxLen := by
  have := front_length l
  show (front l).toArray.size ≤ maxLen
  unfold maxLen
  simp; omega

/-- A load under a guard that is met. -/
theorem ld23g {ops : Array Oper} {rest : List Oper} {o : Oper} {a : Act} {w : World} {Q : Exit → Act → World → Prop} (hw : Region.wanted o (yielded ops a.tmps) = true) (x : Operand) (ho : o.op = .load 40 x)
    (g : Nat) (hx : a.eval x = .pointer (some ⟨g, 0, none⟩)) (l : List UInt8) (hl : l.length = 12) (fr : Nat × Nat) (hg : w.heap[g]? = some (.cells (bC l) 40 fr))
    (h : wpList Try.prog ops Q rest (a.put o.dst (.agg (bC l))) w) : wpList Try.prog ops Q (o :: rest) a w :=
  wpList_step fun _ hK => by
    rw [if_pos hw]
    exact wp_load_row 40 x ho g hx 40 (bC l) fr _ hg Try.underlying40 rfl (by rw [info23, bC_size, hl]) (hK _ _ h)

set_option maxHeartbeats 400000 in
theorem right_any (l : List UInt8) (w : World) (hl : l.length = 12) :
    Calls Try.prog 44 #[.agg (bC l)] w fun e w' => e = .returned (.bool (rightB l)) ∧ Below w.heap.size w w' := by
  have hf := front_small hl
  have HF := Lib.hid hf
  have HL := Lib.hid hl
  clear hf hl
  cases hn : isName (front l)
  · have HN := Lib.hid hn; clear hn
    have HE : Hid (parseE (front l) = 15) := by show parseE (front l) = 15; rw [parseE, HN.out]; rfl
    go_enter Try.func44, Try.ntmps44
    go_wp2_with (first
      | (with_reducible refine ld23g rfl _ rfl w.heap.size rfl l HL.out (0, 0) (heap_alloc_new _ _) ?_)
      | (with_reducible refine st23 rfl _ _ rfl _ (parseN (front l)) rfl rfl (parseN_length _) z12 (heap_alloc_new _ _) rfl ?_)
      | (go_at_call 47; refine (front_any l _ HL.out).mono ?_; rintro e w1 ⟨rfl, hb1⟩)
      | (go_at_call 50; refine (parse_any ⟨(front l).toArray⟩ _ HF.out).mono ?_; rintro e w2 ⟨rfl, hb2⟩; simp only [show (⟨(front l).toArray⟩ : ByteArray).data.toList = front l from rfl, HE.out]))
    go_ret
    refine ⟨ret_bool (by rw [rightB, HN.out]; rfl), ?_⟩
    exact below_setRow (((below_alloc1 _ _).trans ((hb1.mono (by simp)).trans (hb2.mono (by have := hb1.size; simp at this; omega)))).alloc (by have := hb1.size; have := hb2.size; simp at *; omega) _) (by have := hb1.size; have := hb2.size; simp at *; omega) _
  · have HN := Lib.hid hn; clear hn
    have HE : Hid (parseE (front l) = 0) := by show parseE (front l) = 0; rw [parseE, HN.out]; rfl
    have heq := eql23 (xs := parseN (front l)) (ys := l) (hx := parseN_length _) (hy := HL.out)
    go_enter Try.func44, Try.ntmps44
    go_wp2_with (first
      | (with_reducible refine ld23g rfl _ rfl w.heap.size rfl l HL.out (0, 0) (heap_alloc_new _ _) ?_)
      | (with_reducible refine ld23g rfl _ rfl w2.heap.size rfl (parseN (front l)) (parseN_length _) (0, 0) (setRow_heap _ _ _ _ _ _ (heap_alloc_new _ _)) ?_)
      | (with_reducible refine ld23g rfl _ rfl w.heap.size rfl l HL.out (0, 0) ?hg ?_)
      | (with_reducible refine st23 rfl _ _ rfl _ (parseN (front l)) rfl rfl (parseN_length _) z12 (heap_alloc_new _ _) rfl ?_)
      | (go_at_call 47; refine (front_any l _ HL.out).mono ?_; rintro e w1 ⟨rfl, hb1⟩)
      | (go_at_call 50; refine (parse_any ⟨(front l).toArray⟩ _ HF.out).mono ?_; rintro e w2 ⟨rfl, hb2⟩; simp only [show (⟨(front l).toArray⟩ : ByteArray).data.toList = front l from rfl, HE.out]))
    case hg =>
      have s1 := hb1.size
      have s2 := hb2.size
      simp only [World.size_alloc] at s1
      rw [setRow_other _ _ _ _ (by omega), heap_alloc_old _ _ (by omega), hb2.block _ (by omega), hb1.block _ (by simp)]
      exact heap_alloc_new _ _
    have s1 := hb1.size
    have s2 := hb2.size
    simp only [World.size_alloc] at s1
    go_ret
    refine ⟨ret_bool (by rw [rightB, HN.out, parseN, HN.out]; rfl), ?_⟩
    exact below_setRow (((below_alloc1 _ _).trans ((hb1.mono (by simp)).trans (hb2.mono (by omega)))).alloc (by omega) _) (by omega) _

set_option maxHeartbeats 400000 in
theorem text_any (l : List UInt8) (w : World) (hl : l.length = 12) :
    Calls Try.prog 28 #[.agg (bC l)] w fun e w' => e = .returned (.string ⟨(textL l).toArray⟩) ∧ Below w.heap.size w w' := by
  have HL := Lib.hid hl
  clear hl
  cases hn : rightB l
  · have HN := Lib.hid hn
    have hr : ∀ W : World, Calls Try.prog 44 #[.agg (bC l)] W fun e w' => e = .returned (.bool false) ∧ Below W.heap.size W w' := fun W => hn ▸ right_any l W HL.out
    have HR := Lib.hid hr
    clear hn hr
    go_enter Try.func28, Try.ntmps28
    go_wp2_with (first
      | (with_reducible refine ld23g rfl _ rfl w.heap.size rfl l HL.out (0, 0) (heap_alloc_new _ _) ?_)
      | (go_at_call 44; refine (HR.out _).mono ?_; rintro e w1 ⟨rfl, hb1⟩))
    go_ret
    refine ⟨by rw [textL, HN.out]; rfl, (below_alloc1 _ _).trans (hb1.mono (by simp))⟩
  · have HN := Lib.hid hn
    have hr : ∀ W : World, Calls Try.prog 44 #[.agg (bC l)] W fun e w' => e = .returned (.bool true) ∧ Below W.heap.size W w' := fun W => hn ▸ right_any l W HL.out
    have HR := Lib.hid hr
    clear hn hr
    go_enter Try.func28, Try.ntmps28
    go_wp2_with (first
      | (with_reducible refine ld23g rfl _ rfl w.heap.size rfl l HL.out (0, 0) (heap_alloc_new _ _) ?_)
      | (with_reducible refine ld23g rfl _ rfl w.heap.size rfl l HL.out (0, 0) ?hg ?_)
      | (go_at_call 44; refine (HR.out _).mono ?_; rintro e w1 ⟨rfl, hb1⟩)
      | (go_at_call 47; refine (front_any l _ HL.out).mono ?_; rintro e w2 ⟨rfl, hb2⟩))
    case hg => rw [hb1.block _ (by simp)]; exact heap_alloc_new _ _
    have s1 := hb1.size
    simp only [World.size_alloc] at s1
    go_ret
    refine ⟨by rw [textL, HN.out]; rfl, (below_alloc1 _ _).trans ((hb1.mono (by simp)).trans (hb2.mono (by omega)))⟩

end Go.Proofs.Ytpnmficlebnajaa
