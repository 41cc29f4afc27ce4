/- The chapter's example; SheetPrints, walked. -/
import Derived.Test.YtpnmficlebnajaaE9
import Derived.Test.YtpnmficlebnajaaSh
import Derived.WalkMore
namespace Go.Proofs.Ytpnmficlebnajaa
open Go.RowKit

def x0 : Ent := ⟨97 :: List.replicate 11 0, rfl, ⟨#[120, 61, 49, 10]⟩⟩
theorem x0E : printE [x0] = 0 := by decide +kernel
theorem x0T : printT [x0] = [97, 61, 120, 61, 49, 92, 110, 10] := by decide +kernel

set_option maxRecDepth 100000 in
set_option maxHeartbeats 1000000 in
theorem parse_known (w : World) : Calls Try.prog 13 #[.string ⟨#[97, 61, 49]⟩] w fun e w' => e = .returned (.tuple #[.slice none 0 0, .int .i64 0, .int .i64 4]) ∧ Below w.heap.size w w' := by
  have h1 : (((⟨#[97, 61, 49]⟩ : ByteArray).size : Nat) : Int) ≤ 1200 := by decide
  have h2 : ¬ (1200 : Int) < (((⟨#[97, 61, 49]⟩ : ByteArray).size : Nat) : Int) := by decide
  have hne : (⟨#[97, 61, 49]⟩ : ByteArray).toList.isEmpty = false := by rw [ByteArray.toList_eq]; rfl
  have HI : Hid (∀ W, Calls Try.prog 36 #[.string ⟨#[97, 61, 49]⟩, .int .u8 10] W fun e w' => e = .returned (.int .i64 (-1)) ∧ w' = W) := fun W => Try.strings_IndexByte ⟨#[97, 61, 49]⟩ 10 W
  generalize (⟨#[97, 61, 49]⟩ : ByteArray) = s at *
  go_enter Try.func13, Try.ntmps13
  go_wp2_with fail
  go_step3
  go_wp2_with fail
  go_step3
  go_wp2_with fail
  go_loopw [0, 5] (fun t o wr => t = .string s ∧ o = .slice none 0 0 ∧ wr = w) (fun _ _ _ => 0)
  case atStart => exact ⟨rfl, rfl, rfl⟩
  case round =>
    obtain ⟨rfl, rfl, rfl⟩ := hrel
    go_wp2_with (go_at_call 36; (refine (HI.out _).mono ?_); rintro e w1 ⟨rfl, rfl⟩)
    rw [Exit.noGoto_ret]
    refine bodyPost_ret (results_tmp3 rfl _ _ _) rfl ?_
    exact ⟨rfl, Below.refl _ _⟩

set_option maxRecDepth 100000 in
set_option maxHeartbeats 1000000 in
theorem known_any (w : World) : Calls Try.prog 12 #[] w fun e w' => e = .returned (.bool true) ∧ Below w.heap.size w w' := by
  have HP : Hid (∀ (W : World) (b : Nat), W.heap[b]? = some (.cells (entC x0).toArray 44) → Calls Try.prog 8 #[.slice (some ⟨b, 0, none⟩) 1 1] W fun e w' => e = .returned (.tuple #[.string ⟨#[97, 61, 120, 61, 49, 92, 110, 10]⟩, .int .i64 0]) ∧ Below W.heap.size W w') := fun W b hblk => by
    have hb : b < W.heap.size := lt_heap hblk
    have hr : W.rangeAt b 0 (entC x0) := range_whole hblk
    have := print_any (some ⟨b, 0, none⟩) [x0] 1 1 W rfl (Nat.le_refl _) (by unfold maxLen; omega) (fun i hi => by
      obtain rfl : i = 0 := by simpa using hi
      exact ⟨b, 0, rfl, hb, by simpa using hr⟩) (fun x hx => by
      obtain rfl : x = x0 := by simpa using hx
      show 4 ≤ maxLen; unfold maxLen; omega)
    rw [x0E, x0T] at this
    exact this
  have HK := Lib.hid parse_known
  go_enter Try.func12, Try.ntmps12
  go_wp2_with (first
    | (go_at_call 8; go_loud ((refine (HP.out _ (w.heap.size + 1) (heap_alloc2_new w _ _)).mono ?_); rintro e w1 ⟨rfl, hb1⟩))
    | (go_at_call 13; (refine (HK.out w1).mono ?_); rintro e w2 ⟨rfl, hb2⟩; have hb3 := (below_alloc2 w _ _).trans (hb1.mono (by simp; omega)); have hb4 := hb3.trans (hb2.mono hb3.size)))
  go_ret
  exact ⟨rfl, hb4⟩

theorem cut_small (l : List Ent) (hs : ∀ x ∈ l, x.t.size ≤ maxLen) : ∀ x ∈ cutL l, x.t.size ≤ maxLen := by
  intro x hx
  unfold cutL at hx
  obtain ⟨y, hy, rfl⟩ := List.mem_map.1 hx
  show (cutT 80 y.t).size ≤ maxLen
  rw [cutT, ByteArray.size_extract]
  unfold maxLen
  omega

set_option maxRecDepth 100000 in
set_option maxHeartbeats 2000000 in
theorem SheetPrints_walkI (q : Option Addr) (l : List Ent) (n cap : Nat) (w : World) (hn : l.length = n) (hc : n ≤ cap) (hm : cap ≤ maxLen) (hq : SlAt entC 13 w q l) (hs : ∀ x ∈ l, x.t.size ≤ maxLen) :
    Calls Try.prog 3 #[.slice q n cap] w fun e w' => e = .returned (.bool true) ∧ Below w.heap.size w w' := by
  have HC := Lib.hid (cut_any q l n cap w hn hc hm hq hs)
  have HO : Hid (∀ W, Below w.heap.size w W → Calls Try.prog 11 #[.slice q n cap] W fun e w' => Below W.heap.size W w' ∧ ∃ v', e = .returned v' ∧ OwnE rentC 77 2 w' W.heap.size v' (ofL l)) := fun W hW => of_any q l n cap W hn hc hm (hq.below hW) hs
  have HS := Lib.hid (cut_small l hs)
  have HL := Lib.hid (ofL_eq l)
  clear hn hc hm hq hs
  have he9 := fun W => eql9 ⟨(printT (cutL l)).toArray⟩ W
  go_enter Try.func3, Try.ntmps3
  go_wp2_with (first
    | (go_at_call 9; (refine HC.out.mono ?_); rintro e w1 ⟨hb1, v1, rfl, ho1⟩; obtain ⟨q1, cap1, rfl, hc1, hm1, hq1, hq1'⟩ := ho1.at entC_len; have HP1 := Lib.hid (print_any q1 (cutL l) _ cap1 w1 rfl hc1 hm1 hq1 HS.out); clear ho1 hc1 hm1 hq1 hq1')
    | (go_at_call 8; (refine HP1.out.mono ?_); rintro e w2 ⟨rfl, hb2⟩; have hb12 := hb1.trans (hb2.mono hb1.size))
    | (go_at_call 11; (refine (HO.out w2 hb12).mono ?_); rintro e w3 ⟨hb3, v3, rfl, ho3⟩; obtain ⟨q3, cap3, rfl, hc3, hm3, hq3, hq3'⟩ := ho3.at rentC_len; have HP3 := Lib.hid (refPrint_any q3 (cutL l) _ cap3 w3 (by rw [HL.out, List.length_map]) hc3 hm3 (by rw [← HL.out]; exact hq3) HS.out); clear ho3 hc3 hm3 hq3 hq3'; have hb13 := hb12.trans (hb3.mono hb12.size))
    | (go_at_call 10; (refine HP3.out.mono ?_); rintro e w4 ⟨rfl, hb4⟩; have hb14 := hb13.trans (hb4.mono hb13.size))
    | (go_at_call 12; (refine (known_any w4).mono ?_); rintro e w5 ⟨rfl, hb5⟩; have hb15 := hb14.trans (hb5.mono hb14.size)))
  go_ret
  exact ⟨rfl, hb15⟩
end Go.Proofs.Ytpnmficlebnajaa
