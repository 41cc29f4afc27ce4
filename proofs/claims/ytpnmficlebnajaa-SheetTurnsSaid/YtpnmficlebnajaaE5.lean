/- The law's text, cut, Of. -/
import Derived.Test.YtpnmficlebnajaaE4
namespace Go.Proofs.Ytpnmficlebnajaa
open Go.RowKit

/-- A name's text, or a question mark. -/
def textQ (n : List UInt8) : List UInt8 := if rightB n then textL n else [63]

set_option maxRecDepth 100000 in
set_option maxHeartbeats 1000000 in
theorem lawText_any (n : List UInt8) (w : World) (hn : n.length = 12) :
    Calls Try.prog 23 #[.agg (bC n)] w fun e w' => e = .returned (.string ⟨(textQ n).toArray⟩) ∧ Below w.heap.size w w' := by
  have HN := Lib.hid hn
  have HT : Hid (∀ W : World, Calls Try.prog 43 #[.agg (bC n)] W fun e w' => e = .returned (.string ⟨(textL n).toArray⟩) ∧ Below W.heap.size W w') := fun W => refText_any n W hn
  clear hn
  cases hr : rightB n
  · have HQ : Hid (textQ n = [63]) := by show textQ n = _; rw [textQ, hr]; rfl
    rw [textL_no hr] at HT
    rw [HQ.out]
    clear hr
    go_enter Try.func23, Try.ntmps23
    go_wp2_with (first
      | (with_reducible refine ld23 rfl _ rfl w.heap.size rfl n HN.out (0, 0) (heap_alloc_new _ _) ?_)
      | (go_at_call 43; (with_reducible refine (HT.out _).mono ?_); rintro e w1 ⟨rfl, hb1⟩))
    go_ret
    exact ⟨rfl, (below_alloc1 _ _).trans (hb1.mono (by simp))⟩
  · have HQ : Hid (textQ n = textL n) := by show textQ n = _; rw [textQ, hr]; rfl
    have hne : (⟨(textL n).toArray⟩ : ByteArray).toList.isEmpty = false := by
      rw [ByteArray.toList_eq]
      have h1 := textL_yes hr
      cases ht : textL n with
      | nil => rw [ht] at h1; simp at h1
      | cons x l => rfl
    rw [HQ.out]
    clear hr
    generalize (⟨(textL n).toArray⟩ : ByteArray) = tx at *
    go_enter Try.func23, Try.ntmps23
    go_wp2_with (first
      | (with_reducible refine ld23 rfl _ rfl w.heap.size rfl n HN.out (0, 0) (heap_alloc_new _ _) ?_)
      | (go_at_call 43; (with_reducible refine (HT.out _).mono ?_); rintro e w1 ⟨rfl, hb1⟩))
    go_ret
    exact ⟨rfl, (below_alloc1 _ _).trans (hb1.mono (by simp))⟩

/-- A text, cut. -/
def cutT (m : Nat) (t : ByteArray) : ByteArray := t.extract 0 (min (t.size : Int) (m : Int)).toNat
def cut1 (x : Ent) : Ent := ⟨x.n, x.hn, cutT 80 x.t⟩
def cutL (l : List Ent) : List Ent := (l.take 20).map cut1
def ofR (x : Ent) : REnt := ⟨⟨(textQ x.n).toArray⟩, cutT 80 x.t⟩
def ofL (l : List Ent) : List REnt := (l.take 20).map ofR
theorem map_take_snoc {α β : Type} (f : α → β) (l : List α) (k : Nat) (h : k < l.length) : (l.take (k + 1)).map f = (l.take k).map f ++ [f l[k]] := by
  rw [List.take_succ_eq_append_getElem h, List.map_append]; rfl
theorem take_min {α : Type} (l : List α) (k : Nat) (h : k = l.length ∨ k = 20) (hk : k ≤ 20) : l.take 20 = l.take k := by
  rcases h with h | h
  · rw [List.take_of_length_le (by omega), List.take_of_length_le (by omega)]
  · rw [h]

theorem entC_set (x : Ent) (t : ByteArray) : (entC x).set 12 (.string t) = entC ⟨x.n, x.hn, t⟩ := by
  simp only [entC]
  rw [List.set_append_right _ _ (by simp [bC, x.hn])]
  simp [bC, x.hn]
set_option maxRecDepth 100000 in
set_option maxHeartbeats 2000000 in
theorem cut_any (q : Option Addr) (l : List Ent) (n cap : Nat) (w : World) (hn : l.length = n) (hc : n ≤ cap) (hm : cap ≤ maxLen) (hq : SlAt entC 13 w q l) (hs : ∀ x ∈ l, x.t.size ≤ maxLen) :
    Calls Try.prog 9 #[.slice q n cap] w fun e w' => Below w.heap.size w w' ∧ ∃ v', e = .returned v' ∧ OwnE entC 44 13 w' w.heap.size v' (cutL l) := by
  unfold maxLen at hm
  have HQ := Lib.hid hq
  have HS := Lib.hid hs
  have HN := Lib.hid hn
  clear hq hs hn
  go_enter Try.func9, Try.ntmps9
  go_wp2_with fail
  go_loopw [3, 4] (fun v i wr => ∃ k : Nat, k ≤ n ∧ k ≤ 20 ∧ i = .int .i64 k ∧ Hid (OwnE entC 44 13 wr w.heap.size v ((l.take k).map cut1)) ∧ Hid (Below w.heap.size w wr)) (fun _ i _ => n - (intOf i).toNat)
  case atStart => exact ⟨0, Nat.zero_le _, by omega, rfl, OwnE.nil _ _, Below.refl _ _⟩
  case round =>
    obtain ⟨k, hk, hk20, rfl, HO, HW⟩ := hrel
    by_cases hgo : k < n ∧ k < 20
    · obtain ⟨hlt, hl20⟩ := hgo
      have hlt' : (k : Int) < n := by omega
      have hl20' : (k : Int) < 20 := by omega
      have hk2 : k < l.length := by rw [HN.out]; exact hlt
      obtain ⟨b, ob, rfl, hb, hr⟩ := HQ.out k hk2
      have HR : Hid (wr.rangeAt b (ob + k * 13) (entC l[k])) := range_of_block hr (HW.out.block b hb)
      have hsz := HS.out _ (List.getElem_mem hk2)
      have HMS := Lib.hid (map_take_snoc cut1 l k hk2)
      clear hr
      generalize l[k] = x at *
      have hc12 : ∀ W : World, (W.alloc (.cells (entC x).toArray 44)).cell? ⟨W.heap.size, 12, none⟩ = some (.string x.t) := fun W => by
        rw [cell_blk (heap_alloc_new _ _)]; simp [entC, bC, x.hn]
      have hsz' : (x.t.size : Int) ≤ 9223372036854775807 := by unfold maxLen at hsz; omega
      have hset : (entC x).set 12 (.string (x.t.extract 0 (min (x.t.size : Int) 80).toNat)) = entC (cut1 x) := entC_set x _
      go_upto_region 7 with (first
        | (with_reducible refine ld_E rfl _ rfl b (ob + k * 13) x rfl HR.out ?_)
        | (refine wl_strn rfl 44 _ _ rfl (entC x).toArray _ _ (sizE'' x) (entC_sz x) (entC_all x) rfl rfl ?_))
      have HO1 : Hid (OwnE entC 44 13 ((wr.alloc (.cells (entC (cut1 x)).toArray 44)).alloc (.cells (entC (cut1 x)).toArray 44)) w.heap.size u3 ((l.take k).map cut1)) := HO.out.below (below_alloc2 _ _ _)
      have HZ : Hid (w.heap.size ≤ ((wr.alloc (.cells (entC (cut1 x)).toArray 44)).alloc (.cells (entC (cut1 x)).toArray 44)).heap.size) := by
        have := HW.out.size
        show w.heap.size ≤ _
        simp; omega
      have hlm : ((l.take k).map cut1).length ≤ 20 := by rw [List.length_map]; have := List.length_take_le k l; omega
      go_wp2_with (first
        | (with_reducible refine ld_E rfl _ rfl wr.heap.size 0 (cut1 x) rfl (range_whole (heap_alloc_new _ _)) ?_)
        | (with_reducible refine bs_E rfl _ rfl (cut1 x) rfl ?_)
        | (at_builtin; (refine app_E rfl _ _ rfl w.heap.size u3 ((l.take k).map cut1) rfl HO1.out (wr.alloc (.cells (entC (cut1 x)).toArray 44)).heap.size 1 (cut1 x) rfl (range_whole (heap_alloc_new _ _)) (by omega) HZ.out ?_); intro v' w3 ho3 hg3))
      have hb3 : Below w.heap.size w w3 := (HW.out.trans ((below_alloc2 wr _ _).mono HW.out.size)).trans (grown_below hg3 (fun g hg => (HO1.out.lt g hg).1) HZ.out)
      go_roundw
      case rel => exact ⟨k + 1, by omega, by omega, by go_num, by rw [HMS.out]; exact ho3, hb3⟩
      case measure => simp [intOf]; omega
    · have HE : Hid (cutL l = (l.take k).map cut1) := by
        show cutL l = _
        rw [cutL, take_min l k (by have := HN.out; omega) hk20]
      rcases (show k = n ∨ (k = 20 ∧ (20 : Int) < n) by omega) with rfl | ⟨rfl, hlt'⟩
      all_goals
        go_wp2_with fail
        go_ret
        exact ⟨HW.out, _, rfl, by rw [HE.out]; exact HO.out⟩
end Go.Proofs.Ytpnmficlebnajaa
