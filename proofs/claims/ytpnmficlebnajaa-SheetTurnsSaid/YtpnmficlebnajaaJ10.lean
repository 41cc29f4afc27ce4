/- Changes, as the document's. -/
import Derived.Test.YtpnmficlebnajaaJ8
import Derived.Test.YtpnmficlebnajaaJ5
namespace Go.Proofs.Ytpnmficlebnajaa
open Go.RowKit

set_option maxRecDepth 100000 in
set_option maxHeartbeats 4000000 in
theorem ofc_any (q : Option Addr) (l : List Ch) (n cap : Nat) (w : World) (hn : l.length = n) (hc : n ≤ cap) (hm : cap ≤ maxLen) (hq : SlAt chC 15 w q l) (hln : n ≤ 100000) :
    Calls Try.prog 22 #[.slice q n cap] w fun e w' => Below w.heap.size w w' ∧ ∃ v', e = .returned v' ∧ OwnE rchC 54 4 w' w.heap.size v' (l.map toRC) := by
  obtain ⟨i0, hi, hz0, hz1, hz2⟩ := info_parts infoRC
  unfold maxLen at hm
  have HQ := Lib.hid hq
  have HN := Lib.hid hn
  clear hq hn
  go_enter Try.func22, Try.ntmps22
  go_wp2_with fail
  go_loopw [3, 4] (fun v i wr => ∃ k : Nat, k ≤ n ∧ i = .int .i64 k ∧ Hid (OwnE rchC 54 4 wr w.heap.size v ((l.take k).map toRC)) ∧ Hid (Below w.heap.size w wr)) (fun _ i _ => n - (intOf i).toNat)
  case atStart => exact ⟨0, Nat.zero_le _, rfl, OwnE.nil _ _, Below.refl _ _⟩
  case round =>
    obtain ⟨k, hk, rfl, HO, HW⟩ := hrel
    by_cases hlt : k < n
    · have hlt' : (k : Int) < n := by omega
      have hk0 : (0 : Int) ≤ (k : Int) := by omega
      have hk2 : k < l.length := by rw [HN.out]; exact hlt
      obtain ⟨b, ob, rfl, hb, hr⟩ := HQ.out k hk2
      have HR : wr.rangeAt b (ob + k * 15) (chC l[k]) := range_of_block hr (HW.out.block b hb)
      have HMS := Lib.hid (map_take_snoc toRC l k hk2)
      have HT : Hid (∀ W : World, Calls Try.prog 23 #[.agg (bC l[k].n)] W fun e w' => e = .returned (.string (tq l[k].n)) ∧ Below W.heap.size W w') := fun W => lawText_any _ W l[k].hn
      obtain ⟨HXR, HXK, HXW, HXI⟩ := chg_cells HR
      have hbl : b < wr.heap.size := Nat.lt_of_lt_of_le hb HW.out.size
      have hu := Try.underlying40
      have hin : (Try.prog.info? 40).map (·.size) = some ((bC l[k].n).toList).length := by rw [sizN, bCl, l[k].hn]
      have hln : ((bC l[k].n).toList).length = 12 := by rw [bCl, l[k].hn]
      have h1n : ∀ v ∈ (bC l[k].n).toList, v.oneCell' = true := fun v hv => chC_one l[k] v (by simp only [chC, List.mem_append]; exact .inl hv)
      have hbs : (fun w' : World => w'.rangeAt b (ob + k * 15) (bC l[k].n).toList ∧ w'.cell? ⟨b, ob + k * 15 + 12, none⟩ = some (.int .i64 l[k].k) ∧ w'.cell? ⟨b, ob + k * 15 + 13, none⟩ = some (.string l[k].was) ∧ w'.cell? ⟨b, ob + k * 15 + 14, none⟩ = some (.string l[k].is)) wr := ⟨HXR, HXK, HXW, HXI⟩
      clear hr HR
      generalize l[k] = x at *
      have hlm : ((l.take k).map toRC).length ≤ 100000 := by rw [List.length_map]; have := List.length_take_le k l; omega
      have hwz := HW.out.size
      go_upto_region 5 with fail
      go_region_held3 (fun w' => w'.rangeAt b (ob + k * 15) (bC x.n).toList ∧ w'.cell? ⟨b, ob + k * 15 + 12, none⟩ = some (.int .i64 x.k) ∧ w'.cell? ⟨b, ob + k * 15 + 13, none⟩ = some (.string x.was) ∧ w'.cell? ⟨b, ob + k * 15 + 14, none⟩ = some (.string x.is)) (first | exact ⟨range_of_block HXR k3, (cell_of k3 _).trans HXK, (cell_of k3 _).trans HXW, (cell_of k3 _).trans HXI⟩ | exact ⟨range_of_block HXR (k2 _), (cell_of (k2 _) _).trans HXK, (cell_of (k2 _) _).trans HXW, (cell_of (k2 _) _).trans HXI⟩ | exact ⟨range_of_block HXR k1, (cell_of k1 _).trans HXK, (cell_of k1 _).trans HXW, (cell_of k1 _).trans HXI⟩ | exact ⟨range_of_block HXR rfl, (cell_of rfl _).trans HXK, (cell_of rfl _).trans HXW, (cell_of rfl _).trans HXI⟩ | go_keep_ranges | go_keep)
        (first
          | (go_at_call 23; refine (HT.out _).mono ?_; rintro e w1 ⟨rfl, hb1⟩; have hzz : wr.heap.size ≤ w1.heap.size := hb1.size; have k1 : w1.heap[b]? = wr.heap[b]? := hb1.block b (by simpa using hbl); have k2 : ∀ o, (w1.alloc o).heap[b]? = wr.heap[b]? := fun o => (heap_alloc_old _ _ (Nat.lt_of_lt_of_le (by simpa using hbl) hb1.size)).trans k1)
          | (refine step_append_lies _ (by rfl) _ _ _ (by rfl) w.heap.size 54 i0 _ 4 56 Try.underlying48 hi hz0 hz1 hz2 rfl (by omega) u3 ((l.take k).map toRC).length (((l.take k).map toRC).flatMap rchC) (by rfl) ((HO.out.below (w' := w1) ⟨hb1.os, hb1.tape, hb1.output, hb1.size, hb1.block⟩).below (below_alloc1 _ _))
              ⟨w1.heap.size, 0, none⟩ 1 1 (rchC (toRC x)) (by rfl) (by rfl) (World.news_of_block (cs := #[.string (toRC x).n, .int .i64 (toRC x).k, .string (toRC x).was, .string (toRC x).is]) (t := 54) (fr := (0, 0)) (heap_alloc_new w1 _)) (rchC_one _)
              (by omega) (by unfold maxLen; omega) (by omega) (by simp; omega) (w1.heap.size + 1) (by simp) ?_; intro gg cap' w2 hown1 hgrow hat hlt2; have k3 : w2.heap[b]? = wr.heap[b]? := (hgrow.block b (by have := hb1.size; simp at this; simp; omega) (fun e => by have := HO.out.lt b e.symm; omega)).trans (k2 _)))
      all_goals
        have hb3 : Below w.heap.size w w2 := (HW.out.trans ((⟨hb1.os, hb1.tape, hb1.output, hb1.size, hb1.block⟩ : Below wr.heap.size wr w1).mono hwz)).trans (((below_alloc1 w1 _).mono (by omega)).trans (grown_below hgrow (fun g hg => (HO.out.lt g hg).1) (by simp; omega)))
        have hown2 : OwnE rchC 54 4 w2 w.heap.size (.slice (some ⟨gg, 0, none⟩) (min k l.length + 1) cap') ((l.take k).map toRC ++ [toRC x]) := by
          have h0 : ((l.take k).map toRC).length = min k l.length := by simp
          have h1 : ((l.take k).map toRC ++ [toRC x]).length = ((l.take k).map toRC).length + 1 := List.length_append
          have h2 : ((l.take k).map toRC ++ [toRC x]).flatMap rchC = ((l.take k).map toRC).flatMap rchC ++ rchC (toRC x) := by rw [List.flatMap_append, List.flatMap_singleton]
          rw [← h0, OwnE, h1, h2]
          exact hown1
        go_wp2_with fail
        go_roundw
        case rel => exact ⟨k + 1, by omega, by go_num, by rw [HMS.out]; exact hown2, hb3⟩
        case measure => simp [intOf]; omega
    · obtain rfl : k = n := by omega
      have HE : Hid (l.take k = l) := List.take_of_length_le (by rw [HN.out]; omega)
      go_wp2_with fail
      go_ret
      exact ⟨HW.out, _, rfl, by have := HO.out; rw [HE.out] at this; exact this⟩
end Go.Proofs.Ytpnmficlebnajaa
