/- Of. -/
import Derived.Test.YtpnmficlebnajaaE7
import Derived.Test.YtpnmficlebnajaaTX
import Derived.Deep.RegionHeld3
import Derived.Deep.AppendLies
namespace Go.Proofs.Ytpnmficlebnajaa
open Go.RowKit

/-- An entry as the document's. -/
def toR (x : Ent) : REnt := ⟨⟨(textQ x.n).toArray⟩, x.t⟩
theorem ofR_eq (x : Ent) : ofR x = toR (cut1 x) := rfl
theorem ofL_eq (l : List Ent) : ofL l = (cutL l).map toR := by
  rw [ofL, cutL, List.map_map]; rfl

set_option maxRecDepth 100000 in
set_option maxHeartbeats 4000000 in
theorem of_any (q : Option Addr) (l : List Ent) (n cap : Nat) (w : World) (hn : l.length = n) (hc : n ≤ cap) (hm : cap ≤ maxLen) (hq : SlAt entC 13 w q l) (hs : ∀ x ∈ l, x.t.size ≤ maxLen) :
    Calls Try.prog 11 #[.slice q n cap] w fun e w' => Below w.heap.size w w' ∧ ∃ v', e = .returned v' ∧ OwnE rentC 77 2 w' w.heap.size v' (ofL l) := by
  obtain ⟨i0, hi, hz0, hz1, hz2⟩ := info_parts infoR
  unfold maxLen at hm
  have HQ := Lib.hid hq
  have HS := Lib.hid hs
  have HN := Lib.hid hn
  clear hq hs hn
  go_enter Try.func11, Try.ntmps11
  go_wp2_with fail
  go_loopw [3, 4] (fun v i wr => ∃ k : Nat, k ≤ n ∧ k ≤ 20 ∧ i = .int .i64 k ∧ Hid (OwnE rentC 77 2 wr w.heap.size v ((l.take k).map ofR)) ∧ Hid (Below w.heap.size w wr)) (fun _ i _ => n - (intOf i).toNat)
  case atStart => exact ⟨0, Nat.zero_le _, by omega, rfl, OwnE.nil _ _, Below.refl _ _⟩
  case round =>
    obtain ⟨k, hk, hk20, rfl, HO, HW⟩ := hrel
    by_cases hgo : k < n ∧ k < 20
    · obtain ⟨hlt, hl20⟩ := hgo
      have hlt' : (k : Int) < n := by omega
      have hl20' : (k : Int) < 20 := by omega
      have hk2 : k < l.length := by rw [HN.out]; exact hlt
      obtain ⟨b, ob, rfl, hb, hr⟩ := HQ.out k hk2
      have HR : wr.rangeAt b (ob + k * 13) (entC l[k]) := range_of_block hr (HW.out.block b hb)
      have hsz := HS.out _ (List.getElem_mem hk2)
      have HMS := Lib.hid (map_take_snoc ofR l k hk2)
      have HT : Hid (∀ W : World, Calls Try.prog 23 #[.agg (bC l[k].n)] W fun e w' => e = .returned (.string ⟨(textQ l[k].n).toArray⟩) ∧ Below W.heap.size W w') := fun W => lawText_any _ W l[k].hn
      have HXR : wr.rangeAt b (ob + k * 13) (bC l[k].n).toList := ent_name HR
      have HXT : wr.cell? ⟨b, ob + k * 13 + 12, none⟩ = some (.string l[k].t) := ent_text HR
      have hbl : b < wr.heap.size := Nat.lt_of_lt_of_le hb HW.out.size
      have hu := Try.underlying40
      have hin : (Try.prog.info? 40).map (·.size) = some ((bC l[k].n).toList).length := by rw [sizN, bCl, l[k].hn]
      have hln : ((bC l[k].n).toList).length = 12 := by rw [bCl, l[k].hn]
      have h1n : ∀ v ∈ (bC l[k].n).toList, v.oneCell' = true := fun v hv => entC_one l[k] v (by simp only [entC, List.mem_append]; exact .inl hv)
      have hsz' : (l[k].t.size : Int) ≤ 9223372036854775807 := by unfold maxLen at hsz; omega
      have hbs : (fun w' : World => w'.rangeAt b (ob + k * 13) (bC l[k].n).toList ∧ w'.cell? ⟨b, ob + k * 13 + 12, none⟩ = some (.string l[k].t)) wr := ⟨HXR, HXT⟩
      clear hr HR
      generalize l[k] = x at *
      have h80a : (0 : Int) ≤ min (x.t.size : Int) 80 := by omega
      have h80b : min (x.t.size : Int) 80 ≤ (x.t.size : Int) := by omega
      have hlm : ((l.take k).map ofR).length ≤ 20 := by rw [List.length_map]; have := List.length_take_le k l; omega
      have hwz := HW.out.size
      go_upto_region 5 with fail
      go_region_held3 (fun w' => w'.rangeAt b (ob + k * 13) (bC x.n).toList ∧ w'.cell? ⟨b, ob + k * 13 + 12, none⟩ = some (.string x.t)) (first | exact ⟨range_of_block HXR k3, (cell_of k3 _).trans HXT⟩ | exact ⟨range_of_block HXR (k2 _), (cell_of (k2 _) _).trans HXT⟩ | exact ⟨range_of_block HXR k1, (cell_of k1 _).trans HXT⟩ | exact ⟨range_of_block HXR rfl, (cell_of rfl _).trans HXT⟩ | go_keep_ranges | go_keep)
        (first
          | (go_at_call 23; refine (HT.out _).mono ?_; rintro e w1 ⟨rfl, hb1⟩; have hzz : wr.heap.size ≤ w1.heap.size := hb1.size; have k1 : w1.heap[b]? = wr.heap[b]? := hb1.block b (by simpa using hbl); have k2 : ∀ o, (w1.alloc o).heap[b]? = wr.heap[b]? := fun o => (heap_alloc_old _ _ (Nat.lt_of_lt_of_le (by simpa using hbl) hb1.size)).trans k1)
          | (refine step_append_lies _ (by rfl) _ _ _ (by rfl) w.heap.size 77 i0 _ 2 32 Try.underlying29 hi hz0 hz1 hz2 rfl (by omega) u3 ((l.take k).map ofR).length (((l.take k).map ofR).flatMap rentC) (by rfl) ((HO.out.below (w' := w1) ⟨hb1.os, hb1.tape, hb1.output, hb1.size, hb1.block⟩).below (below_alloc1 _ _))
              ⟨w1.heap.size, 0, none⟩ 1 1 (rentC (ofR x)) (by rfl) (by rfl) (World.news_of_block (cs := #[.string (ofR x).n, .string (ofR x).t]) (t := 77) (fr := (0, 0)) (heap_alloc_new w1 _)) (rentC_one _)
              (by omega) (by unfold maxLen; omega) (by omega) (by simp; omega) (w1.heap.size + 1) (by simp) ?_; intro gg cap' w2 hown1 hgrow hat hlt2; have k3 : w2.heap[b]? = wr.heap[b]? := (hgrow.block b (by have := hb1.size; simp at this; simp; omega) (fun e => by have := HO.out.lt b e.symm; omega)).trans (k2 _)))
      all_goals
        have hb3 : Below w.heap.size w w2 := (HW.out.trans ((⟨hb1.os, hb1.tape, hb1.output, hb1.size, hb1.block⟩ : Below wr.heap.size wr w1).mono hwz)).trans (((below_alloc1 w1 _).mono (by omega)).trans (grown_below hgrow (fun g hg => (HO.out.lt g hg).1) (by simp; omega)))
        have hown2 : OwnE rentC 77 2 w2 w.heap.size (.slice (some ⟨gg, 0, none⟩) (min k l.length + 1) cap') ((l.take k).map ofR ++ [ofR x]) := by
          have h0 : ((l.take k).map ofR).length = min k l.length := by simp
          have h1 : ((l.take k).map ofR ++ [ofR x]).length = ((l.take k).map ofR).length + 1 := List.length_append
          have h2 : ((l.take k).map ofR ++ [ofR x]).flatMap rentC = ((l.take k).map ofR).flatMap rentC ++ rentC (ofR x) := by rw [List.flatMap_append, List.flatMap_singleton]
          rw [← h0, OwnE, h1, h2]
          exact hown1
        go_wp2_with fail
        go_roundw
        case rel => exact ⟨k + 1, by omega, by omega, by go_num, by rw [HMS.out]; exact hown2, hb3⟩
        case measure => simp [intOf]; omega
    · have HE : Hid (ofL l = (l.take k).map ofR) := by
        show ofL l = _
        rw [ofL, take_min l k (by have := HN.out; omega) hk20]
      rcases (show k = n ∨ (k = 20 ∧ (20 : Int) < n) by omega) with rfl | ⟨rfl, hlt'⟩
      all_goals
        go_wp2_with fail
        go_ret
        exact ⟨HW.out, _, rfl, by rw [HE.out]; exact HO.out⟩
end Go.Proofs.Ytpnmficlebnajaa
