/- plural's Set, Word, Read. -/
import Derived.Test.YtnambaiafailaaaDoorR7
import Derived.Test.YtnambaiafailaaaDoorP7
import Derived.Test.YtnambaiafailaaaDoorG4
import Derived.Test.YtnambaiafailaaaDoorOT5
import Derived.Lib.LaidTab
namespace Go.Proofs.YtnambaiafailaaaDoor
open Go.RowKit

/-- The library's table that Fields reads. -/
def FT (w : World) : Prop := Lib.TabIs Tryd.prog w "strings.asciiSpace" .u8 Lib.asciiSpaceTab
theorem FT.below {w w' : World} (h : FT w) (hb : Below w.heap.size w w') : FT w' := by
  unfold FT Lib.TabIs World.var? at *
  have hg : Tryd.prog.globalNamed "strings.asciiSpace" = some 0 := by kernel_rfl
  rw [hg] at h ⊢
  simp only [Option.bind_some] at h ⊢
  have hlt : 0 < w.heap.size := by
    rcases Nat.lt_or_ge 0 w.heap.size with h' | h'
    · exact h'
    · simp [Array.getElem?_eq_none h'] at h
  rw [hb.block _ hlt]; exact h
def selI (g k : Nat) : List Int := ((List.range k).filter fun c : Nat => inB g (c : Int)).map fun c : Nat => (c : Int)
theorem selI_next (g k : Nat) : selI g (k + 1) = selI g k ++ (if inB g (k : Int) then [(k : Int)] else []) := by
  unfold selI
  rw [List.range_succ, List.filter_append, List.map_append]
  congr 1
  by_cases h : inB g (k : Int) = true
  · simp [h]
  · simp [h]
theorem selI_len (g k : Nat) : (selI g k).length ≤ k := by
  unfold selI
  rw [List.length_map]
  have := List.length_filter_le (fun c : Nat => inB g (c : Int)) (List.range k)
  simpa using this
theorem infoInt : (Tryd.prog.info? 3).map (fun i => (i.zero, i.size, i.bytes)) = some (some (.int .i64 0), 1, 8) := by kernel_rfl
theorem eI_one (x : Int) : ∀ u ∈ eI x, u.oneCell' = true := fun u hu => by
  simp only [eI, List.mem_singleton] at hu; subst hu; rfl
set_option maxRecDepth 100000 in
set_option maxHeartbeats 4000000 in
theorem set_any (b : List UInt8) (w : World) (hb : b.length = 10) (hmx : MX w) :
    Calls Tryd.prog 38 #[.agg (bC b)] w fun e w' => Below w.heap.size w w' ∧ ∃ v, e = .returned v ∧ OwnE eI 3 1 w' w.heap.size v (selI (grpL (langB b)) 6) := by
  have HG0 : Hid ((w.alloc (.cells (bC b) 29)).heap[w.heap.size]? = some (.cells (bC b) 29 (0, 0))) := heap_alloc_new _ _
  have HB0 : Hid (Below w.heap.size w (w.alloc (.cells (bC b) 29))) := below_alloc1 _ _
  have hlt0 : w.heap.size < (w.alloc (.cells (bC b) 29)).heap.size := by simp
  have HIn : Hid (∀ (c : Int) (W : World), Below w.heap.size w W → Calls Tryd.prog 35 #[.agg (bC b), .int .i64 c] W fun e w' => e = .returned (.bool (inB (grpL (langB b)) c)) ∧ Below W.heap.size W w') := fun c W hW => in_any b c W hb (hmx.below hW)
  have H10 := Lib.hid hb
  clear hb hmx
  generalize grpL (langB b) = g at *
  generalize hW1 : w.alloc (.cells (bC b) 29) = W1 at *
  go_enter Tryd.func38, Tryd.ntmps38
  go_wp2_with fail
  clear hW1
  go_loopw [3, 5] (fun v i wr => ∃ k : Nat, k ≤ 6 ∧ i = .int .i64 k ∧ Hid (Below W1.heap.size W1 wr) ∧ Hid (OwnE eI 3 1 wr W1.heap.size v (selI g k))) (fun _ i _ => 6 - (intOf i).toNat)
  case atStart => exact ⟨0, by omega, rfl, Below.refl _ _, OwnE.nil _ _⟩
  case round =>
    obtain ⟨k, hk, rfl, HW, HO⟩ := hrel
    have HGw : Hid (wr.heap[w.heap.size]? = some (.cells (bC b) 29 (0, 0))) := by show _ = _; rw [HW.out.block _ hlt0]; exact HG0.out
    have HBw := Lib.hid (HB0.out.trans (HW.out.mono HB0.out.size))
    by_cases hl : k < 6
    · have HIk := Lib.hid (HIn.out (k : Int) wr HBw.out)
      have HSn := Lib.hid (selI_next g k)
      have hsl := selI_len g k
      clear HIn
      generalize inB g (k : Int) = t at *
      cases t
      · go_wp2_with (first
          | (with_reducible refine ld_T rfl _ rfl w.heap.size b H10.out rfl HGw.out ?_)
          | (go_at_call 35; (refine HIk.out.mono ?_); rintro e w2 ⟨rfl, hb2⟩; have HB2 := Lib.hid hb2; clear hb2))
        go_roundw
        case rel => exact ⟨k + 1, by omega, by go_num, HW.out.trans (HB2.out.mono HW.out.size), by show OwnE _ _ _ _ _ _ _; rw [HSn.out]; simpa using HO.out.below HB2.out⟩
        case measure => simp [intOf]; omega
      · go_wp2_with (first
          | (with_reducible refine ld_T rfl _ rfl w.heap.size b H10.out rfl HGw.out ?_)
          | (go_at_call 35; (refine HIk.out.mono ?_); rintro e w2 ⟨rfl, hb2⟩; have HO2 := Lib.hid ((HO.out.below hb2).below (below_alloc1 w2 (.cells #[.int .i64 (k : Int)] 3))); have HB2 := Lib.hid ((HW.out.trans (hb2.mono HW.out.size)).alloc (HW.out.trans (hb2.mono HW.out.size)).size (.cells #[.int .i64 (k : Int)] 3)); clear hb2)
          | (refine wl_app1 64 3 8 (.int .i64 0) Tryd.underlying64 infoInt rfl (by omega) eI_len eI_one rfl _ _ rfl W1.heap.size _ (selI g k) rfl HO2.out w2.heap.size 1 (k : Int) rfl (range_whole (heap_alloc_new _ _)) (by omega) (by unfold maxLen; omega) HB2.out.size ?_; intro v3 w3 ho3 hg3; have HO3 := Lib.hid ho3; have HB3 := Lib.hid (HB2.out.trans (grown_below hg3 (fun g hg => (HO2.out.lt g hg).1) HB2.out.size)); clear ho3 hg3))
        go_roundw
        case rel => exact ⟨k + 1, by omega, by go_num, HB3.out, by show OwnE _ _ _ _ _ _ _; rw [HSn.out]; simpa using HO3.out⟩
        case measure => simp [intOf]; omega
    · obtain rfl : k = 6 := by omega
      go_wp2_with fail
      go_ret
      exact ⟨HBw.out, _, rfl, HO.out.base (by omega)⟩
def wordsC : ByteArray := ⟨#[122, 101, 114, 111, 32, 111, 110, 101, 32, 116, 119, 111, 32, 102, 101, 119, 32, 109, 97, 110, 121, 32, 111, 116, 104, 101, 114]⟩
theorem fields_words : Lib.fields wordsC.data.toList = wordsL.map (·.data.toList) := by decide +kernel
theorem fields_any (w : World) (hft : FT w) : Calls Tryd.prog 60 #[.string ⟨#[122, 101, 114, 111, 32, 111, 110, 101, 32, 116, 119, 111, 32, 102, 101, 119, 32, 109, 97, 110, 121, 32, 111, 116, 104, 101, 114]⟩] w fun e w' =>
    e = .returned (.slice (some ⟨w.heap.size, 0, none⟩) 6 6) ∧ w' = w.alloc (.cells #[.string ⟨#[122, 101, 114, 111]⟩, .string ⟨#[111, 110, 101]⟩, .string ⟨#[116, 119, 111]⟩, .string ⟨#[102, 101, 119]⟩, .string ⟨#[109, 97, 110, 121]⟩, .string ⟨#[111, 116, 104, 101, 114]⟩] 9) := by
  have := Tryd.strings_Fields_laid wordsC w (by decide) (by
    intro j b hj
    have hm : b ∈ wordsC.data.toList := List.mem_of_getElem? hj
    revert hm
    simp only [wordsC, List.mem_cons, List.mem_nil_iff, or_false]
    rintro (rfl | rfl | rfl | rfl | rfl | rfl | rfl | rfl | rfl | rfl | rfl | rfl | rfl | rfl | rfl | rfl | rfl | rfl | rfl | rfl | rfl | rfl | rfl | rfl | rfl | rfl | rfl) <;> decide) hft
  rw [fields_words] at this
  exact this
set_option maxRecDepth 100000 in
set_option maxHeartbeats 4000000 in
theorem word_any (c : Int) (w : World) (hft : FT w) :
    Calls Tryd.prog 39 #[.int .i64 c] w fun e w' => e = .returned (.string (wordI c)) ∧ Below w.heap.size w w' := by
  have HFi := Lib.hid (fields_any w hft)
  clear hft
  by_cases h0 : c < 0
  · have HW : Hid (wordI c = ⟨#[]⟩) := if_neg (by omega)
    go_enter Tryd.func39, Tryd.ntmps39
    go_wp2_with fail
    go_ret
    exact ⟨by rw [HW.out]; rfl, Below.refl _ _⟩
  · by_cases h5 : 5 < c
    · have HW : Hid (wordI c = ⟨#[]⟩) := if_neg (by omega)
      go_enter Tryd.func39, Tryd.ntmps39
      go_wp2_with fail
      go_ret
      exact ⟨by rw [HW.out]; rfl, Below.refl _ _⟩
    · rcases (show c = 0 ∨ c = 1 ∨ c = 2 ∨ c = 3 ∨ c = 4 ∨ c = 5 by omega) with rfl | rfl | rfl | rfl | rfl | rfl
      all_goals
        clear h0 h5
        go_enter Tryd.func39, Tryd.ntmps39
        go_wp2_with (go_at_call 60; (refine HFi.out.mono ?_); rintro e w1 ⟨rfl, rfl⟩)
        go_ret
        exact ⟨rfl, below_alloc1 _ _⟩
def readI (s : ByteArray) : Int := Lib.idxOfS wordsL s
set_option maxRecDepth 100000 in
set_option maxHeartbeats 4000000 in
theorem read_any (s : ByteArray) (w : World) (hft : FT w) :
    Calls Tryd.prog 41 #[.string s] w fun e w' => e = .returned (.tuple #[.int .i64 (if readI s < 0 then 0 else readI s), .int .i64 (if readI s < 0 then 15 else 0)]) ∧ Below w.heap.size w w' := by
  have HFi := Lib.hid (fields_any w hft)
  have HIx : Hid (Calls Tryd.prog 61 #[.slice (some ⟨w.heap.size, 0, none⟩) 6 6, .string s] (w.alloc (.cells #[.string ⟨#[122, 101, 114, 111]⟩, .string ⟨#[111, 110, 101]⟩, .string ⟨#[116, 119, 111]⟩, .string ⟨#[102, 101, 119]⟩, .string ⟨#[109, 97, 110, 121]⟩, .string ⟨#[111, 116, 104, 101, 114]⟩] 9)) fun e w' => e = .returned (.int .i64 (readI s)) ∧ w' = (w.alloc (.cells #[.string ⟨#[122, 101, 114, 111]⟩, .string ⟨#[111, 110, 101]⟩, .string ⟨#[116, 119, 111]⟩, .string ⟨#[102, 101, 119]⟩, .string ⟨#[109, 97, 110, 121]⟩, .string ⟨#[111, 116, 104, 101, 114]⟩] 9))) :=
    Tryd.slices_Index_string w.heap.size 0 6 6 wordsL s _ (Nat.le_refl _) (by omega) (fun j hj => by
      rw [Nat.zero_add, cell_blk (heap_alloc_new _ _)]
      rcases (show j = 0 ∨ j = 1 ∨ j = 2 ∨ j = 3 ∨ j = 4 ∨ j = 5 by have : j < 6 := hj; omega) with rfl | rfl | rfl | rfl | rfl | rfl <;> rfl)
  clear hft
  generalize readI s = r at *
  by_cases hr : r < 0
  · have hr1 : Hid ((if r < 0 then (0 : Int) else r) = 0 ∧ (if r < 0 then (15 : Int) else 0) = 15) := ⟨if_pos hr, if_pos hr⟩
    go_enter Tryd.func41, Tryd.ntmps41
    go_wp2_with (first
      | (go_at_call 60; (refine HFi.out.mono ?_); rintro e w1 ⟨rfl, rfl⟩)
      | (go_at_call 61; (refine HIx.out.mono ?_); rintro e w1 ⟨rfl, rfl⟩))
    go_ret2
    exact ⟨by first | rfl | (rw [hr1.out.1, hr1.out.2]; rfl), below_alloc1 _ _⟩
  · have hr1 : Hid ((if r < 0 then (0 : Int) else r) = r ∧ (if r < 0 then (15 : Int) else 0) = 0) := ⟨if_neg hr, if_neg hr⟩
    go_enter Tryd.func41, Tryd.ntmps41
    go_wp2_with (first
      | (go_at_call 60; (refine HFi.out.mono ?_); rintro e w1 ⟨rfl, rfl⟩)
      | (go_at_call 61; (refine HIx.out.mono ?_); rintro e w1 ⟨rfl, rfl⟩))
    go_ret2
    exact ⟨by first | rfl | (rw [hr1.out.1, hr1.out.2]; rfl), below_alloc1 _ _⟩
end Go.Proofs.YtnambaiafailaaaDoor
