/- Order of fewer than twenty calls. -/
import Derived.Test.YthimpgnagjgmdaaH10
namespace Go.Proofs.Ythimpgnagjgmdaa
open Go.RowKit Go.Sort

def caAt (xs : List Ca) (i : Int) : Ca := xs.getD i.toNat ca0
def cF (xs : List Ca) (i j : Int) : Int := cmpC (caAt xs i) (caAt xs j)
/-- The places of the calls that count, of the first k. -/
def idx (xs : List Ca) (k : Nat) : List Int := ((List.range k).filter fun i => countB (xs.getD i ca0)).map fun i : Nat => (i : Int)
theorem idx_succ (xs : List Ca) (k : Nat) (b : Bool) (h : countB (xs.getD k ca0) = b) : idx xs (k + 1) = if b = true then idx xs k ++ [(k : Int)] else idx xs k := by
  unfold idx
  rw [List.range_succ, List.filter_append, List.map_append, List.filter_cons, h]
  cases b <;> simp
theorem idx_len (xs : List Ca) (k : Nat) : (idx xs k).length ≤ k := by
  unfold idx
  rw [List.length_map]
  exact Nat.le_trans (List.length_filter_le _ _) (by simp)
theorem idx_lt (xs : List Ca) (k : Nat) : ∀ v ∈ idx xs k, 0 ≤ v ∧ v < k := fun v hv => by
  unfold idx at hv
  obtain ⟨i, hi, rfl⟩ := List.mem_map.1 hv
  have := (List.mem_filter.1 hi).1
  rw [List.mem_range] at this
  omega
def ordS (xs : List Ca) : List Int := (Sort.insertionSort (ltF (cF xs)) (idx xs xs.length).toArray 0 (idx xs xs.length).length).toList
set_option maxRecDepth 100000 in
set_option maxHeartbeats 8000000 in
theorem orderS_any (q : Option Addr) (n c : Nat) (xs : List Ca) (w : World) (hn : xs.length = n) (hn20 : n < 20) (hne : idx xs n ≠ []) (hq : SlAt caC 51 w q xs) :
    Calls Try.prog 11 #[.slice q n c] w fun e w' => ∃ v, e = .returned v ∧ ∃ g cap tail, v = .slice (some ⟨g, 0, none⟩) (idx xs n).length cap ∧ IRow w' g (ordS xs).toArray tail 3 ∧ Below w.heap.size w w' := by
  have HN := Lib.hid hn
  have HQ := Lib.hid hq
  have HNe := Lib.hid hne
  clear hn hq hne
  go_enter Try.func11, Try.ntmps11
  have HB0 := Lib.hid (below_alloc1 w (.cells #[.slice q n c] 22))
  have HX0 : Hid ((w.alloc (.cells #[.slice q n c] 22)).heap[w.heap.size]? = some (.cells #[.slice q n c] 22 (0, 0))) := heap_alloc_new _ _
  go_upto_region 1 with fail
  generalize w.alloc (.cells #[.slice q n c] 22) = W0 at *
  have hc0 : W0.cell? ⟨w.heap.size, 0, none⟩ = some (.slice q n c) := by rw [cell_blk HX0.out]; rfl
  go_wp2_with fail
  go_loopw [3, 7] (fun vo vi wr => ∃ k : Nat, k ≤ n ∧ vi = .int .i64 k ∧ Hid (OwnE eI 3 1 wr W0.heap.size vo (idx xs k)) ∧ Hid (Below W0.heap.size W0 wr)) (fun _ vi _ => n - (intOf vi).toNat)
  case atStart => exact ⟨0, Nat.zero_le _, rfl, (show OwnE eI 3 1 W0 _ _ [] from OwnE.nil _ _), Below.refl _ _⟩
  case round =>
    clear hc0
    obtain ⟨k, hk, rfl, HO, HB⟩ := hrel
    have HXr : Hid (wr.heap[w.heap.size]? = some (.cells #[.slice q n c] 22 (0, 0))) := (HB.out.block _ (lt_heap HX0.out)).trans HX0.out
    have hc0 : wr.cell? ⟨w.heap.size, 0, none⟩ = some (.slice q n c) := by rw [cell_blk HXr.out]; rfl
    by_cases h1 : k < n
    · have h1i : (k : Int) < n := by omega
      obtain ⟨b, o, rfl, hbs, hro⟩ := HQ.out k (by rw [HN.out]; exact h1)
      obtain ⟨x, hx⟩ : ∃ x, x = xs[k]'(by rw [HN.out]; exact h1) := ⟨_, rfl⟩
      rw [← hx] at hro
      have HRow : Hid (wr.rangeAt b (o + k * 51) (caC x)) := range_of_block hro ((HB0.out.trans (HB.out.mono HB0.out.size)).block b hbs)
      have HI : ∀ b, countB x = b → Hid (idx xs (k + 1) = if b = true then idx xs k ++ [(k : Int)] else idx xs k) := fun b hb => idx_succ xs k b (by rw [List.getD_eq_getElem?_getD, List.getElem?_eq_getElem (by rw [HN.out]; exact h1), ← hx]; exact hb)
      clear hro hx
      have KC := Lib.hid (counts_any x wr)
      have hil : (idx xs k).length ≤ 20 := Nat.le_trans (idx_len xs k) (by omega)
      cases hcb : countB x with
      | false =>
        have HI2 := HI false hcb
        rw [hcb] at KC
        clear HI
        go_wp2_with (first
          | ((with_reducible refine gate_ld 42 (.tmp 12) rfl ?_); refine wl_ldr rfl 42 _ rfl b (o + k * 51) (caC x) _ Try.underlying42 rfl (by rw [sizCa, caC_len]) rfl HRow.out ?_)
          | (go_at_call 7; (refine KC.out.mono ?_); rintro e W2 ⟨rfl, hb2⟩; have HB2 := Lib.hid (HB.out.trans (hb2.mono HB.out.size)); have HO2 := Lib.hid (HO.out.below hb2); clear hb2))
        go_roundw
        case rel => exact ⟨k + 1, by omega, by go_num, by show OwnE _ _ _ _ _ _ _; rw [HI2.out]; simpa using HO2.out, HB2⟩
        case measure => simp [intOf]; omega
      | true =>
        have HI2 := HI true hcb
        rw [hcb] at KC
        clear HI
        go_wp2_with (first
          | ((with_reducible refine gate_ld 42 (.tmp 12) rfl ?_); refine wl_ldr rfl 42 _ rfl b (o + k * 51) (caC x) _ Try.underlying42 rfl (by rw [sizCa, caC_len]) rfl HRow.out ?_)
          | (go_at_call 7; (refine KC.out.mono ?_); rintro e W2 ⟨rfl, hb2⟩; have HB2 := Lib.hid (HB.out.trans (hb2.mono HB.out.size)); have HO2 := Lib.hid (HO.out.below hb2); clear hb2)
          | (at_builtin; refine wl_app1 (k := 1) (enc := eI) 26 3 8 (.int .i64 0) Try.underlying26 info3 rfl (by omega) eI_len (fun x u hu => by simp [eI] at hu; subst hu; rfl) rfl (.tmp 15) (.tmp 17) rfl W0.heap.size u3 (idx xs k) rfl (HO2.out.below (below_alloc1 _ _)) _ _ (k : Int) rfl (range_whole (vs := eI (k : Int)) (heap_alloc_new _ _)) (by omega) (by unfold maxLen; omega) (HB2.out.alloc HB2.out.size _).size (fun v' w' hv hg => ?_); have HV := Lib.hid hv; have HGr := Lib.hid (grown_below hg (fun b hb => (HO2.out.lt b hb).1) (HB2.out.alloc HB2.out.size _).size); clear hv hg))
        go_roundw
        case rel => exact ⟨k + 1, by omega, by go_num, by show OwnE _ _ _ _ _ _ _; rw [HI2.out]; simpa using HV.out, (HB2.out.alloc HB2.out.size _).trans HGr.out⟩
        case measure => simp [intOf]; omega
    · have h1i : ¬ (k : Int) < n := by omega
      obtain rfl : k = n := by omega
      obtain ⟨_, ⟨_, h3⟩ | ⟨g, cap, cur, hv, hg, hh, hcl, _, _, ht⟩⟩ := HO.out
      · exact absurd (List.length_eq_zero_iff.1 h3) HNe.out
      subst hv
      have hlen : (idx xs k).length ≤ k := idx_len xs k
      obtain ⟨tail, htl⟩ : ∃ tail, tail = cur.toList.drop (idx xs k).length := ⟨_, rfl⟩
      have HI : Hid (IRow wr g (idx xs k).toArray tail 3) := by
        show wr.heap[g]? = _
        rw [hh, htl]
        have e : (idx xs k).flatMap eI = cur.toList.take (idx xs k).length := by rw [← ht, Nat.mul_one]
        show _ = some (Obj.cells ((idx xs k).flatMap eI ++ _).toArray _ _)
        rw [e, List.take_append_drop]
      have hbg : w.heap.size < g := by have := lt_heap HX0.out; omega
      have HF : Hid (CloF w.heap.size g (cF xs) (fun v => 0 ≤ v ∧ v < k) wr) := fun W x y hT hx hy => by
        obtain ⟨i, rfl⟩ : ∃ i : Nat, x = (i : Int) := ⟨x.toNat, by omega⟩
        obtain ⟨j, rfl⟩ : ∃ j : Nat, y = (j : Int) := ⟨y.toNat, by omega⟩
        have hi : i < k := by omega
        have hj : j < k := by omega
        have hb := HB0.out.trans (HB.out.mono HB0.out.size)
        have hq : SlAt caC 51 W q xs := fun m hm => by
          obtain ⟨b, o, h1, h2, h3⟩ := HQ.out m hm
          have hbw := hb.size
          exact ⟨b, o, h1, by have := hT.size; omega, range_of_block h3 ((hT.block b (by omega) (by simp; omega)).trans (hb.block b h2))⟩
        have := clo_any w.heap.size q k c xs i j hi hj W HN.out hq ((hT.block _ (lt_heap HXr.out) (by simp; omega)).trans HXr.out)
        have e1 : cF xs (i : Int) (j : Int) = cmpC (xs[i]'(by rw [HN.out]; exact hi)) (xs[j]'(by rw [HN.out]; exact hj)) := by
          unfold cF caAt
          rw [Int.toNat_natCast, Int.toNat_natCast, List.getD_eq_getElem?_getD, List.getD_eq_getElem?_getD, List.getElem?_eq_getElem (by rw [HN.out]; exact hi), List.getElem?_eq_getElem (by rw [HN.out]; exact hj)]
          rfl
        rw [e1]
        exact this
      have KS := Lib.hid (sortI_any w.heap.size g cap (idx xs k).length (cF xs) (fun v => 0 ≤ v ∧ v < k) (idx xs k).toArray tail 3 wr HF.out (fun i hi => by
        have hi' : i < (idx xs k).length := by simpa using hi
        rw [getElem!_pos _ i hi]
        have := idx_lt xs k ((idx xs k)[i]) (List.getElem_mem hi')
        simpa using this) HI.out (by simp) (by omega))
      have HS : Hid (ordS xs = (Sort.insertionSort (ltF (cF xs)) (idx xs k).toArray 0 (idx xs k).length).toList) := by show _ = _; unfold ordS; rw [HN.out]
      generalize hil : (idx xs k).length = m at *
      have HM := Lib.hid hil
      clear hil hh ht hcl htl
      go_wp2_with (go_at_call 21; (refine KS.out.mono ?_); rintro e W2 ⟨rfl, hw2, ht2⟩; have HW2 := Lib.hid hw2; have HT2 := Lib.hid ht2; clear hw2 ht2)
      go_ret
      have hbb := HB0.out.trans (HB.out.mono HB0.out.size)
      refine ⟨_, rfl, g, cap, tail, by rw [HM.out]; rfl, ?_, hbb.trans (HT2.out.below (fun k hk => by simp at hk; omega) hbb.size)⟩
      rw [HS.out]
      exact HW2.out
end Go.Proofs.Ythimpgnagjgmdaa
