/- Pending; are two rows the same. -/
import Derived.Test.YthimpgnagjgmdaaH23
namespace Go.Proofs.Ythimpgnagjgmdaa
open Go.RowKit Go.Sort

/-- The places of the calls that have not ended, of the first k. -/
def pend (xs : List Ca) (k : Nat) : List Int := ((List.range k).filter fun i => decide ((xs.getD i ca0).en < 0)).map fun i : Nat => (i : Int)
theorem pend_succ (xs : List Ca) (k : Nat) (b : Bool) (h : decide ((xs.getD k ca0).en < 0) = b) : pend xs (k + 1) = if b = true then pend xs k ++ [(k : Int)] else pend xs k := by
  unfold pend
  rw [List.range_succ, List.filter_append, List.map_append, List.filter_cons, h]
  cases b <;> simp
theorem pend_len (xs : List Ca) (k : Nat) : (pend xs k).length ≤ k := by
  unfold pend
  rw [List.length_map]
  exact Nat.le_trans (List.length_filter_le _ _) (by simp)
set_option maxRecDepth 100000 in
set_option maxHeartbeats 8000000 in
theorem pending_any (q : Option Addr) (n c : Nat) (xs : List Ca) (w : World) (hn : xs.length = n) (hn30 : n ≤ 30) (hq : SlAt caC 51 w q xs) :
    Calls Try.prog 13 #[.slice q n c] w fun e w' => ∃ v, e = .returned v ∧ ∃ q cap, v = .slice q (pend xs n).length cap ∧ SlAt eI 1 w' q (pend xs n) ∧ Below w.heap.size w w' := by
  have HN := Lib.hid hn
  have HQ := Lib.hid hq
  clear hn hq
  go_enter Try.func13, Try.ntmps13
  go_wp2_with fail
  go_loopw [3, 7] (fun vo vi wr => ∃ k : Nat, k ≤ n ∧ vi = .int .i64 k ∧ Hid (OwnE eI 3 1 wr w.heap.size vo (pend xs k)) ∧ Hid (Below w.heap.size w wr)) (fun _ vi _ => n - (intOf vi).toNat)
  case atStart => exact ⟨0, Nat.zero_le _, rfl, (show OwnE eI 3 1 w _ _ [] from OwnE.nil _ _), Below.refl _ _⟩
  case round =>
    obtain ⟨k, hk, rfl, HO, HB⟩ := hrel
    by_cases h1 : k < n
    · have h1i : (k : Int) < n := by omega
      obtain ⟨b, o, rfl, hbs, hro⟩ := HQ.out k (by rw [HN.out]; exact h1)
      obtain ⟨x, hx⟩ : ∃ x, x = xs[k]'(by rw [HN.out]; exact h1) := ⟨_, rfl⟩
      rw [← hx] at hro
      have hen : wr.cell? ⟨b, o + k * 51 + 2, none⟩ = some (.int .i64 x.en) := by rw [cellB HB.out hbs]; exact hro 2 _ (ca_cell _ 2 _ rfl)
      have HI : ∀ b, decide (x.en < 0) = b → Hid (pend xs (k + 1) = if b = true then pend xs k ++ [(k : Int)] else pend xs k) := fun b hb => pend_succ xs k b (by rw [List.getD_eq_getElem?_getD, List.getElem?_eq_getElem (by rw [HN.out]; exact h1), ← hx]; exact hb)
      clear hro hx hbs
      have hil : (pend xs k).length ≤ 30 := Nat.le_trans (pend_len xs k) (by omega)
      generalize x.en = en at *
      by_cases hcb : en < 0
      · have HI2 := HI true (decide_eq_true hcb)
        clear HI
        go_wp2_with (at_builtin; refine wl_app1 (k := 1) (enc := eI) 26 3 8 (.int .i64 0) Try.underlying26 info3 rfl (by omega) eI_len (fun x u hu => by simp [eI] at hu; subst hu; rfl) rfl (.tmp 16) (.tmp 18) rfl w.heap.size u3 (pend xs k) rfl (HO.out.below (below_alloc1 _ _)) _ _ (k : Int) rfl (range_whole (vs := eI (k : Int)) (heap_alloc_new _ _)) (by omega) (by unfold maxLen; omega) (HB.out.alloc HB.out.size _).size (fun v' w' hv hg => ?_); have HV := Lib.hid hv; have HGr := Lib.hid (grown_below hg (fun b hb => (HO.out.lt b hb).1) (HB.out.alloc HB.out.size _).size); clear hv hg)
        go_roundw
        case rel => exact ⟨k + 1, by omega, by go_num, by show OwnE _ _ _ _ _ _ _; rw [HI2.out]; simpa using HV.out, (HB.out.alloc HB.out.size _).trans HGr.out⟩
        case measure => simp [intOf]; omega
      · have HI2 := HI false (decide_eq_false hcb)
        clear HI
        go_wp2_with fail
        go_roundw
        case rel => exact ⟨k + 1, by omega, by go_num, by show OwnE _ _ _ _ _ _ _; rw [HI2.out]; simpa using HO.out, HB⟩
        case measure => simp [intOf]; omega
    · have h1i : ¬ (k : Int) < n := by omega
      obtain rfl : k = n := by omega
      obtain ⟨qo, co, rfl, _, _, hsl, _⟩ := HO.out.at eI_len
      have HSl := Lib.hid hsl
      clear hsl
      go_wp2_with fail
      go_ret
      exact ⟨_, rfl, qo, ⟨co, rfl⟩, HSl.out, HB.out⟩
set_option maxRecDepth 100000 in
set_option maxHeartbeats 8000000 in
theorem same30_any (q1 : Option Addr) (n c1 : Nat) (q2 : Option Addr) (c2 : Nat) (l : List Int) (w : World) (hn : l.length = n) (hn30 : n ≤ 30) (h1 : SlAt eI 1 w q1 l) (h2 : SlAt eI 1 w q2 l) :
    Calls Try.prog 10 #[.slice q1 n c1, .slice q2 n c2] w fun e w' => e = .returned (.bool true) ∧ Below w.heap.size w w' := by
  have HN := Lib.hid hn
  have H1 := Lib.hid h1
  have H2 := Lib.hid h2
  clear hn h1 h2
  go_enter Try.func10, Try.ntmps10
  go_wp2_with fail
  go_loopw [5] (fun vi wr => ∃ k : Nat, k ≤ n ∧ vi = .int .i64 k ∧ Hid (Below w.heap.size w wr)) (fun vi _ => n - (intOf vi).toNat)
  case atStart => exact ⟨0, Nat.zero_le _, rfl, Below.refl _ _⟩
  case round =>
    obtain ⟨k, hk, rfl, HB⟩ := hrel
    by_cases hlt : k < n
    · have h1i : (k : Int) < n := by omega
      obtain ⟨b1, o1, rfl, hb1, hr1⟩ := H1.out k (by rw [HN.out]; exact hlt)
      obtain ⟨b2, o2, rfl, hb2, hr2⟩ := H2.out k (by rw [HN.out]; exact hlt)
      obtain ⟨z, hz⟩ : ∃ z, z = l[k]'(by rw [HN.out]; exact hlt) := ⟨_, rfl⟩
      rw [← hz] at hr1 hr2
      have hc1 : wr.cell? ⟨b1, o1 + k, none⟩ = some (.int .i64 z) := by
        rw [cellB HB.out hb1]
        have := hr1 0 _ rfl
        simpa using this
      have hc2 : wr.cell? ⟨b2, o2 + k, none⟩ = some (.int .i64 z) := by
        rw [cellB HB.out hb2]
        have := hr2 0 _ rfl
        simpa using this
      clear hr1 hr2 hz
      have hl1 : b1 < wr.heap.size := Nat.lt_of_lt_of_le hb1 HB.out.size
      have hl2 : b2 < wr.heap.size := Nat.lt_of_lt_of_le hb2 HB.out.size
      go_upto_region 6 with fail
      refine wp_region_quiet_below (by kernel_rfl) (by kernel_rfl) ?_
      repeat (first
        | go_big_quiet_skip
        | (refine wq_one rfl 3 (.tmp 19) rfl b1 (o1 + k) (.int .i64 z) ag3 rfl hc1 hl1 ?_; simp only [Act.put, List.setIfInBounds_toArray, List.set_cons_zero, List.set_cons_succ])
        | (refine wq_one rfl 3 (.tmp 23) rfl b2 (o2 + k) (.int .i64 z) ag3 rfl hc2 hl2 ?_; simp only [Act.put, List.setIfInBounds_toArray, List.set_cons_zero, List.set_cons_succ])
        | go_big_quiet_step (fail))
      refine wpQuiet_nil ?_
      rintro _ ⟨⟨dq, osq⟩, rfl⟩
      have HB3 := Lib.hid (HB.out.trans ((below_regrown wr dq osq).mono HB.out.size))
      generalize Sort.grow (redrawn wr dq) osq = W3 at *
      go_wp2_with fail
      go_roundw
      case rel => exact ⟨k + 1, by omega, by go_num, HB3⟩
      case measure => simp [intOf]; omega
    · have h1i : ¬ (k : Int) < n := by omega
      go_wp2_with fail
      go_ret
      exact ⟨rfl, HB.out⟩
end Go.Proofs.Ythimpgnagjgmdaa
