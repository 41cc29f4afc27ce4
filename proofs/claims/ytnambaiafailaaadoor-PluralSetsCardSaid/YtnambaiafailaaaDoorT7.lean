/- PluralSets: the walk. -/
import Derived.Test.YtnambaiafailaaaDoorS7
namespace Go.Proofs.YtnambaiafailaaaDoor
open Go.RowKit

def seekI (s : ByteArray) : Nat → Int × Bool
  | 0 => (0, false)
  | k + 1 => if wordI (k : Int) = s then ((k : Int), true) else seekI s k
theorem seek_read (s : ByteArray) : seekI s 6 = (if readI s < 0 then 0 else readI s, decide (0 ≤ readI s)) := by
  have e : readI s = if (⟨#[122, 101, 114, 111]⟩ : ByteArray) = s then 0 else if (⟨#[111, 110, 101]⟩ : ByteArray) = s then 1 else if (⟨#[116, 119, 111]⟩ : ByteArray) = s then 2 else if (⟨#[102, 101, 119]⟩ : ByteArray) = s then 3 else if (⟨#[109, 97, 110, 121]⟩ : ByteArray) = s then 4 else if (⟨#[111, 116, 104, 101, 114]⟩ : ByteArray) = s then 5 else -1 := rfl
  have f : seekI s 6 = if (⟨#[111, 116, 104, 101, 114]⟩ : ByteArray) = s then (5, true) else if (⟨#[109, 97, 110, 121]⟩ : ByteArray) = s then (4, true) else if (⟨#[102, 101, 119]⟩ : ByteArray) = s then (3, true) else if (⟨#[116, 119, 111]⟩ : ByteArray) = s then (2, true) else if (⟨#[111, 110, 101]⟩ : ByteArray) = s then (1, true) else if (⟨#[122, 101, 114, 111]⟩ : ByteArray) = s then (0, true) else (0, false) := rfl
  rw [e, f]
  by_cases h0 : (⟨#[122, 101, 114, 111]⟩ : ByteArray) = s
  · subst h0; decide
  by_cases h1 : (⟨#[111, 110, 101]⟩ : ByteArray) = s
  · subst h1; decide
  by_cases h2 : (⟨#[116, 119, 111]⟩ : ByteArray) = s
  · subst h2; decide
  by_cases h3 : (⟨#[102, 101, 119]⟩ : ByteArray) = s
  · subst h3; decide
  by_cases h4 : (⟨#[109, 97, 110, 121]⟩ : ByteArray) = s
  · subst h4; decide
  by_cases h5 : (⟨#[111, 116, 104, 101, 114]⟩ : ByteArray) = s
  · subst h5; decide
  rw [if_neg h0, if_neg h1, if_neg h2, if_neg h3, if_neg h4, if_neg h5, if_neg h5, if_neg h4, if_neg h3, if_neg h2, if_neg h1, if_neg h0]
  rfl
def ivI : Nat → Int
  | 0 => -2 | 1 => -1 | 2 => 0 | 3 => 1 | 4 => 2 | 5 => 3 | 6 => 4 | 7 => 5 | 8 => 6 | 9 => 7 | _ => 8
def atN (g : Nat) (k : Nat) : Nat := (selI g (min (k - 2) 6)).length
theorem sel_at (g i : Nat) (hi : i < 6) (h : inB g (i : Int) = true) : ∃ hl : (selI g i).length < (selI g 6).length, (selI g 6)[(selI g i).length] = (i : Int) := by
  have hp : ∀ j, i + 1 ≤ j → ∃ r, selI g j = selI g i ++ (i : Int) :: r := by
    intro j hj
    induction j with
    | zero => omega
    | succ j ih =>
      rcases Nat.lt_or_ge i j with h1 | h1
      · obtain ⟨r, hr⟩ := ih (by omega)
        rw [selI_next, hr]
        exact ⟨r ++ (if inB g (j : Int) = true then [(j : Int)] else []), by simp⟩
      · obtain rfl : j = i := by omega
        rw [selI_next, if_pos h]
        exact ⟨[], by simp⟩
  obtain ⟨r, hr⟩ := hp 6 (by omega)
  have hl : (selI g i).length < (selI g 6).length := by rw [hr]; simp
  refine ⟨hl, ?_⟩
  simp [hr]
theorem sel_atN (g k : Nat) (hk : 2 ≤ k) (hk8 : k < 8) (h : inB g ((k - 2 : Nat) : Int) = true) : ∃ hl : atN g k < (selI g 6).length, (selI g 6)[atN g k] = ((k - 2 : Nat) : Int) := by
  have e : atN g k = (selI g (k - 2)).length := by unfold atN; rw [show min (k - 2) 6 = k - 2 by omega]
  obtain ⟨h1, h2⟩ := sel_at g (k - 2) (by omega) h
  rw [← h2]
  refine ⟨by rw [e]; exact h1, ?_⟩
  simp only [e]
theorem at_next (g k : Nat) (hk : 2 ≤ k) (hk8 : k < 8) : atN g (k + 1) = atN g k + if inB g ((k - 2 : Nat) : Int) then 1 else 0 := by
  unfold atN
  rw [show min (k + 1 - 2) 6 = (k - 2) + 1 by omega, show min (k - 2) 6 = k - 2 by omega, selI_next, List.length_append]
  split <;> simp
theorem neqS (x : ByteArray) (W : World) : (binOp .neq 9 (.string x) (.string x)).run Tryd.prog W = .ok (.bool false) W := by
  have h : (x.toList == x.toList) = true := by simp
  go_simp
theorem eqlSS (x y : ByteArray) (c : Bool) (h : decide (x = y) = c) : (∀ W, (binOp .eql 9 (.string x) (.string y)).run Tryd.prog W = .ok (.bool c) W) ∧ (x.toList == y.toList) = c := by
  have h2 : (x.toList == y.toList) = c := by
    rw [← h, ByteArray.toList_eq, ByteArray.toList_eq, Bool.eq_iff_iff, decide_eq_true_eq, beq_iff_eq]
    exact ⟨fun h => ByteArray.ext (Array.toList_inj.mp h), fun h => by rw [h]⟩
  exact ⟨fun W => by go_simp, h2⟩
set_option maxRecDepth 100000 in
set_option maxHeartbeats 16000000 in
theorem PluralSets_walkJ (b : List UInt8) (c : Int) (s : ByteArray) (m : Nat) (w : World) (hb : b.length = 10) (hmx : MX w) (hft : FT w) (hs : s.size ≤ 9223372036854775807) (hmin : min (s.size : Int) 20 = (m : Int)) :
    Calls Tryd.prog 10 #[.agg (bC b), .int .i64 c, .string s] w fun e w' => e = .returned (.bool true) ∧ Below w.heap.size w w' := by
  have hms : (m : Int) ≤ s.size := by omega
  have hm0 : (0 : Int) ≤ m := by omega
  have HG0 : Hid ((w.alloc (.cells (bC b) 29)).heap[w.heap.size]? = some (.cells (bC b) 29 (0, 0))) := heap_alloc_new _ _
  have HB0 : Hid (Below w.heap.size w (w.alloc (.cells (bC b) 29))) := below_alloc1 _ _
  have HGr : Hid (∀ W : World, Calls Tryd.prog 27 #[.agg (bC b)] W fun e w' => e = .returned (.int .i64 ((grpL (langB b) : Nat) : Int)) ∧ Below W.heap.size W w') := fun W => group_any b W hb
  have HKn : Hid (∀ W, Below w.heap.size w W → Calls Tryd.prog 28 #[] W fun e w' => e = .returned (.bool true) ∧ Below W.heap.size W w') := fun W hW => known7_any W (hmx.below hW)
  have HIn : Hid (∀ (c : Int) (W : World), Below w.heap.size w W → Calls Tryd.prog 35 #[.agg (bC b), .int .i64 c] W fun e w' => e = .returned (.bool (inB (grpL (langB b)) c)) ∧ Below W.heap.size W w') := fun c W hW => in_any b c W hb (hmx.below hW)
  have HSt : Hid (∀ W, Below w.heap.size w W → Calls Tryd.prog 38 #[.agg (bC b)] W fun e w' => Below W.heap.size W w' ∧ ∃ v, e = .returned v ∧ OwnE eI 3 1 w' W.heap.size v (selI (grpL (langB b)) 6)) := fun W hW => set_any b W hb (hmx.below hW)
  have HRS : Hid (∀ W, Calls Tryd.prog 37 #[.int .i64 ((grpL (langB b) : Nat) : Int)] W fun e w' => e = .returned (.agg (boC (inL (grpL (langB b))))) ∧ Below W.heap.size W w') := fun W => refSet_any _ W (grpL_cases _)
  have HWd : Hid (∀ (c : Int) (W : World), Below w.heap.size w W → Calls Tryd.prog 39 #[.int .i64 c] W fun e w' => e = .returned (.string (wordI c)) ∧ Below W.heap.size W w') := fun c W hW => word_any c W (hft.below hW)
  have HRW : Hid (∀ (c : Int) (W : World), Calls Tryd.prog 40 #[.int .i64 c] W fun e w' => e = .returned (.string (wordI c)) ∧ Below W.heap.size W w') := fun c W => refWord_any c W
  have HRd : Hid (∀ (s : ByteArray) (W : World), Below w.heap.size w W → Calls Tryd.prog 41 #[.string s] W fun e w' => e = .returned (.tuple #[.int .i64 (if readI s < 0 then 0 else readI s), .int .i64 (if readI s < 0 then 15 else 0)]) ∧ Below W.heap.size W w') := fun s W hW => read_any s W (hft.below hW)
  have H10 := Lib.hid hb
  clear hb hmx hft
  generalize grpL (langB b) = g at *
  go_enter Tryd.func10, Tryd.ntmps10
  go_wp2_with (first
    | (with_reducible refine ld_T rfl _ rfl w.heap.size b H10.out rfl HG0.out ?_)
    | (go_at_call 27; (refine (HGr.out _).mono ?_); rintro e w1 ⟨rfl, hb1⟩; have HB1 := Lib.hid (HB0.out.trans (hb1.mono HB0.out.size)); have HG1 : Hid (w1.heap[w.heap.size]? = some (.cells (bC b) 29 (0, 0))) := (by (show _ = _; rw [hb1.block _ (lt_heap HG0.out)]; exact HG0.out)); clear hb1)
    | (go_at_call 37; (refine (HRS.out _).mono ?_); rintro e w2 ⟨rfl, hb2⟩; have HB2 := Lib.hid (HB1.out.trans (hb2.mono HB1.out.size)); have HG2 : Hid ((w2.alloc (.cells (boC (inL g)) 68)).heap[w.heap.size]? = some (.cells (bC b) 29 (0, 0))) := (by (show _ = _; rw [heap_alloc_old _ _ (Nat.lt_of_lt_of_le (lt_heap HG1.out) hb2.size), hb2.block _ (lt_heap HG1.out)]; exact HG1.out)); have HB2a := Lib.hid (HB2.out.alloc HB2.out.size (.cells (boC (inL g)) 68)); have HS2 : Hid ((w2.alloc (.cells (boC (inL g)) 68)).heap[w2.heap.size]? = some (.cells (boC (inL g)) 68 (0, 0))) := heap_alloc_new _ _; clear hb2)
    | ((with_reducible refine gate_st 68 _ _ rfl ?_); refine wl_strn rfl 68 _ _ rfl (boC (inL g)) _ _ (by rw [siz6]; rfl) rfl (boC_one _) rfl rfl ?_)
    | (with_reducible refine ld_T rfl _ rfl w.heap.size b H10.out rfl HG2.out ?_)
    | (go_at_call 38; (refine (HSt.out _ HB2a.out).mono ?_); rintro e w3 ⟨hb3, v, rfl, ho3⟩; obtain ⟨ql, cl, rfl, hcl, hml, hsl, _⟩ := ho3.at eI_len; have HSL := Lib.hid hsl; have HB3 := Lib.hid (HB2a.out.trans (hb3.mono HB2a.out.size)); have HG3 : Hid (w3.heap[w.heap.size]? = some (.cells (bC b) 29 (0, 0))) := (by (show _ = _; rw [hb3.block _ (lt_heap HG2.out)]; exact HG2.out)); have HS3 : Hid (w3.heap[w2.heap.size]? = some (.cells (boC (inL g)) 68 (0, 0))) := (by (show _ = _; rw [hb3.block _ (lt_heap HS2.out)]; exact HS2.out)); clear hb3 ho3 hsl))
  have hn6 := selI_len g 6
  have HSA := Lib.hid (sel_atN g)
  have HAN := Lib.hid (at_next g)
  have HA10 : Hid (atN g 10 = (selI g 6).length) := rfl
  have HA2 : Hid (atN g 0 = 0 ∧ atN g 1 = 0 ∧ atN g 2 = 0 ∧ atN g 8 = atN g 10 ∧ atN g 9 = atN g 10) := ⟨rfl, rfl, rfl, rfl, rfl⟩
  have HO_1 : Hid (inB g (-2) = false ∧ inB g (-1) = false ∧ inB g 6 = false ∧ inB g 7 = false) := ⟨rfl, rfl, rfl, rfl⟩
  generalize selI g 6 = ls at *
  clear HG0 HB0 HG1 HB1 HG2 HS2 HB2 HB2a HGr HSt HRS
  obtain ⟨S, hS⟩ : ∃ S : ByteArray, S = s.extract 0 m := ⟨_, rfl⟩
  rw [← hS]
  clear hS
  go_loopw [9, 10] (fun at_ i wr => ∃ k : Nat, k ≤ 10 ∧ i = .int .i64 (ivI k) ∧ at_ = .int .i64 (atN g k : Int) ∧ Hid (Below w3.heap.size w3 wr)) (fun _ i _ => (8 - intOf i).toNat)
  case atStart => exact ⟨0, by omega, rfl, rfl, Below.refl _ _⟩
  case round =>
    obtain ⟨k, hk, rfl, rfl, HW⟩ := hrel
    have HGw : Hid (wr.heap[w.heap.size]? = some (.cells (bC b) 29 (0, 0))) := by show _ = _; rw [HW.out.block _ (lt_heap HG3.out)]; exact HG3.out
    have HSw : Hid (wr.heap[w2.heap.size]? = some (.cells (boC (inL g)) 68 (0, 0))) := by show _ = _; rw [HW.out.block _ (lt_heap HS3.out)]; exact HS3.out
    have HBw := Lib.hid (HB3.out.trans (HW.out.mono HB3.out.size))
    by_cases hlt : k < 10
    · rcases (show k = 0 ∨ k = 1 ∨ k = 2 ∨ k = 3 ∨ k = 4 ∨ k = 5 ∨ k = 6 ∨ k = 7 ∨ k = 8 ∨ k = 9 by omega) with rfl | rfl | rfl | rfl | rfl | rfl | rfl | rfl | rfl | rfl
      · simp only [ivI]
        have HIk : Hid (∀ W, Below w.heap.size w W → Calls Tryd.prog 35 #[.agg (bC b), .int .i64 (-2)] W fun e w' => e = .returned (.bool false) ∧ Below W.heap.size W w') := fun W hW => by have := HIn.out (-2) W hW; rwa [HO_1.out.1] at this
        have HWk := Lib.hid (HWd.out (-2))
        have HRk := Lib.hid (HRW.out (-2))
        clear HIn HWd HRW HSA HAN HO_1 HSw HRd HKn
        generalize wordI (-2) = ws at *
        have hneq := neqS ws
        go_wp2_with (first
          | (with_reducible refine ld_T rfl _ rfl w.heap.size b H10.out rfl HGw.out ?_)
          | (go_at_call 35; (refine (HIk.out _ HBw.out).mono ?_); rintro e w4 ⟨rfl, hb4⟩; have HB4 := Lib.hid (HW.out.trans (hb4.mono HW.out.size)); clear hb4)
          | (go_at_call 39; (refine (HWk.out _ (HB3.out.trans (HB4.out.mono HB3.out.size))).mono ?_); rintro e w5 ⟨rfl, hb5⟩; have HB5 := Lib.hid (HB4.out.trans (hb5.mono HB4.out.size)); clear hb5)
          | (go_at_call 40; (refine (HRk.out _).mono ?_); rintro e w6 ⟨rfl, hb6⟩; have HB6 := Lib.hid (HB5.out.trans (hb6.mono HB5.out.size)); clear hb6))
        go_roundw
        case rel => exact ⟨1, by omega, rfl, rfl, HB6.out⟩
        case measure => simp [intOf]
      · simp only [ivI]
        have HIk : Hid (∀ W, Below w.heap.size w W → Calls Tryd.prog 35 #[.agg (bC b), .int .i64 (-1)] W fun e w' => e = .returned (.bool false) ∧ Below W.heap.size W w') := fun W hW => by have := HIn.out (-1) W hW; rwa [HO_1.out.2.1] at this
        have HWk := Lib.hid (HWd.out (-1))
        have HRk := Lib.hid (HRW.out (-1))
        clear HIn HWd HRW HSA HAN HO_1 HSw HRd HKn
        generalize wordI (-1) = ws at *
        have hneq := neqS ws
        go_wp2_with (first
          | (with_reducible refine ld_T rfl _ rfl w.heap.size b H10.out rfl HGw.out ?_)
          | (go_at_call 35; (refine (HIk.out _ HBw.out).mono ?_); rintro e w4 ⟨rfl, hb4⟩; have HB4 := Lib.hid (HW.out.trans (hb4.mono HW.out.size)); clear hb4)
          | (go_at_call 39; (refine (HWk.out _ (HB3.out.trans (HB4.out.mono HB3.out.size))).mono ?_); rintro e w5 ⟨rfl, hb5⟩; have HB5 := Lib.hid (HB4.out.trans (hb5.mono HB4.out.size)); clear hb5)
          | (go_at_call 40; (refine (HRk.out _).mono ?_); rintro e w6 ⟨rfl, hb6⟩; have HB6 := Lib.hid (HB5.out.trans (hb6.mono HB5.out.size)); clear hb6))
        go_roundw
        case rel => exact ⟨2, by omega, rfl, rfl, HB6.out⟩
        case measure => simp [intOf]
      · simp only [ivI]
        cases hEq0 : inB g 0
        · have HEq := Lib.hid hEq0
          clear hEq0
          have HIk : Hid (∀ W, Below w.heap.size w W → Calls Tryd.prog 35 #[.agg (bC b), .int .i64 (0)] W fun e w' => e = .returned (.bool false) ∧ Below W.heap.size W w') := fun W hW => by have := HIn.out (0) W hW; rwa [HEq.out] at this
          have HWk := Lib.hid (HWd.out (0))
          have HRk := Lib.hid (HRW.out (0))
          have hset : wr.cell? ⟨w2.heap.size, 0, none⟩ = some (.bool false) := by rw [cell_blk HSw.out]; show (boC (inL g))[0]? = _; simp [boC, inL]; exact HEq.out
          have hmn : min (0 : Int) 5 = 0 := by decide
          have hmx : max (0 : Int) 0 = 0 := by decide
          have HNx := Lib.hid (HAN.out 2 (by omega) (by omega))
          rw [show inB g ((2 - 2 : Nat) : Int) = false from HEq.out] at HNx
          clear HIn HWd HRW HSA HAN HO_1 HSw HRd HKn HEq
          generalize wordI (0) = ws at *
          have hneq := neqS ws
          generalize ha : atN g 2 = aN at *
          have Ha := Lib.hid ha
          clear ha
          go_wp2_with (first
            | (with_reducible refine ld_T rfl _ rfl w.heap.size b H10.out rfl HGw.out ?_)
            | (go_at_call 35; (refine (HIk.out _ HBw.out).mono ?_); rintro e w4 ⟨rfl, hb4⟩; have HB4 := Lib.hid (HW.out.trans (hb4.mono HW.out.size)); clear hb4)
            | (go_at_call 39; (refine (HWk.out _ (HB3.out.trans (HB4.out.mono HB3.out.size))).mono ?_); rintro e w5 ⟨rfl, hb5⟩; have HB5 := Lib.hid (HB4.out.trans (hb5.mono HB4.out.size)); clear hb5)
            | (go_at_call 40; (refine (HRk.out _).mono ?_); rintro e w6 ⟨rfl, hb6⟩; have HB6 := Lib.hid (HB5.out.trans (hb6.mono HB5.out.size)); clear hb6))
          go_roundw
          case rel => exact ⟨3, by omega, rfl, by rw [show atN g 3 = aN + _ from HNx.out]; first | rfl | go_num, HB6.out⟩
          case measure => simp [intOf]
        · have HEq := Lib.hid hEq0
          clear hEq0
          have HIk : Hid (∀ W, Below w.heap.size w W → Calls Tryd.prog 35 #[.agg (bC b), .int .i64 (0)] W fun e w' => e = .returned (.bool true) ∧ Below W.heap.size W w') := fun W hW => by have := HIn.out (0) W hW; rwa [HEq.out] at this
          have HWk := Lib.hid (HWd.out (0))
          have HRk := Lib.hid (HRW.out (0))
          have hset : wr.cell? ⟨w2.heap.size, 0, none⟩ = some (.bool true) := by rw [cell_blk HSw.out]; show (boC (inL g))[0]? = _; simp [boC, inL]; exact HEq.out
          have hmn : min (0 : Int) 5 = 0 := by decide
          have hmx : max (0 : Int) 0 = 0 := by decide
          have HNx := Lib.hid (HAN.out 2 (by omega) (by omega))
          rw [show inB g ((2 - 2 : Nat) : Int) = true from HEq.out] at HNx
          obtain ⟨hl1, hv1⟩ := HSA.out 2 (by omega) (by omega) HEq.out
          obtain ⟨bl, ol, hql, hbl, hrl⟩ := HSL.out (atN g 2) hl1
          have HCl : Hid (w3.cell? ⟨bl, ol + atN g 2, none⟩ = some (.int .i64 0)) := by have := hrl 0 _ rfl; rw [Nat.mul_one, Nat.add_zero, hv1] at this; exact this
          have HBl : Hid (bl < w3.heap.size) := hbl
          have hl2 : (atN g 2 : Int) < ls.length := by omega
          have hl3 : (atN g 2 : Int) ≤ 6 := by omega
          have hl4 : (0 : Int) ≤ (atN g 2 : Int) := by omega
          subst hql
          clear hrl hbl hv1 hl1
          clear HIn HWd HRW HSA HAN HO_1 HSw HRd HKn HEq
          generalize wordI (0) = ws at *
          have hneq := neqS ws
          generalize ha : atN g 2 = aN at *
          have Ha := Lib.hid ha
          clear ha
          go_wp2_with (first
            | (with_reducible refine ld_T rfl _ rfl w.heap.size b H10.out rfl HGw.out ?_)
            | (go_at_call 35; (refine (HIk.out _ HBw.out).mono ?_); rintro e w4 ⟨rfl, hb4⟩; have HB4 := Lib.hid (HW.out.trans (hb4.mono HW.out.size)); clear hb4)
            | (go_at_call 39; (refine (HWk.out _ (HB3.out.trans (HB4.out.mono HB3.out.size))).mono ?_); rintro e w5 ⟨rfl, hb5⟩; have HB5 := Lib.hid (HB4.out.trans (hb5.mono HB4.out.size)); clear hb5)
            | (go_at_call 40; (refine (HRk.out _).mono ?_); rintro e w6 ⟨rfl, hb6⟩; have HB6 := Lib.hid (HB5.out.trans (hb6.mono HB5.out.size)); clear hb6; have hcl6 := (HB6.out.cell (p := ⟨bl, ol + aN, none⟩) HBl.out).trans HCl.out))
          go_roundw
          case rel => exact ⟨3, by omega, rfl, by rw [show atN g 3 = aN + _ from HNx.out]; first | rfl | go_num, HB6.out⟩
          case measure => simp [intOf]
      · simp only [ivI]
        cases hEq0 : inB g 1
        · have HEq := Lib.hid hEq0
          clear hEq0
          have HIk : Hid (∀ W, Below w.heap.size w W → Calls Tryd.prog 35 #[.agg (bC b), .int .i64 (1)] W fun e w' => e = .returned (.bool false) ∧ Below W.heap.size W w') := fun W hW => by have := HIn.out (1) W hW; rwa [HEq.out] at this
          have HWk := Lib.hid (HWd.out (1))
          have HRk := Lib.hid (HRW.out (1))
          have hset : wr.cell? ⟨w2.heap.size, 1, none⟩ = some (.bool false) := by rw [cell_blk HSw.out]; show (boC (inL g))[1]? = _; simp [boC, inL]; exact HEq.out
          have hmn : min (1 : Int) 5 = 1 := by decide
          have hmx : max (1 : Int) 0 = 1 := by decide
          have HNx := Lib.hid (HAN.out 3 (by omega) (by omega))
          rw [show inB g ((3 - 2 : Nat) : Int) = false from HEq.out] at HNx
          clear HIn HWd HRW HSA HAN HO_1 HSw HRd HKn HEq
          generalize wordI (1) = ws at *
          have hneq := neqS ws
          generalize ha : atN g 3 = aN at *
          have Ha := Lib.hid ha
          clear ha
          go_wp2_with (first
            | (with_reducible refine ld_T rfl _ rfl w.heap.size b H10.out rfl HGw.out ?_)
            | (go_at_call 35; (refine (HIk.out _ HBw.out).mono ?_); rintro e w4 ⟨rfl, hb4⟩; have HB4 := Lib.hid (HW.out.trans (hb4.mono HW.out.size)); clear hb4)
            | (go_at_call 39; (refine (HWk.out _ (HB3.out.trans (HB4.out.mono HB3.out.size))).mono ?_); rintro e w5 ⟨rfl, hb5⟩; have HB5 := Lib.hid (HB4.out.trans (hb5.mono HB4.out.size)); clear hb5)
            | (go_at_call 40; (refine (HRk.out _).mono ?_); rintro e w6 ⟨rfl, hb6⟩; have HB6 := Lib.hid (HB5.out.trans (hb6.mono HB5.out.size)); clear hb6))
          go_roundw
          case rel => exact ⟨4, by omega, rfl, by rw [show atN g 4 = aN + _ from HNx.out]; first | rfl | go_num, HB6.out⟩
          case measure => simp [intOf]
        · have HEq := Lib.hid hEq0
          clear hEq0
          have HIk : Hid (∀ W, Below w.heap.size w W → Calls Tryd.prog 35 #[.agg (bC b), .int .i64 (1)] W fun e w' => e = .returned (.bool true) ∧ Below W.heap.size W w') := fun W hW => by have := HIn.out (1) W hW; rwa [HEq.out] at this
          have HWk := Lib.hid (HWd.out (1))
          have HRk := Lib.hid (HRW.out (1))
          have hset : wr.cell? ⟨w2.heap.size, 1, none⟩ = some (.bool true) := by rw [cell_blk HSw.out]; show (boC (inL g))[1]? = _; simp [boC, inL]; exact HEq.out
          have hmn : min (1 : Int) 5 = 1 := by decide
          have hmx : max (1 : Int) 0 = 1 := by decide
          have HNx := Lib.hid (HAN.out 3 (by omega) (by omega))
          rw [show inB g ((3 - 2 : Nat) : Int) = true from HEq.out] at HNx
          obtain ⟨hl1, hv1⟩ := HSA.out 3 (by omega) (by omega) HEq.out
          obtain ⟨bl, ol, hql, hbl, hrl⟩ := HSL.out (atN g 3) hl1
          have HCl : Hid (w3.cell? ⟨bl, ol + atN g 3, none⟩ = some (.int .i64 1)) := by have := hrl 0 _ rfl; rw [Nat.mul_one, Nat.add_zero, hv1] at this; exact this
          have HBl : Hid (bl < w3.heap.size) := hbl
          have hl2 : (atN g 3 : Int) < ls.length := by omega
          have hl3 : (atN g 3 : Int) ≤ 6 := by omega
          have hl4 : (0 : Int) ≤ (atN g 3 : Int) := by omega
          subst hql
          clear hrl hbl hv1 hl1
          clear HIn HWd HRW HSA HAN HO_1 HSw HRd HKn HEq
          generalize wordI (1) = ws at *
          have hneq := neqS ws
          generalize ha : atN g 3 = aN at *
          have Ha := Lib.hid ha
          clear ha
          go_wp2_with (first
            | (with_reducible refine ld_T rfl _ rfl w.heap.size b H10.out rfl HGw.out ?_)
            | (go_at_call 35; (refine (HIk.out _ HBw.out).mono ?_); rintro e w4 ⟨rfl, hb4⟩; have HB4 := Lib.hid (HW.out.trans (hb4.mono HW.out.size)); clear hb4)
            | (go_at_call 39; (refine (HWk.out _ (HB3.out.trans (HB4.out.mono HB3.out.size))).mono ?_); rintro e w5 ⟨rfl, hb5⟩; have HB5 := Lib.hid (HB4.out.trans (hb5.mono HB4.out.size)); clear hb5)
            | (go_at_call 40; (refine (HRk.out _).mono ?_); rintro e w6 ⟨rfl, hb6⟩; have HB6 := Lib.hid (HB5.out.trans (hb6.mono HB5.out.size)); clear hb6; have hcl6 := (HB6.out.cell (p := ⟨bl, ol + aN, none⟩) HBl.out).trans HCl.out))
          go_roundw
          case rel => exact ⟨4, by omega, rfl, by rw [show atN g 4 = aN + _ from HNx.out]; first | rfl | go_num, HB6.out⟩
          case measure => simp [intOf]
      · simp only [ivI]
        cases hEq0 : inB g 2
        · have HEq := Lib.hid hEq0
          clear hEq0
          have HIk : Hid (∀ W, Below w.heap.size w W → Calls Tryd.prog 35 #[.agg (bC b), .int .i64 (2)] W fun e w' => e = .returned (.bool false) ∧ Below W.heap.size W w') := fun W hW => by have := HIn.out (2) W hW; rwa [HEq.out] at this
          have HWk := Lib.hid (HWd.out (2))
          have HRk := Lib.hid (HRW.out (2))
          have hset : wr.cell? ⟨w2.heap.size, 2, none⟩ = some (.bool false) := by rw [cell_blk HSw.out]; show (boC (inL g))[2]? = _; simp [boC, inL]; exact HEq.out
          have hmn : min (2 : Int) 5 = 2 := by decide
          have hmx : max (2 : Int) 0 = 2 := by decide
          have HNx := Lib.hid (HAN.out 4 (by omega) (by omega))
          rw [show inB g ((4 - 2 : Nat) : Int) = false from HEq.out] at HNx
          clear HIn HWd HRW HSA HAN HO_1 HSw HRd HKn HEq
          generalize wordI (2) = ws at *
          have hneq := neqS ws
          generalize ha : atN g 4 = aN at *
          have Ha := Lib.hid ha
          clear ha
          go_wp2_with (first
            | (with_reducible refine ld_T rfl _ rfl w.heap.size b H10.out rfl HGw.out ?_)
            | (go_at_call 35; (refine (HIk.out _ HBw.out).mono ?_); rintro e w4 ⟨rfl, hb4⟩; have HB4 := Lib.hid (HW.out.trans (hb4.mono HW.out.size)); clear hb4)
            | (go_at_call 39; (refine (HWk.out _ (HB3.out.trans (HB4.out.mono HB3.out.size))).mono ?_); rintro e w5 ⟨rfl, hb5⟩; have HB5 := Lib.hid (HB4.out.trans (hb5.mono HB4.out.size)); clear hb5)
            | (go_at_call 40; (refine (HRk.out _).mono ?_); rintro e w6 ⟨rfl, hb6⟩; have HB6 := Lib.hid (HB5.out.trans (hb6.mono HB5.out.size)); clear hb6))
          go_roundw
          case rel => exact ⟨5, by omega, rfl, by rw [show atN g 5 = aN + _ from HNx.out]; first | rfl | go_num, HB6.out⟩
          case measure => simp [intOf]
        · have HEq := Lib.hid hEq0
          clear hEq0
          have HIk : Hid (∀ W, Below w.heap.size w W → Calls Tryd.prog 35 #[.agg (bC b), .int .i64 (2)] W fun e w' => e = .returned (.bool true) ∧ Below W.heap.size W w') := fun W hW => by have := HIn.out (2) W hW; rwa [HEq.out] at this
          have HWk := Lib.hid (HWd.out (2))
          have HRk := Lib.hid (HRW.out (2))
          have hset : wr.cell? ⟨w2.heap.size, 2, none⟩ = some (.bool true) := by rw [cell_blk HSw.out]; show (boC (inL g))[2]? = _; simp [boC, inL]; exact HEq.out
          have hmn : min (2 : Int) 5 = 2 := by decide
          have hmx : max (2 : Int) 0 = 2 := by decide
          have HNx := Lib.hid (HAN.out 4 (by omega) (by omega))
          rw [show inB g ((4 - 2 : Nat) : Int) = true from HEq.out] at HNx
          obtain ⟨hl1, hv1⟩ := HSA.out 4 (by omega) (by omega) HEq.out
          obtain ⟨bl, ol, hql, hbl, hrl⟩ := HSL.out (atN g 4) hl1
          have HCl : Hid (w3.cell? ⟨bl, ol + atN g 4, none⟩ = some (.int .i64 2)) := by have := hrl 0 _ rfl; rw [Nat.mul_one, Nat.add_zero, hv1] at this; exact this
          have HBl : Hid (bl < w3.heap.size) := hbl
          have hl2 : (atN g 4 : Int) < ls.length := by omega
          have hl3 : (atN g 4 : Int) ≤ 6 := by omega
          have hl4 : (0 : Int) ≤ (atN g 4 : Int) := by omega
          subst hql
          clear hrl hbl hv1 hl1
          clear HIn HWd HRW HSA HAN HO_1 HSw HRd HKn HEq
          generalize wordI (2) = ws at *
          have hneq := neqS ws
          generalize ha : atN g 4 = aN at *
          have Ha := Lib.hid ha
          clear ha
          go_wp2_with (first
            | (with_reducible refine ld_T rfl _ rfl w.heap.size b H10.out rfl HGw.out ?_)
            | (go_at_call 35; (refine (HIk.out _ HBw.out).mono ?_); rintro e w4 ⟨rfl, hb4⟩; have HB4 := Lib.hid (HW.out.trans (hb4.mono HW.out.size)); clear hb4)
            | (go_at_call 39; (refine (HWk.out _ (HB3.out.trans (HB4.out.mono HB3.out.size))).mono ?_); rintro e w5 ⟨rfl, hb5⟩; have HB5 := Lib.hid (HB4.out.trans (hb5.mono HB4.out.size)); clear hb5)
            | (go_at_call 40; (refine (HRk.out _).mono ?_); rintro e w6 ⟨rfl, hb6⟩; have HB6 := Lib.hid (HB5.out.trans (hb6.mono HB5.out.size)); clear hb6; have hcl6 := (HB6.out.cell (p := ⟨bl, ol + aN, none⟩) HBl.out).trans HCl.out))
          go_roundw
          case rel => exact ⟨5, by omega, rfl, by rw [show atN g 5 = aN + _ from HNx.out]; first | rfl | go_num, HB6.out⟩
          case measure => simp [intOf]
      · simp only [ivI]
        cases hEq0 : inB g 3
        · have HEq := Lib.hid hEq0
          clear hEq0
          have HIk : Hid (∀ W, Below w.heap.size w W → Calls Tryd.prog 35 #[.agg (bC b), .int .i64 (3)] W fun e w' => e = .returned (.bool false) ∧ Below W.heap.size W w') := fun W hW => by have := HIn.out (3) W hW; rwa [HEq.out] at this
          have HWk := Lib.hid (HWd.out (3))
          have HRk := Lib.hid (HRW.out (3))
          have hset : wr.cell? ⟨w2.heap.size, 3, none⟩ = some (.bool false) := by rw [cell_blk HSw.out]; show (boC (inL g))[3]? = _; simp [boC, inL]; exact HEq.out
          have hmn : min (3 : Int) 5 = 3 := by decide
          have hmx : max (3 : Int) 0 = 3 := by decide
          have HNx := Lib.hid (HAN.out 5 (by omega) (by omega))
          rw [show inB g ((5 - 2 : Nat) : Int) = false from HEq.out] at HNx
          clear HIn HWd HRW HSA HAN HO_1 HSw HRd HKn HEq
          generalize wordI (3) = ws at *
          have hneq := neqS ws
          generalize ha : atN g 5 = aN at *
          have Ha := Lib.hid ha
          clear ha
          go_wp2_with (first
            | (with_reducible refine ld_T rfl _ rfl w.heap.size b H10.out rfl HGw.out ?_)
            | (go_at_call 35; (refine (HIk.out _ HBw.out).mono ?_); rintro e w4 ⟨rfl, hb4⟩; have HB4 := Lib.hid (HW.out.trans (hb4.mono HW.out.size)); clear hb4)
            | (go_at_call 39; (refine (HWk.out _ (HB3.out.trans (HB4.out.mono HB3.out.size))).mono ?_); rintro e w5 ⟨rfl, hb5⟩; have HB5 := Lib.hid (HB4.out.trans (hb5.mono HB4.out.size)); clear hb5)
            | (go_at_call 40; (refine (HRk.out _).mono ?_); rintro e w6 ⟨rfl, hb6⟩; have HB6 := Lib.hid (HB5.out.trans (hb6.mono HB5.out.size)); clear hb6))
          go_roundw
          case rel => exact ⟨6, by omega, rfl, by rw [show atN g 6 = aN + _ from HNx.out]; first | rfl | go_num, HB6.out⟩
          case measure => simp [intOf]
        · have HEq := Lib.hid hEq0
          clear hEq0
          have HIk : Hid (∀ W, Below w.heap.size w W → Calls Tryd.prog 35 #[.agg (bC b), .int .i64 (3)] W fun e w' => e = .returned (.bool true) ∧ Below W.heap.size W w') := fun W hW => by have := HIn.out (3) W hW; rwa [HEq.out] at this
          have HWk := Lib.hid (HWd.out (3))
          have HRk := Lib.hid (HRW.out (3))
          have hset : wr.cell? ⟨w2.heap.size, 3, none⟩ = some (.bool true) := by rw [cell_blk HSw.out]; show (boC (inL g))[3]? = _; simp [boC, inL]; exact HEq.out
          have hmn : min (3 : Int) 5 = 3 := by decide
          have hmx : max (3 : Int) 0 = 3 := by decide
          have HNx := Lib.hid (HAN.out 5 (by omega) (by omega))
          rw [show inB g ((5 - 2 : Nat) : Int) = true from HEq.out] at HNx
          obtain ⟨hl1, hv1⟩ := HSA.out 5 (by omega) (by omega) HEq.out
          obtain ⟨bl, ol, hql, hbl, hrl⟩ := HSL.out (atN g 5) hl1
          have HCl : Hid (w3.cell? ⟨bl, ol + atN g 5, none⟩ = some (.int .i64 3)) := by have := hrl 0 _ rfl; rw [Nat.mul_one, Nat.add_zero, hv1] at this; exact this
          have HBl : Hid (bl < w3.heap.size) := hbl
          have hl2 : (atN g 5 : Int) < ls.length := by omega
          have hl3 : (atN g 5 : Int) ≤ 6 := by omega
          have hl4 : (0 : Int) ≤ (atN g 5 : Int) := by omega
          subst hql
          clear hrl hbl hv1 hl1
          clear HIn HWd HRW HSA HAN HO_1 HSw HRd HKn HEq
          generalize wordI (3) = ws at *
          have hneq := neqS ws
          generalize ha : atN g 5 = aN at *
          have Ha := Lib.hid ha
          clear ha
          go_wp2_with (first
            | (with_reducible refine ld_T rfl _ rfl w.heap.size b H10.out rfl HGw.out ?_)
            | (go_at_call 35; (refine (HIk.out _ HBw.out).mono ?_); rintro e w4 ⟨rfl, hb4⟩; have HB4 := Lib.hid (HW.out.trans (hb4.mono HW.out.size)); clear hb4)
            | (go_at_call 39; (refine (HWk.out _ (HB3.out.trans (HB4.out.mono HB3.out.size))).mono ?_); rintro e w5 ⟨rfl, hb5⟩; have HB5 := Lib.hid (HB4.out.trans (hb5.mono HB4.out.size)); clear hb5)
            | (go_at_call 40; (refine (HRk.out _).mono ?_); rintro e w6 ⟨rfl, hb6⟩; have HB6 := Lib.hid (HB5.out.trans (hb6.mono HB5.out.size)); clear hb6; have hcl6 := (HB6.out.cell (p := ⟨bl, ol + aN, none⟩) HBl.out).trans HCl.out))
          go_roundw
          case rel => exact ⟨6, by omega, rfl, by rw [show atN g 6 = aN + _ from HNx.out]; first | rfl | go_num, HB6.out⟩
          case measure => simp [intOf]
      · simp only [ivI]
        cases hEq0 : inB g 4
        · have HEq := Lib.hid hEq0
          clear hEq0
          have HIk : Hid (∀ W, Below w.heap.size w W → Calls Tryd.prog 35 #[.agg (bC b), .int .i64 (4)] W fun e w' => e = .returned (.bool false) ∧ Below W.heap.size W w') := fun W hW => by have := HIn.out (4) W hW; rwa [HEq.out] at this
          have HWk := Lib.hid (HWd.out (4))
          have HRk := Lib.hid (HRW.out (4))
          have hset : wr.cell? ⟨w2.heap.size, 4, none⟩ = some (.bool false) := by rw [cell_blk HSw.out]; show (boC (inL g))[4]? = _; simp [boC, inL]; exact HEq.out
          have hmn : min (4 : Int) 5 = 4 := by decide
          have hmx : max (4 : Int) 0 = 4 := by decide
          have HNx := Lib.hid (HAN.out 6 (by omega) (by omega))
          rw [show inB g ((6 - 2 : Nat) : Int) = false from HEq.out] at HNx
          clear HIn HWd HRW HSA HAN HO_1 HSw HRd HKn HEq
          generalize wordI (4) = ws at *
          have hneq := neqS ws
          generalize ha : atN g 6 = aN at *
          have Ha := Lib.hid ha
          clear ha
          go_wp2_with (first
            | (with_reducible refine ld_T rfl _ rfl w.heap.size b H10.out rfl HGw.out ?_)
            | (go_at_call 35; (refine (HIk.out _ HBw.out).mono ?_); rintro e w4 ⟨rfl, hb4⟩; have HB4 := Lib.hid (HW.out.trans (hb4.mono HW.out.size)); clear hb4)
            | (go_at_call 39; (refine (HWk.out _ (HB3.out.trans (HB4.out.mono HB3.out.size))).mono ?_); rintro e w5 ⟨rfl, hb5⟩; have HB5 := Lib.hid (HB4.out.trans (hb5.mono HB4.out.size)); clear hb5)
            | (go_at_call 40; (refine (HRk.out _).mono ?_); rintro e w6 ⟨rfl, hb6⟩; have HB6 := Lib.hid (HB5.out.trans (hb6.mono HB5.out.size)); clear hb6))
          go_roundw
          case rel => exact ⟨7, by omega, rfl, by rw [show atN g 7 = aN + _ from HNx.out]; first | rfl | go_num, HB6.out⟩
          case measure => simp [intOf]
        · have HEq := Lib.hid hEq0
          clear hEq0
          have HIk : Hid (∀ W, Below w.heap.size w W → Calls Tryd.prog 35 #[.agg (bC b), .int .i64 (4)] W fun e w' => e = .returned (.bool true) ∧ Below W.heap.size W w') := fun W hW => by have := HIn.out (4) W hW; rwa [HEq.out] at this
          have HWk := Lib.hid (HWd.out (4))
          have HRk := Lib.hid (HRW.out (4))
          have hset : wr.cell? ⟨w2.heap.size, 4, none⟩ = some (.bool true) := by rw [cell_blk HSw.out]; show (boC (inL g))[4]? = _; simp [boC, inL]; exact HEq.out
          have hmn : min (4 : Int) 5 = 4 := by decide
          have hmx : max (4 : Int) 0 = 4 := by decide
          have HNx := Lib.hid (HAN.out 6 (by omega) (by omega))
          rw [show inB g ((6 - 2 : Nat) : Int) = true from HEq.out] at HNx
          obtain ⟨hl1, hv1⟩ := HSA.out 6 (by omega) (by omega) HEq.out
          obtain ⟨bl, ol, hql, hbl, hrl⟩ := HSL.out (atN g 6) hl1
          have HCl : Hid (w3.cell? ⟨bl, ol + atN g 6, none⟩ = some (.int .i64 4)) := by have := hrl 0 _ rfl; rw [Nat.mul_one, Nat.add_zero, hv1] at this; exact this
          have HBl : Hid (bl < w3.heap.size) := hbl
          have hl2 : (atN g 6 : Int) < ls.length := by omega
          have hl3 : (atN g 6 : Int) ≤ 6 := by omega
          have hl4 : (0 : Int) ≤ (atN g 6 : Int) := by omega
          subst hql
          clear hrl hbl hv1 hl1
          clear HIn HWd HRW HSA HAN HO_1 HSw HRd HKn HEq
          generalize wordI (4) = ws at *
          have hneq := neqS ws
          generalize ha : atN g 6 = aN at *
          have Ha := Lib.hid ha
          clear ha
          go_wp2_with (first
            | (with_reducible refine ld_T rfl _ rfl w.heap.size b H10.out rfl HGw.out ?_)
            | (go_at_call 35; (refine (HIk.out _ HBw.out).mono ?_); rintro e w4 ⟨rfl, hb4⟩; have HB4 := Lib.hid (HW.out.trans (hb4.mono HW.out.size)); clear hb4)
            | (go_at_call 39; (refine (HWk.out _ (HB3.out.trans (HB4.out.mono HB3.out.size))).mono ?_); rintro e w5 ⟨rfl, hb5⟩; have HB5 := Lib.hid (HB4.out.trans (hb5.mono HB4.out.size)); clear hb5)
            | (go_at_call 40; (refine (HRk.out _).mono ?_); rintro e w6 ⟨rfl, hb6⟩; have HB6 := Lib.hid (HB5.out.trans (hb6.mono HB5.out.size)); clear hb6; have hcl6 := (HB6.out.cell (p := ⟨bl, ol + aN, none⟩) HBl.out).trans HCl.out))
          go_roundw
          case rel => exact ⟨7, by omega, rfl, by rw [show atN g 7 = aN + _ from HNx.out]; first | rfl | go_num, HB6.out⟩
          case measure => simp [intOf]
      · simp only [ivI]
        cases hEq0 : inB g 5
        · have HEq := Lib.hid hEq0
          clear hEq0
          have HIk : Hid (∀ W, Below w.heap.size w W → Calls Tryd.prog 35 #[.agg (bC b), .int .i64 (5)] W fun e w' => e = .returned (.bool false) ∧ Below W.heap.size W w') := fun W hW => by have := HIn.out (5) W hW; rwa [HEq.out] at this
          have HWk := Lib.hid (HWd.out (5))
          have HRk := Lib.hid (HRW.out (5))
          have hset : wr.cell? ⟨w2.heap.size, 5, none⟩ = some (.bool false) := by rw [cell_blk HSw.out]; show (boC (inL g))[5]? = _; simp [boC, inL]; exact HEq.out
          have hmn : min (5 : Int) 5 = 5 := by decide
          have hmx : max (5 : Int) 0 = 5 := by decide
          have HNx := Lib.hid (HAN.out 7 (by omega) (by omega))
          rw [show inB g ((7 - 2 : Nat) : Int) = false from HEq.out] at HNx
          clear HIn HWd HRW HSA HAN HO_1 HSw HRd HKn HEq
          generalize wordI (5) = ws at *
          have hneq := neqS ws
          generalize ha : atN g 7 = aN at *
          have Ha := Lib.hid ha
          clear ha
          go_wp2_with (first
            | (with_reducible refine ld_T rfl _ rfl w.heap.size b H10.out rfl HGw.out ?_)
            | (go_at_call 35; (refine (HIk.out _ HBw.out).mono ?_); rintro e w4 ⟨rfl, hb4⟩; have HB4 := Lib.hid (HW.out.trans (hb4.mono HW.out.size)); clear hb4)
            | (go_at_call 39; (refine (HWk.out _ (HB3.out.trans (HB4.out.mono HB3.out.size))).mono ?_); rintro e w5 ⟨rfl, hb5⟩; have HB5 := Lib.hid (HB4.out.trans (hb5.mono HB4.out.size)); clear hb5)
            | (go_at_call 40; (refine (HRk.out _).mono ?_); rintro e w6 ⟨rfl, hb6⟩; have HB6 := Lib.hid (HB5.out.trans (hb6.mono HB5.out.size)); clear hb6))
          go_roundw
          case rel => exact ⟨8, by omega, rfl, by rw [show atN g 8 = aN + _ from HNx.out]; first | rfl | go_num, HB6.out⟩
          case measure => simp [intOf]
        · have HEq := Lib.hid hEq0
          clear hEq0
          have HIk : Hid (∀ W, Below w.heap.size w W → Calls Tryd.prog 35 #[.agg (bC b), .int .i64 (5)] W fun e w' => e = .returned (.bool true) ∧ Below W.heap.size W w') := fun W hW => by have := HIn.out (5) W hW; rwa [HEq.out] at this
          have HWk := Lib.hid (HWd.out (5))
          have HRk := Lib.hid (HRW.out (5))
          have hset : wr.cell? ⟨w2.heap.size, 5, none⟩ = some (.bool true) := by rw [cell_blk HSw.out]; show (boC (inL g))[5]? = _; simp [boC, inL]; exact HEq.out
          have hmn : min (5 : Int) 5 = 5 := by decide
          have hmx : max (5 : Int) 0 = 5 := by decide
          have HNx := Lib.hid (HAN.out 7 (by omega) (by omega))
          rw [show inB g ((7 - 2 : Nat) : Int) = true from HEq.out] at HNx
          obtain ⟨hl1, hv1⟩ := HSA.out 7 (by omega) (by omega) HEq.out
          obtain ⟨bl, ol, hql, hbl, hrl⟩ := HSL.out (atN g 7) hl1
          have HCl : Hid (w3.cell? ⟨bl, ol + atN g 7, none⟩ = some (.int .i64 5)) := by have := hrl 0 _ rfl; rw [Nat.mul_one, Nat.add_zero, hv1] at this; exact this
          have HBl : Hid (bl < w3.heap.size) := hbl
          have hl2 : (atN g 7 : Int) < ls.length := by omega
          have hl3 : (atN g 7 : Int) ≤ 6 := by omega
          have hl4 : (0 : Int) ≤ (atN g 7 : Int) := by omega
          subst hql
          clear hrl hbl hv1 hl1
          clear HIn HWd HRW HSA HAN HO_1 HSw HRd HKn HEq
          generalize wordI (5) = ws at *
          have hneq := neqS ws
          generalize ha : atN g 7 = aN at *
          have Ha := Lib.hid ha
          clear ha
          go_wp2_with (first
            | (with_reducible refine ld_T rfl _ rfl w.heap.size b H10.out rfl HGw.out ?_)
            | (go_at_call 35; (refine (HIk.out _ HBw.out).mono ?_); rintro e w4 ⟨rfl, hb4⟩; have HB4 := Lib.hid (HW.out.trans (hb4.mono HW.out.size)); clear hb4)
            | (go_at_call 39; (refine (HWk.out _ (HB3.out.trans (HB4.out.mono HB3.out.size))).mono ?_); rintro e w5 ⟨rfl, hb5⟩; have HB5 := Lib.hid (HB4.out.trans (hb5.mono HB4.out.size)); clear hb5)
            | (go_at_call 40; (refine (HRk.out _).mono ?_); rintro e w6 ⟨rfl, hb6⟩; have HB6 := Lib.hid (HB5.out.trans (hb6.mono HB5.out.size)); clear hb6; have hcl6 := (HB6.out.cell (p := ⟨bl, ol + aN, none⟩) HBl.out).trans HCl.out))
          go_roundw
          case rel => exact ⟨8, by omega, rfl, by rw [show atN g 8 = aN + _ from HNx.out]; first | rfl | go_num, HB6.out⟩
          case measure => simp [intOf]
      · simp only [ivI]
        have HIk : Hid (∀ W, Below w.heap.size w W → Calls Tryd.prog 35 #[.agg (bC b), .int .i64 (6)] W fun e w' => e = .returned (.bool false) ∧ Below W.heap.size W w') := fun W hW => by have := HIn.out (6) W hW; rwa [HO_1.out.2.2.1] at this
        have HWk := Lib.hid (HWd.out (6))
        have HRk := Lib.hid (HRW.out (6))
        clear HIn HWd HRW HSA HAN HO_1 HSw HRd HKn
        generalize wordI (6) = ws at *
        have hneq := neqS ws
        go_wp2_with (first
          | (with_reducible refine ld_T rfl _ rfl w.heap.size b H10.out rfl HGw.out ?_)
          | (go_at_call 35; (refine (HIk.out _ HBw.out).mono ?_); rintro e w4 ⟨rfl, hb4⟩; have HB4 := Lib.hid (HW.out.trans (hb4.mono HW.out.size)); clear hb4)
          | (go_at_call 39; (refine (HWk.out _ (HB3.out.trans (HB4.out.mono HB3.out.size))).mono ?_); rintro e w5 ⟨rfl, hb5⟩; have HB5 := Lib.hid (HB4.out.trans (hb5.mono HB4.out.size)); clear hb5)
          | (go_at_call 40; (refine (HRk.out _).mono ?_); rintro e w6 ⟨rfl, hb6⟩; have HB6 := Lib.hid (HB5.out.trans (hb6.mono HB5.out.size)); clear hb6))
        go_roundw
        case rel => exact ⟨9, by omega, rfl, rfl, HB6.out⟩
        case measure => simp [intOf]
      · simp only [ivI]
        have HIk : Hid (∀ W, Below w.heap.size w W → Calls Tryd.prog 35 #[.agg (bC b), .int .i64 (7)] W fun e w' => e = .returned (.bool false) ∧ Below W.heap.size W w') := fun W hW => by have := HIn.out (7) W hW; rwa [HO_1.out.2.2.2] at this
        have HWk := Lib.hid (HWd.out (7))
        have HRk := Lib.hid (HRW.out (7))
        clear HIn HWd HRW HSA HAN HO_1 HSw HRd HKn
        generalize wordI (7) = ws at *
        have hneq := neqS ws
        go_wp2_with (first
          | (with_reducible refine ld_T rfl _ rfl w.heap.size b H10.out rfl HGw.out ?_)
          | (go_at_call 35; (refine (HIk.out _ HBw.out).mono ?_); rintro e w4 ⟨rfl, hb4⟩; have HB4 := Lib.hid (HW.out.trans (hb4.mono HW.out.size)); clear hb4)
          | (go_at_call 39; (refine (HWk.out _ (HB3.out.trans (HB4.out.mono HB3.out.size))).mono ?_); rintro e w5 ⟨rfl, hb5⟩; have HB5 := Lib.hid (HB4.out.trans (hb5.mono HB4.out.size)); clear hb5)
          | (go_at_call 40; (refine (HRk.out _).mono ?_); rintro e w6 ⟨rfl, hb6⟩; have HB6 := Lib.hid (HB5.out.trans (hb6.mono HB5.out.size)); clear hb6))
        go_roundw
        case rel => exact ⟨10, by omega, rfl, rfl, HB6.out⟩
        case measure => simp [intOf]
    · obtain rfl : k = 10 := by omega
      rw [HA10.out]
      simp only [ivI]
      clear HSA HAN HA10 HA2 HO_1 HSw HS3 HG3 HGw HIn
      have hlsm : (ls.length : Int) ≤ 6 := by omega
      generalize hwo : wr = wo at *
      clear hwo
      go_wp2_with fail
      go_loopw [12, 13, 14] (fun s12 s13 i wr => ∃ k : Nat, k ≤ 6 ∧ i = .int .i64 k ∧ s12 = .int .i64 (seekI S k).1 ∧ s13 = .bool (seekI S k).2 ∧ Hid (Below wo.heap.size wo wr)) (fun _ _ i _ => 6 - (intOf i).toNat)
      case atStart => exact ⟨0, by omega, rfl, rfl, rfl, Below.refl _ _⟩
      case round =>
        obtain ⟨k, hk, rfl, rfl, rfl, HV⟩ := hrel
        have HBv := Lib.hid (HBw.out.trans (HV.out.mono HBw.out.size))
        by_cases hlt : k < 6
        · have HRk := Lib.hid (HRW.out (k : Int))
          have HSk : Hid (seekI S (k + 1) = if wordI (k : Int) = S then ((k : Int), true) else seekI S k) := rfl
          clear HRW HWd HRd HKn
          have hlt' : (k : Int) < 6 := by omega
          generalize wordI (k : Int) = ws at *
          by_cases hw : ws = S
          · obtain ⟨he, hq⟩ := eqlSS ws S true (decide_eq_true hw)
            have HW2 := Lib.hid hw
            clear hw
            go_wp2_with (go_at_call 40; (refine (HRk.out _).mono ?_); rintro e w6 ⟨rfl, hb6⟩; have HB6 := Lib.hid (HV.out.trans (hb6.mono HV.out.size)); clear hb6)
            go_roundw
            case rel => exact ⟨k + 1, by omega, by go_num, by rw [HSk.out, if_pos HW2.out], by rw [HSk.out, if_pos HW2.out], HB6.out⟩
            case measure => simp [intOf]; omega
          · obtain ⟨he, hq⟩ := eqlSS ws S false (decide_eq_false hw)
            have HW2 := Lib.hid hw
            clear hw
            go_wp2_with (go_at_call 40; (refine (HRk.out _).mono ?_); rintro e w6 ⟨rfl, hb6⟩; have HB6 := Lib.hid (HV.out.trans (hb6.mono HV.out.size)); clear hb6)
            go_roundw
            case rel => exact ⟨k + 1, by omega, by go_num, by rw [HSk.out, if_neg HW2.out], by rw [HSk.out, if_neg HW2.out], HB6.out⟩
            case measure => simp [intOf]; omega
        · obtain rfl : k = 6 := by omega
          rw [seek_read S]
          have HRs := Lib.hid (HRd.out S)
          have HWc := Lib.hid (HWd.out c)
          have HRc := Lib.hid (HRW.out c)
          clear HRd HWd HRW
          have heqi : ∀ (x : Int) (W : World), (binOp .eql 3 (.int .i64 x) (.int .i64 x)).run Tryd.prog W = .ok (.bool true) W := fun x W => by
            have h : (x == x) = true := by simp
            go_simp
          generalize readI S = r at *
          generalize wordI c = wc' at *
          obtain ⟨heS, hqS⟩ := eqlSS wc' wc' true (decide_eq_true rfl)
          by_cases hr : r < 0
          · rw [if_pos hr, if_pos hr] at HRs
            rw [if_pos hr, decide_eq_false (show ¬ 0 ≤ r by omega)]
            go_wp2_with (first
              | (go_at_call 41; (refine (HRs.out _ HBv.out).mono ?_); rintro e w4 ⟨rfl, hb4⟩; have HB4 := Lib.hid (HBv.out.trans (hb4.mono HBv.out.size)); clear hb4)
              | (go_at_call 28; (refine (HKn.out _ HB4.out).mono ?_); rintro e w5 ⟨rfl, hb5⟩; have HB5 := Lib.hid (HB4.out.trans (hb5.mono HB4.out.size)); clear hb5)
              | (go_at_call 39; (refine (HWc.out _ HB5.out).mono ?_); rintro e w6 ⟨rfl, hb6⟩; have HB6 := Lib.hid (HB5.out.trans (hb6.mono HB5.out.size)); clear hb6)
              | (go_at_call 40; (refine (HRc.out _).mono ?_); rintro e w7 ⟨rfl, hb7⟩; have HB7 := Lib.hid (HB6.out.trans (hb7.mono HB6.out.size)); clear hb7))
            go_ret
            exact ⟨rfl, HB7.out⟩
          · rw [if_neg hr, if_neg hr] at HRs
            rw [if_neg hr, decide_eq_true (show 0 ≤ r by omega)]
            go_wp2_with (first
              | (go_at_call 41; (refine (HRs.out _ HBv.out).mono ?_); rintro e w4 ⟨rfl, hb4⟩; have HB4 := Lib.hid (HBv.out.trans (hb4.mono HBv.out.size)); clear hb4)
              | (go_at_call 28; (refine (HKn.out _ HB4.out).mono ?_); rintro e w5 ⟨rfl, hb5⟩; have HB5 := Lib.hid (HB4.out.trans (hb5.mono HB4.out.size)); clear hb5)
              | (go_at_call 39; (refine (HWc.out _ HB5.out).mono ?_); rintro e w6 ⟨rfl, hb6⟩; have HB6 := Lib.hid (HB5.out.trans (hb6.mono HB5.out.size)); clear hb6)
              | (go_at_call 40; (refine (HRc.out _).mono ?_); rintro e w7 ⟨rfl, hb7⟩; have HB7 := Lib.hid (HB6.out.trans (hb7.mono HB6.out.size)); clear hb7))
            go_ret
            exact ⟨rfl, HB7.out⟩
theorem PluralSets_walkI (b : List UInt8) (c : Int) (s : ByteArray) (w : World) (hb : b.length = 10) (hmx : MX w) (hft : FT w) (hs : s.size ≤ 9223372036854775807) :
    Calls Tryd.prog 10 #[.agg (bC b), .int .i64 c, .string s] w fun e w' => e = .returned (.bool true) ∧ Below w.heap.size w w' :=
  PluralSets_walkJ b c s (min s.size 20) w hb hmx hft hs (by omega)
end Go.Proofs.YtnambaiafailaaaDoor
