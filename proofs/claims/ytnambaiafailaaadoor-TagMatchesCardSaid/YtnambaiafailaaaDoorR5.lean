/- plain, Right. -/
import Derived.Test.YtnambaiafailaaaDoorQ5
import Derived.Test.YtnambaiafailaaaDoorGQ
import Derived.Deep.RegionHeld3
namespace Go.Proofs.YtnambaiafailaaaDoor
open Go.RowKit

theorem frontZ_take3 {b : List UInt8} : (frontZ (b.take 3)).length ≤ 3 := by have := frontZ_le (b.take 3); simp at this; omega
theorem ba_add (a b : List UInt8) : (⟨a.toArray⟩ : ByteArray) ++ ⟨b.toArray⟩ = ⟨(a ++ b).toArray⟩ := ByteArray.ext (by simp)
theorem ba_size (a : List UInt8) : (⟨a.toArray⟩ : ByteArray).size = a.length := List.size_toArray
theorem bC_take (b : List UInt8) (k : Nat) : (bC (b.take k)).toList = (bC b).toList.take k := by simp [bC]
theorem range_sub {w : World} {g o : Nat} {b : List UInt8} (h : w.rangeAt g o (bC b).toList) (s n : Nat) : w.rangeAt g (o + s) (bC ((b.drop s).take n)).toList := fun j v hv => by
  have hj : j < ((b.drop s).take n).length := by have := (List.getElem?_eq_some_iff.1 hv).1; simpa [bC] using this
  rw [Nat.add_assoc]
  refine h (s + j) v ?_
  rw [← hv]
  simp only [bC, List.getElem?_map]
  congr 1
  rw [List.length_take, List.length_drop] at hj
  rw [List.getElem?_take_of_lt (by omega), List.getElem?_drop]
theorem catS5 (a b : List UInt8) (h : a.length + b.length ≤ 1000000) (w : World) : (binOp .add 9 (.string ⟨a.toArray⟩) (.string ⟨b.toArray⟩)).run Tryd.prog w = .ok (.string ⟨(a ++ b).toArray⟩) w := by
  have := run_string_add_sum (P := Tryd.prog) (w := w) ⟨a.toArray⟩ ⟨b.toArray⟩ (by rw [ba_size, ba_size]; omega)
  rw [ba_add] at this
  simp [binOp, this]
theorem emp5 (l : List UInt8) : (⟨l.toArray⟩ : ByteArray).toList.isEmpty = l.isEmpty := by rw [ByteArray.toList_eq]
theorem neqE5 (l : List UInt8) (W : World) : (binOp .neq 9 (.string ⟨l.toArray⟩) (.string ⟨#[]⟩)).run Tryd.prog W = .ok (.bool (!l.isEmpty)) W := by
  have := emp5 l
  go_simp
/-- The text while its parts are added. -/
def accL (L S R : List UInt8) (k : Nat) : List UInt8 := L ++ (if 1 ≤ k then dash S else []) ++ (if 2 ≤ k then dash R else [])
theorem acc_next (L S R : List UInt8) (k : Nat) (hk : k < 2) : accL L S R (k + 1) = accL L S R k ++ dash (if k = 0 then S else R) := by
  rcases (show k = 0 ∨ k = 1 by omega) with rfl | rfl <;> simp [accL]
set_option maxRecDepth 100000 in
set_option maxHeartbeats 2000000 in
theorem plain_any (b : List UInt8) (w : World) (hb : b.length = 10) :
    Calls Tryd.prog 51 #[.agg (bC b)] w fun e w' => e = .returned (.string ⟨(plainL b).toArray⟩) ∧ Below w.heap.size w w' := by
  have HG0 : Hid ((w.alloc (.cells (bC b) 29)).heap[w.heap.size]? = some (.cells (bC b) 29 (0, 0))) := heap_alloc_new _ _
  have HB0 : Hid (Below w.heap.size w (w.alloc (.cells (bC b) 29))) := below_alloc1 _ _
  have he : ∀ W, (binOp .eql 29 (.agg (bC b)) (.agg #[.int .u8 0, .int .u8 0, .int .u8 0, .int .u8 0, .int .u8 0, .int .u8 0, .int .u8 0, .int .u8 0, .int .u8 0, .int .u8 0])).run Tryd.prog W = .ok (.bool (b == tag0)) W := fun W => eql10 W b tag0 hb rfl
  have H10 := Lib.hid hb
  clear hb
  by_cases h0 : b = tag0
  · have HP : Hid (plainL b = rootL) := by show plainL b = _; rw [plainL, if_pos h0]
    rw [beq_iff_eq.2 h0] at he
    clear h0
    go_enter Tryd.func51, Tryd.ntmps51
    go_wp2_with (with_reducible refine ld_T rfl _ rfl w.heap.size b H10.out rfl HG0.out ?_)
    go_ret
    exact ⟨by rw [HP.out]; rfl, HB0.out⟩
  · have HP : Hid (plainL b = frontZ (b.take 3) ++ dash (frontZ ((b.drop 3).take 4)) ++ dash (frontZ (b.drop 7))) := by show plainL b = _; rw [plainL, if_neg h0]; rfl
    rw [beq_eq_false_iff_ne.2 h0] at he
    clear h0
    have HR0 : Hid ((w.alloc (.cells (bC b) 29)).rangeAt w.heap.size 0 (bC b).toList) := range_whole (by simpa using HG0.out)
    have hlt : w.heap.size < (w.alloc (.cells (bC b) 29)).heap.size := by simp
    have H10' := H10.out
    have HPa : Hid (∀ (s n : Nat) (W : World), s + n ≤ 10 → Below (w.alloc (.cells (bC b) 29)).heap.size (w.alloc (.cells (bC b) 29)) W → Calls Tryd.prog 63 #[.slice (some ⟨w.heap.size, s, none⟩) n n] W fun e w' => e = .returned (.string ⟨(frontZ ((b.drop s).take n)).toArray⟩) ∧ W = w') := fun s n W hs hW => by
      have hr := range_sub (range_of_block HR0.out (hW.block _ hlt)) s n
      rw [Nat.zero_add] at hr
      exact part_any w.heap.size s n n _ W (by simp; omega) (by omega) hr
    clear H10'
    go_enter Tryd.func51, Tryd.ntmps51
    go_upto_region 4 with (first
      | (with_reducible refine ld_T rfl _ rfl w.heap.size b H10.out rfl HG0.out ?_)
      | (go_at_call 63; (refine (HPa.out 0 3 _ (by omega) (Below.refl _ _)).mono ?_); rintro e w' ⟨rfl, rfl⟩))
    have HPa1 := Lib.hid (HPa.out 3 4 (w.alloc (.cells (bC b) 29)).drew (by omega) (Below.refl _ _).drew)
    have HPa2 := Lib.hid (HPa.out 7 3 (w.alloc (.cells (bC b) 29)).drew (by omega) (Below.refl _ _).drew)
    go_region_held3 (fun w' => Below (w.alloc (.cells (bC b) 29)).heap.size (w.alloc (.cells (bC b) 29)) w') (first | exact (Below.refl _ _).drew | exact ((Below.refl _ _).alloc (Nat.le_refl _) _).drew) ((first
      | (go_at_call_of 63 (Value.slice (some ⟨w.heap.size, 3, none⟩) 4 4); (refine HPa1.out.mono ?_); rintro e w' ⟨rfl, rfl⟩)
      | (go_at_call_of 63 (Value.slice (some ⟨w.heap.size, 7, none⟩) 3 3); (refine HPa2.out.mono ?_); rintro e w' ⟨rfl, rfl⟩)))
    have e7 : (b.drop 7).take 3 = b.drop 7 := List.take_of_length_le (by rw [List.length_drop, H10.out]; omega)
    rw [e7]
    have HB2 : Hid (Below w.heap.size w ((w.alloc (.cells (bC b) 29)).alloc (.cells #[.string ⟨(frontZ ((b.drop 3).take 4)).toArray⟩, .string ⟨(frontZ (b.drop 7)).toArray⟩] 9)).drew) := (below_alloc2 _ _ _).drew
    have hc0 : ((w.alloc (.cells (bC b) 29)).alloc (.cells #[.string ⟨(frontZ ((b.drop 3).take 4)).toArray⟩, .string ⟨(frontZ (b.drop 7)).toArray⟩] 9)).drew.cell? ⟨w.heap.size + 1, 0, none⟩ = some (.string ⟨(frontZ ((b.drop 3).take 4)).toArray⟩) := by
      simp
    have hc1 : ((w.alloc (.cells (bC b) 29)).alloc (.cells #[.string ⟨(frontZ ((b.drop 3).take 4)).toArray⟩, .string ⟨(frontZ (b.drop 7)).toArray⟩] 9)).drew.cell? ⟨w.heap.size + 1, 1, none⟩ = some (.string ⟨(frontZ (b.drop 7)).toArray⟩) := by
      simp
    generalize ((w.alloc (.cells (bC b) 29)).alloc (.cells #[.string ⟨(frontZ ((b.drop 3).take 4)).toArray⟩, .string ⟨(frontZ (b.drop 7)).toArray⟩] 9)).drew = W2 at *
    have l1 : (frontZ (b.take 3)).length ≤ 10 := by have := frontZ_le (b.take 3); have := H10.out; simp at *; omega
    have l2 : (frontZ ((b.drop 3).take 4)).length ≤ 10 := by have := frontZ_le ((b.drop 3).take 4); have := H10.out; simp at *; omega
    have l3 : (frontZ (b.drop 7)).length ≤ 10 := by have := frontZ_le (b.drop 7); have := H10.out; simp at *; omega
    clear HPa1 HPa2 HPa HR0 hlt HG0 he e7
    generalize frontZ (b.take 3) = L at *
    generalize frontZ ((b.drop 3).take 4) = S at *
    generalize frontZ (b.drop 7) = R at *
    have HN := Lib.hid (acc_next L S R)
    have HAL : Hid (∀ k, (accL L S R k).length ≤ 32) := fun k => by
      unfold accL dash
      repeat' split
      all_goals simp
      all_goals omega
    go_wp2_with fail
    go_loop [3, 20] (fun t i => ∃ k : Nat, k ≤ 2 ∧ i = .int .i64 k ∧ t = .string ⟨(accL L S R k).toArray⟩) (fun _ i => 2 - (intOf i).toNat)
    case atStart => exact ⟨0, by omega, rfl, by simp [accL]⟩
    case round =>
      obtain ⟨k, hk, rfl, rfl⟩ := hrel
      by_cases hlt : k < 2
      · have hlt' : (k : Int) < 2 := by omega
        have hk0 : (0 : Int) ≤ (k : Int) := by omega
        obtain ⟨p, hp⟩ : ∃ p, (if k = 0 then S else R) = p := ⟨_, rfl⟩
        have hcp : W2.cell? ⟨w.heap.size + 1, k, none⟩ = some (.string ⟨p.toArray⟩) := by
          rcases (show k = 0 ∨ k = 1 by omega) with rfl | rfl
          · rw [← hp]; simpa using hc0
          · rw [← hp]; simpa using hc1
        have hpl : p.length ≤ 10 := by rw [← hp]; split <;> assumption
        have HNk := Lib.hid (HN.out k hlt)
        rw [hp] at HNk
        have hal := HAL.out k
        have hne := fun W => neqE5 p W
        have hem := emp5 p
        have hcat1 := fun W => catS5 [45] p (by simp; omega) W
        have hcat2 := fun W => catS5 (accL L S R k) (45 :: p) (by simp; omega) W
        clear hp hc0 hc1
        generalize accL L S R k = A at *
        cases p with
        | nil =>
          simp only [List.isEmpty_nil, Bool.not_true] at hne hem
          go_wp2_with fail
          go_round
          case rel => exact ⟨k + 1, by omega, by go_num, by rw [HNk.out, dash, if_pos rfl, List.append_nil]⟩
          case measure => simp [intOf]; omega
        | cons c p =>
          simp only [List.isEmpty_cons, Bool.not_false] at hne hem
          have hz1 : ¬ 9223372036854775807 < 1 + (p.length + 1) := by simp at hpl; omega
          have hz2 : ¬ 9223372036854775807 < A.length + (p.length + 1 + 1) := by simp at hpl; omega
          have hz3 : ¬ 9223372036854775807 < A.length + (1 + (p.length + 1)) := by simp at hpl; omega
          go_wp2_with fail
          go_round
          case rel => exact ⟨k + 1, by omega, by go_num, by rw [HNk.out, dash, if_neg (by simp)]; rfl⟩
          case measure => simp [intOf]; omega
      · obtain rfl : k = 2 := by omega
        go_wp2_with fail
        go_ret
        exact ⟨by rw [HP.out]; simp [accL], HB2.out⟩
theorem right_spec (b : List UInt8) : rightT b = (decide (tagE (plainL b) = 0) && (tagR (plainL b) == b)) := by
  unfold rightT tagE tagR
  cases parseT (plainL b) with
  | none => rfl
  | some t => rw [Bool.eq_iff_iff]; simp
theorem tagR_len (l : List UInt8) : (tagR l).length = 10 := by
  unfold tagR
  cases h : parseT l with
  | none => rfl
  | some t =>
    have ht := parseT_ok h
    simp only [bytT, List.length_append, padTo_len ht.l3, padTo_len ht.s4, padTo_len ht.r3]
theorem plainL_len (b : List UInt8) (hb : b.length = 10) : (plainL b).length ≤ 32 := by
  unfold plainL textT fT dash
  have h1 := frontZ_le (b.take 3)
  have h2 := frontZ_le ((b.drop 3).take 4)
  have h3 := frontZ_le (b.drop 7)
  simp only [List.length_take, List.length_drop] at h1 h2 h3
  split
  · decide
  · split <;> split <;> simp <;> omega
theorem tagE_cases (l : List UInt8) : tagE l = 0 ∨ tagE l = 14 := by unfold tagE; split <;> simp
set_option maxRecDepth 100000 in
set_option maxHeartbeats 1000000 in
theorem right_any5 (b : List UInt8) (w : World) (hb : b.length = 10) (hmx : MX w) :
    Calls Tryd.prog 17 #[.agg (bC b)] w fun e w' => e = .returned (.bool (rightT b)) ∧ Below w.heap.size w w' := by
  have HG0 : Hid ((w.alloc (.cells (bC b) 29)).heap[w.heap.size]? = some (.cells (bC b) 29 (0, 0))) := heap_alloc_new _ _
  have HB0 : Hid (Below w.heap.size w (w.alloc (.cells (bC b) 29))) := below_alloc1 _ _
  have HPl : Hid (∀ W, Calls Tryd.prog 51 #[.agg (bC b)] W fun e w' => e = .returned (.string ⟨(plainL b).toArray⟩) ∧ Below W.heap.size W w') := fun W => plain_any b W hb
  have HPa : Hid (∀ W, Below w.heap.size w W → Calls Tryd.prog 12 #[.string ⟨(plainL b).toArray⟩] W fun e w' => e = .returned (.tuple #[.agg (bC (tagR (plainL b))), .int .i64 (tagE (plainL b))]) ∧ Below W.heap.size W w') := fun W hW => by
    have := tagParse_any ⟨(plainL b).toArray⟩ W (by rw [ba_size]; have := plainL_len b hb; omega) (hmx.below hW)
    simpa using this
  have he : ∀ W, (binOp .eql 29 (.agg (bC (tagR (plainL b)))) (.agg (bC b))).run Tryd.prog W = .ok (.bool (tagR (plainL b) == b)) W := fun W => eql10 W _ b (tagR_len _) hb
  have HR := Lib.hid (right_spec b)
  have HL := Lib.hid (tagR_len (plainL b))
  have H10 := Lib.hid hb
  have hcs := tagE_cases (plainL b)
  clear hb hmx
  generalize tagR (plainL b) = tr at *
  generalize tagE (plainL b) = te at *
  generalize (⟨(plainL b).toArray⟩ : ByteArray) = pl at *
  have key : ∀ bb : Bool, rightT b = bb → (Calls Tryd.prog 17 #[.agg (bC b)] w fun e w' => e = .returned (.bool bb) ∧ Below w.heap.size w w') := by
    intro bb hbb
    rw [HR.out] at hbb
    have hte : te = 0 ∨ te = 14 := hcs
    clear hcs
    rcases hte with rfl | rfl
    all_goals
      cases hq : (tr == b)
      all_goals
        rw [hq] at he hbb
        have HQ := Lib.hid hbb
        clear hbb hq
        go_enter Tryd.func17, Tryd.ntmps17
        go_wp2_with (first
          | (with_reducible refine ld_T rfl _ rfl w.heap.size b H10.out rfl HG0.out ?_)
          | (go_at_call 51; (refine (HPl.out _).mono ?_); rintro e w1 ⟨rfl, hb1⟩; have HB1 := Lib.hid (HB0.out.trans (hb1.mono HB0.out.size)); have HG1 : Hid (w1.heap[w.heap.size]? = some (.cells (bC b) 29 (0, 0))) := (by (show _ = _; rw [hb1.block _ (lt_heap HG0.out)]; exact HG0.out)); clear hb1)
          | (go_at_call 12; (refine (HPa.out _ HB1.out).mono ?_); rintro e w2 ⟨rfl, hb2⟩; have HB2 := Lib.hid (HB1.out.trans (hb2.mono HB1.out.size)); have HG2 : Hid (w2.heap[w.heap.size]? = some (.cells (bC b) 29 (0, 0))) := (by (show _ = _; rw [hb2.block _ (lt_heap HG1.out)]; exact HG1.out)); clear hb2)
          | (with_reducible refine ld_T rfl _ rfl w2.heap.size tr HL.out rfl (heap_alloc_new _ _) ?_)
          | (with_reducible refine ld_T rfl _ rfl w.heap.size b H10.out rfl ((heap_alloc_old _ _ (lt_heap HG2.out)).trans HG2.out) ?_)
          | ((with_reducible refine gate_st 29 _ _ rfl ?_); refine wl_strn rfl 29 _ _ rfl (bC tr) _ _ (by rw [sizTag, bC_size, HL.out]) (by rw [bC_size, HL.out]; rfl) (bC_one tr) rfl rfl ?_))
        go_ret
        exact ⟨ret_bool (by rw [← HQ.out]; rfl), HB2.out.alloc HB2.out.size _⟩
  exact key _ rfl
end Go.Proofs.YtnambaiafailaaaDoor
