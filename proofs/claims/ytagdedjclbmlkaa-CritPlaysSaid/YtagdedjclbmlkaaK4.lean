/- Prefix: right, cut. -/
import Derived.Test.YtagdedjclbmlkaaK3
namespace Go.Proofs.Ytagdedjclbmlkaa
open Go.RowKit

def pC (k : List UInt8) (d : Int) : List Value := (bC k).toList ++ [.int .i64 d]
theorem pC_len {k : List UInt8} (hk : k.length = 25) (d : Int) : (pC k d).length = 26 := by simp [pC, bC, hk]
theorem sizPre : (Try.prog.info? 63).map (·.size) = some 26 := by kernel_rfl
theorem sizName : (Try.prog.info? 24).map (·.size) = some 12 := by kernel_rfl
theorem pC_d {k : List UInt8} (hk : k.length = 25) (d : Int) : (pC k d).toArray[25]? = some (.int .i64 d) := by
  simp [pC, bC, hk]
theorem pC_k {k : List UInt8} (d : Int) (i : Nat) (hi : i < k.length) : (pC k d).toArray[i]? = some (.int .u8 (k[i].toNat : Int)) := by
  have : i < (bC k).toList.length := by simpa [bC] using hi
  simp only [pC, List.getElem?_toArray]
  rw [List.getElem?_append_left this]
  simpa using bC_get k i hi
theorem pC_sub {W : World} {g : Nat} {k : List UInt8} {d : Int} {T : TypeId} (h : W.heap[g]? = some (.cells (pC k d).toArray T (0, 0))) (s n : Nat) : W.rangeAt g s (bC ((k.drop s).take n)).toList := by
  have := range_sub (range_app_left (range_whole h)) s n
  rwa [Nat.zero_add] at this
def depOk (d : Int) : Bool := decide (0 ≤ d ∧ d ≤ 5)
set_option maxRecDepth 100000 in
set_option maxHeartbeats 2000000 in
theorem right_any (k : List UInt8) (d : Int) (w : World) (hk : k.length = 25) :
    Calls Try.prog 59 #[.agg (pC k d).toArray] w fun e w' => e = .returned (.bool (depOk d)) ∧ Below w.heap.size w w' := by
  have hc : (w.alloc (.cells (pC k d).toArray 63)).cell? ⟨w.heap.size, 25, none⟩ = some (.int .i64 d) := by rw [cell_blk (heap_alloc_new _ _), pC_d hk]
  have HB := Lib.hid (below_alloc1 w (.cells (pC k d).toArray 63))
  by_cases h0 : 0 ≤ d
  · by_cases h5 : d ≤ 5
    · have HE : Hid (depOk d = true) := decide_eq_true ⟨h0, h5⟩
      go_enter Try.func59, Try.ntmps59
      go_wp2_with fail
      go_ret
      exact ⟨ret_bool HE.out.symm, HB.out⟩
    · have HE : Hid (depOk d = false) := decide_eq_false (fun h => h5 h.2)
      go_enter Try.func59, Try.ntmps59
      go_wp2_with fail
      go_ret
      exact ⟨ret_bool HE.out.symm, HB.out⟩
  · have HE : Hid (depOk d = false) := decide_eq_false (fun h => h0 h.1)
    go_enter Try.func59, Try.ntmps59
    go_wp2_with fail
    go_ret
    exact ⟨ret_bool HE.out.symm, HB.out⟩
/-- How many bytes count. -/
def cutN (d : Int) : Nat := if d < 1 then 0 else if d = 1 then 1 else if d = 2 then 2 else if d = 3 then 3 else if d = 4 then 15 else 25
def cutK (k : List UInt8) (d : Int) : List UInt8 := k.take (cutN d) ++ List.replicate (25 - cutN d) 0
theorem cutN_le (d : Int) : cutN d ≤ 25 := by unfold cutN; repeat' split
                                              all_goals omega
theorem cutK_len {k : List UInt8} (hk : k.length = 25) (d : Int) : (cutK k d).length = 25 := by
  have := cutN_le d
  unfold cutK; simp [hk]; omega
def k1 (a : UInt8) : List UInt8 := a :: List.replicate 24 0
theorem k1_len (a : UInt8) : (k1 a).length = 25 := rfl
theorem builtK1 (a : UInt8) : Try.prog.built 30 [(0, .int .u8 (a.toNat : Int))] = some (bC (k1 a)) := by kernel_rfl
/-- Where cut stands. -/
structure CSt (w : World) (k : List UInt8) (d : Int) (c : List UInt8) (wx : World) : Prop where
  bel : Below w.heap.size w wx
  src : wx.heap[w.heap.size]? = some (.cells (pC k d).toArray 63 (0, 0))
  res : wx.heap[w.heap.size + 1]? = some (.cells (bC z25) 30 (0, 0))
  dst : wx.heap[w.heap.size + 2]? = some (.cells (bC c) 30 (0, 0))
  len : c.length = 25
theorem CSt.row {w wx : World} {k c : List UInt8} {d : Int} (h : CSt w k d c wx) (o : Nat) (l : List UInt8) (hl : o + l.length ≤ 25) : CSt w k d (ovl c o l) (wx.setRow (w.heap.size + 2) (bC (ovl c o l))) :=
  ⟨setRow_below h.bel (by omega) _, by rw [setRow_other _ _ _ _ (by omega)]; exact h.src, by rw [setRow_other _ _ _ _ (by omega)]; exact h.res, setRow_at h.dst, by rw [ovl_len (by rw [h.len]; exact hl), h.len]⟩
theorem CSt.cell {w wx : World} {k c : List UInt8} {d : Int} (h : CSt w k d c wx) (i : Nat) (b : UInt8) : CSt w k d (c.set i b) (wx.setCell ⟨w.heap.size + 2, i, none⟩ (.int .u8 (b.toNat : Int))) :=
  ⟨h.bel.setCell (p := ⟨w.heap.size + 2, i, none⟩) (by show w.heap.size ≤ w.heap.size + 2; omega) _, (heap_setCell_other _ (by omega)).trans h.src, (heap_setCell_other _ (by omega)).trans h.res, by rw [heap_setCell_self _ h.dst, bC_set], by rw [List.length_set]; exact h.len⟩
theorem CSt.at_ {w wx : World} {k c : List UInt8} {d : Int} (h : CSt w k d c wx) (i : Nat) (hi : i < 25) : (∃ b : UInt8, wx.cell? ⟨w.heap.size + 2, i, none⟩ = some (.int .u8 (b.toNat : Int))) ∧ wx.frozen? ⟨w.heap.size + 2, i, none⟩ = false :=
  ⟨⟨c[i]'(by rw [h.len]; exact hi), by rw [cell_blk h.dst, bC_get c i (by rw [h.len]; exact hi)]⟩, by simp [World.frozen?, h.dst]⟩
theorem CSt.dep {w wx : World} {k c : List UInt8} {d : Int} (h : CSt w k d c wx) (hk : k.length = 25) : wx.cell? ⟨w.heap.size, 25, none⟩ = some (.int .i64 d) := by rw [cell_blk h.src, pC_d hk]
theorem CSt.key {w wx : World} {k c : List UInt8} {d : Int} (h : CSt w k d c wx) (i : Nat) (hi : i < k.length) : wx.cell? ⟨w.heap.size, i, none⟩ = some (.int .u8 (k[i].toNat : Int)) := by rw [cell_blk h.src, pC_k d i hi]
set_option maxRecDepth 100000 in
set_option maxHeartbeats 8000000 in
theorem cut_any (k : List UInt8) (d : Int) (w : World) (hk : k.length = 25) :
    Calls Try.prog 60 #[.agg (pC k d).toArray] w fun e w' => e = .returned (.agg (bC (cutK k d))) ∧ Below w.heap.size w w' := by
  have HK := Lib.hid hk
  obtain ⟨x0, x1, x2, nm, tg, hkk, hnm, htg⟩ := key_parts k hk
  have HNm := Lib.hid hnm
  have HTg := Lib.hid htg
  have HD : Hid ((k.drop 15).take 10 = tg) := by
    show _ = _
    rw [hkk]
    show ((nm ++ tg).drop 12).take 10 = tg
    rw [List.drop_left' hnm, List.take_of_length_le (by omega)]
  have HN : Hid ((k.drop 3).take 12 = nm) := by
    show _ = _
    rw [hkk]
    show (nm ++ tg).take 12 = nm
    rw [List.take_left' hnm]
  have HKK := Lib.hid hkk
  have hz : ((w.alloc (.cells (pC k d).toArray 63)).alloc (.cells #[Value.int IntKind.u8 0, Value.int IntKind.u8 0, Value.int IntKind.u8 0, Value.int IntKind.u8 0, Value.int IntKind.u8 0, Value.int IntKind.u8 0, Value.int IntKind.u8 0, Value.int IntKind.u8 0, Value.int IntKind.u8 0, Value.int IntKind.u8 0, Value.int IntKind.u8 0, Value.int IntKind.u8 0, Value.int IntKind.u8 0, Value.int IntKind.u8 0, Value.int IntKind.u8 0, Value.int IntKind.u8 0, Value.int IntKind.u8 0, Value.int IntKind.u8 0, Value.int IntKind.u8 0, Value.int IntKind.u8 0, Value.int IntKind.u8 0, Value.int IntKind.u8 0, Value.int IntKind.u8 0, Value.int IntKind.u8 0, Value.int IntKind.u8 0] 30)).heap[w.heap.size]? = some (.cells (pC k d).toArray 63 (0, 0)) := heap_alloc2_old _ _ _
  have hc0 : ((w.alloc (.cells (pC k d).toArray 63)).alloc (.cells #[Value.int IntKind.u8 0, Value.int IntKind.u8 0, Value.int IntKind.u8 0, Value.int IntKind.u8 0, Value.int IntKind.u8 0, Value.int IntKind.u8 0, Value.int IntKind.u8 0, Value.int IntKind.u8 0, Value.int IntKind.u8 0, Value.int IntKind.u8 0, Value.int IntKind.u8 0, Value.int IntKind.u8 0, Value.int IntKind.u8 0, Value.int IntKind.u8 0, Value.int IntKind.u8 0, Value.int IntKind.u8 0, Value.int IntKind.u8 0, Value.int IntKind.u8 0, Value.int IntKind.u8 0, Value.int IntKind.u8 0, Value.int IntKind.u8 0, Value.int IntKind.u8 0, Value.int IntKind.u8 0, Value.int IntKind.u8 0, Value.int IntKind.u8 0] 30)).cell? ⟨w.heap.size, 0, none⟩ = some (.int .u8 (x0.toNat : Int)) := by rw [cell_blk hz, pC_k d 0 (by omega)]; simp [hkk]
  have hbt := builtK1 x0
  have HS0 : Hid (CSt w k d (k1 x0) (((w.alloc (.cells (pC k d).toArray 63)).alloc (.cells (bC z25) 30)).alloc (.cells (bC (k1 x0)) 30))) := by
    refine ⟨(below_alloc2 _ _ _).alloc (by simp; omega) _, ?_, ?_, ?_, rfl⟩
    · rw [heap_alloc_old _ _ (by simp; omega)]; exact heap_alloc2_old _ _ _
    · rw [heap_alloc_old _ _ (by simp)]; exact heap_alloc2_new _ _ _
    · have := heap_alloc_new ((w.alloc (.cells (pC k d).toArray 63)).alloc (.cells (bC z25) 30)) (.cells (bC (k1 x0)) 30); simpa using this
  clear hk hkk hnm htg hz
  go_enter Try.func60, Try.ntmps60
  go_upto_region 2 with (first | ((with_reducible refine gate_bd 30 _ rfl ?_); refine wl_bd rfl _ [(0, .tmp 6)] rfl [(0, .int .u8 (x0.toNat : Int))] rfl (bC (k1 x0)) hbt ?_) | ((with_reducible refine gate_st 30 _ _ rfl ?_); refine wl_strn rfl _ _ _ rfl (bC (k1 x0)) #[Value.int IntKind.u8 0, Value.int IntKind.u8 0, Value.int IntKind.u8 0, Value.int IntKind.u8 0, Value.int IntKind.u8 0, Value.int IntKind.u8 0, Value.int IntKind.u8 0, Value.int IntKind.u8 0, Value.int IntKind.u8 0, Value.int IntKind.u8 0, Value.int IntKind.u8 0, Value.int IntKind.u8 0, Value.int IntKind.u8 0, Value.int IntKind.u8 0, Value.int IntKind.u8 0, Value.int IntKind.u8 0, Value.int IntKind.u8 0, Value.int IntKind.u8 0, Value.int IntKind.u8 0, Value.int IntKind.u8 0, Value.int IntKind.u8 0, Value.int IntKind.u8 0, Value.int IntKind.u8 0, Value.int IntKind.u8 0, Value.int IntKind.u8 0] _ (by rw [sizKey, bC_size, k1_len]) rfl (bC_one _) (by simp [Act.eval]) rfl ?_))
  rw [show (Obj.cells #[Value.int IntKind.u8 0, Value.int IntKind.u8 0, Value.int IntKind.u8 0, Value.int IntKind.u8 0, Value.int IntKind.u8 0, Value.int IntKind.u8 0, Value.int IntKind.u8 0, Value.int IntKind.u8 0, Value.int IntKind.u8 0, Value.int IntKind.u8 0, Value.int IntKind.u8 0, Value.int IntKind.u8 0, Value.int IntKind.u8 0, Value.int IntKind.u8 0, Value.int IntKind.u8 0, Value.int IntKind.u8 0, Value.int IntKind.u8 0, Value.int IntKind.u8 0, Value.int IntKind.u8 0, Value.int IntKind.u8 0, Value.int IntKind.u8 0, Value.int IntKind.u8 0, Value.int IntKind.u8 0, Value.int IntKind.u8 0, Value.int IntKind.u8 0] 30) = Obj.cells (bC z25) 30 from by simp [bC, z25, List.replicate]]
  simp only [Nat.add_assoc, Nat.reduceAdd]
  clear hc0 hbt
  generalize (((w.alloc (.cells (pC k d).toArray 63)).alloc (.cells (bC z25) 30)).alloc (.cells (bC (k1 x0)) 30)) = W0 at *
  rcases (show d < 1 ∨ d = 1 ∨ d = 2 ∨ d = 3 ∨ d = 4 ∨ 4 < d by omega) with hd | hd | hd | hd | hd | hd
  · have HCN : Hid (cutN d = 0) := by show _ = _; unfold cutN; rw [if_pos hd]
    have t1 : ¬ (1 : Int) < d := by omega
    have t2 : ¬ (2 : Int) < d := by omega
    have t3 : ¬ (3 : Int) < d := by omega
    have t4 : ¬ (4 : Int) < d := by omega
    have t0 : d < 1 := by omega
    have hdp := HS0.out.dep HK.out
    obtain ⟨⟨b0, hb0⟩, hf0⟩ := HS0.out.at_ 0 (by omega)
    have HS1 : Hid (CSt w k d ((k1 x0).set 0 0) (W0.setCell ⟨w.heap.size + 2, 0, none⟩ (.int .u8 0))) := HS0.out.cell 0 0
    have HC : Hid (((k1 x0).set 0 0) = cutK k d) := by
      show _ = _
      unfold cutK; rw [HCN.out]; conv => rhs; rw [HKK.out]
      simp [k1]
    rw [HC.out] at HS1
    go_upto_region 12 with fail
    generalize W0.setCell ⟨w.heap.size + 2, 0, none⟩ (.int .u8 0) = W1 at *
    go_wp2_with (first | ((with_reducible refine gate_ld 30 _ rfl ?_); refine wl_ldr rfl 30 _ rfl (w.heap.size + 2) 0 (bC (cutK k d)).toList _ Try.underlying30 rfl (by rw [sizKey]; simp [bC, HS1.out.len]) rfl (range_whole (by simpa using HS1.out.dst)) ?_) | ((with_reducible refine gate_st 30 _ _ rfl ?_); refine wl_str rfl 30 _ _ rfl (w.heap.size + 1) (bC (cutK k d)) (bC z25) _ (by rw [sizKey, bC_size, HS1.out.len]) (by rw [bC_size, bC_size, HS1.out.len]; rfl) (bC_one _) rfl rfl HS1.out.res ?_))
    refine bodyPost_ret (res_rowc (P := Try.prog) (T := 30) (T' := 30) rfl _ _ (w.heap.size + 1) (bC (cutK k d)) (0, 0) rfl (setRow_at HS1.out.res) Try.underlying30 rfl (by rw [sizKey, bC_size, HS1.out.len])) rfl ⟨rfl, setRow_below HS1.out.bel (by omega) _⟩
  · have HCN : Hid (cutN d = 1) := by show _ = _; unfold cutN; subst hd; rfl
    have t1 : ¬ (1 : Int) < d := by omega
    have t2 : ¬ (2 : Int) < d := by omega
    have t3 : ¬ (3 : Int) < d := by omega
    have t4 : ¬ (4 : Int) < d := by omega
    have t0 : ¬ d < 1 := by omega
    have hdp := HS0.out.dep HK.out
    clear hd
    have HC : Hid ((k1 x0) = cutK k d) := by
      show _ = _
      unfold cutK; rw [HCN.out]; conv => rhs; rw [HKK.out]
      simp [k1]
    rw [HC.out] at HS0
    go_wp2_with (first | ((with_reducible refine gate_ld 30 _ rfl ?_); refine wl_ldr rfl 30 _ rfl (w.heap.size + 2) 0 (bC (cutK k d)).toList _ Try.underlying30 rfl (by rw [sizKey]; simp [bC, HS0.out.len]) rfl (range_whole (by simpa using HS0.out.dst)) ?_) | ((with_reducible refine gate_st 30 _ _ rfl ?_); refine wl_str rfl 30 _ _ rfl (w.heap.size + 1) (bC (cutK k d)) (bC z25) _ (by rw [sizKey, bC_size, HS0.out.len]) (by rw [bC_size, bC_size, HS0.out.len]; rfl) (bC_one _) rfl rfl HS0.out.res ?_))
    refine bodyPost_ret (res_rowc (P := Try.prog) (T := 30) (T' := 30) rfl _ _ (w.heap.size + 1) (bC (cutK k d)) (0, 0) rfl (setRow_at HS0.out.res) Try.underlying30 rfl (by rw [sizKey, bC_size, HS0.out.len])) rfl ⟨rfl, setRow_below HS0.out.bel (by omega) _⟩
  · have HCN : Hid (cutN d = 2) := by show _ = _; unfold cutN; subst hd; rfl
    have t1 : (1 : Int) < d := by omega
    have t2 : ¬ (2 : Int) < d := by omega
    have t3 : ¬ (3 : Int) < d := by omega
    have t4 : ¬ (4 : Int) < d := by omega
    have t0 : ¬ d < 1 := by omega
    have hdp := HS0.out.dep HK.out
    clear hd
    obtain ⟨⟨b1, hb1⟩, hf1⟩ := HS0.out.at_ 1 (by omega)
    have hk1 : W0.cell? ⟨w.heap.size, 1, none⟩ = some (.int .u8 (x1.toNat : Int)) := by have := HS0.out.key 1 (by rw [HK.out]; omega); simpa [HKK.out] using this
    have HS1 : Hid (CSt w k d ((k1 x0).set 1 x1) (W0.setCell ⟨w.heap.size + 2, 1, none⟩ (.int .u8 (x1.toNat : Int)))) := HS0.out.cell 1 x1
    go_upto_region 6 with fail
    clear hdp hb1 hf1 hk1
    generalize W0.setCell ⟨w.heap.size + 2, 1, none⟩ (.int .u8 (x1.toNat : Int)) = W1 at *
    have hdp := HS1.out.dep HK.out
    have HC : Hid (((k1 x0).set 1 x1) = cutK k d) := by
      show _ = _
      unfold cutK; rw [HCN.out]; conv => rhs; rw [HKK.out]
      simp [k1]
    rw [HC.out] at HS1
    go_wp2_with (first | ((with_reducible refine gate_ld 30 _ rfl ?_); refine wl_ldr rfl 30 _ rfl (w.heap.size + 2) 0 (bC (cutK k d)).toList _ Try.underlying30 rfl (by rw [sizKey]; simp [bC, HS1.out.len]) rfl (range_whole (by simpa using HS1.out.dst)) ?_) | ((with_reducible refine gate_st 30 _ _ rfl ?_); refine wl_str rfl 30 _ _ rfl (w.heap.size + 1) (bC (cutK k d)) (bC z25) _ (by rw [sizKey, bC_size, HS1.out.len]) (by rw [bC_size, bC_size, HS1.out.len]; rfl) (bC_one _) rfl rfl HS1.out.res ?_))
    refine bodyPost_ret (res_rowc (P := Try.prog) (T := 30) (T' := 30) rfl _ _ (w.heap.size + 1) (bC (cutK k d)) (0, 0) rfl (setRow_at HS1.out.res) Try.underlying30 rfl (by rw [sizKey, bC_size, HS1.out.len])) rfl ⟨rfl, setRow_below HS1.out.bel (by omega) _⟩
  · have HCN : Hid (cutN d = 3) := by show _ = _; unfold cutN; subst hd; rfl
    have t1 : (1 : Int) < d := by omega
    have t2 : (2 : Int) < d := by omega
    have t3 : ¬ (3 : Int) < d := by omega
    have t4 : ¬ (4 : Int) < d := by omega
    have t0 : ¬ d < 1 := by omega
    have hdp := HS0.out.dep HK.out
    clear hd
    obtain ⟨⟨b1, hb1⟩, hf1⟩ := HS0.out.at_ 1 (by omega)
    have hk1 : W0.cell? ⟨w.heap.size, 1, none⟩ = some (.int .u8 (x1.toNat : Int)) := by have := HS0.out.key 1 (by rw [HK.out]; omega); simpa [HKK.out] using this
    have HS1 : Hid (CSt w k d ((k1 x0).set 1 x1) (W0.setCell ⟨w.heap.size + 2, 1, none⟩ (.int .u8 (x1.toNat : Int)))) := HS0.out.cell 1 x1
    go_upto_region 6 with fail
    clear hdp hb1 hf1 hk1
    generalize W0.setCell ⟨w.heap.size + 2, 1, none⟩ (.int .u8 (x1.toNat : Int)) = W1 at *
    have hdp := HS1.out.dep HK.out
    obtain ⟨⟨b2, hb2⟩, hf2⟩ := HS1.out.at_ 2 (by omega)
    have hk2 : W1.cell? ⟨w.heap.size, 2, none⟩ = some (.int .u8 (x2.toNat : Int)) := by have := HS1.out.key 2 (by rw [HK.out]; omega); simpa [HKK.out] using this
    have HS2 : Hid (CSt w k d (((k1 x0).set 1 x1).set 2 x2) (W1.setCell ⟨w.heap.size + 2, 2, none⟩ (.int .u8 (x2.toNat : Int)))) := HS1.out.cell 2 x2
    go_upto_region 8 with fail
    clear hdp hb2 hf2 hk2
    generalize W1.setCell ⟨w.heap.size + 2, 2, none⟩ (.int .u8 (x2.toNat : Int)) = W2 at *
    have hdp := HS2.out.dep HK.out
    have HC : Hid ((((k1 x0).set 1 x1).set 2 x2) = cutK k d) := by
      show _ = _
      unfold cutK; rw [HCN.out]; conv => rhs; rw [HKK.out]
      simp [k1]
    rw [HC.out] at HS2
    go_wp2_with (first | ((with_reducible refine gate_ld 30 _ rfl ?_); refine wl_ldr rfl 30 _ rfl (w.heap.size + 2) 0 (bC (cutK k d)).toList _ Try.underlying30 rfl (by rw [sizKey]; simp [bC, HS2.out.len]) rfl (range_whole (by simpa using HS2.out.dst)) ?_) | ((with_reducible refine gate_st 30 _ _ rfl ?_); refine wl_str rfl 30 _ _ rfl (w.heap.size + 1) (bC (cutK k d)) (bC z25) _ (by rw [sizKey, bC_size, HS2.out.len]) (by rw [bC_size, bC_size, HS2.out.len]; rfl) (bC_one _) rfl rfl HS2.out.res ?_))
    refine bodyPost_ret (res_rowc (P := Try.prog) (T := 30) (T' := 30) rfl _ _ (w.heap.size + 1) (bC (cutK k d)) (0, 0) rfl (setRow_at HS2.out.res) Try.underlying30 rfl (by rw [sizKey, bC_size, HS2.out.len])) rfl ⟨rfl, setRow_below HS2.out.bel (by omega) _⟩
  · have HCN : Hid (cutN d = 15) := by show _ = _; unfold cutN; subst hd; rfl
    have t1 : (1 : Int) < d := by omega
    have t2 : (2 : Int) < d := by omega
    have t3 : (3 : Int) < d := by omega
    have t4 : ¬ (4 : Int) < d := by omega
    have t0 : ¬ d < 1 := by omega
    have hdp := HS0.out.dep HK.out
    clear hd
    obtain ⟨⟨b1, hb1⟩, hf1⟩ := HS0.out.at_ 1 (by omega)
    have hk1 : W0.cell? ⟨w.heap.size, 1, none⟩ = some (.int .u8 (x1.toNat : Int)) := by have := HS0.out.key 1 (by rw [HK.out]; omega); simpa [HKK.out] using this
    have HS1 : Hid (CSt w k d ((k1 x0).set 1 x1) (W0.setCell ⟨w.heap.size + 2, 1, none⟩ (.int .u8 (x1.toNat : Int)))) := HS0.out.cell 1 x1
    go_upto_region 6 with fail
    clear hdp hb1 hf1 hk1
    generalize W0.setCell ⟨w.heap.size + 2, 1, none⟩ (.int .u8 (x1.toNat : Int)) = W1 at *
    have hdp := HS1.out.dep HK.out
    obtain ⟨⟨b2, hb2⟩, hf2⟩ := HS1.out.at_ 2 (by omega)
    have hk2 : W1.cell? ⟨w.heap.size, 2, none⟩ = some (.int .u8 (x2.toNat : Int)) := by have := HS1.out.key 2 (by rw [HK.out]; omega); simpa [HKK.out] using this
    have HS2 : Hid (CSt w k d (((k1 x0).set 1 x1).set 2 x2) (W1.setCell ⟨w.heap.size + 2, 2, none⟩ (.int .u8 (x2.toNat : Int)))) := HS1.out.cell 2 x2
    go_upto_region 8 with fail
    clear hdp hb2 hf2 hk2
    generalize W1.setCell ⟨w.heap.size + 2, 2, none⟩ (.int .u8 (x2.toNat : Int)) = W2 at *
    have hdp := HS2.out.dep HK.out
    have HS3 : Hid (CSt w k d (ovl (((k1 x0).set 1 x1).set 2 x2) 3 nm) (W2.setRow (w.heap.size + 2) (bC (ovl (((k1 x0).set 1 x1).set 2 x2) 3 nm)))) := HS2.out.row 3 nm (by rw [HNm.out]; omega)
    go_upto_region 10 with (first | ((with_reducible refine gate_ld 24 _ rfl ?_); refine wl_ldr rfl 24 _ rfl w.heap.size 3 (bC nm).toList _ Try.underlying24 rfl (by rw [sizName]; simp [bC, HNm.out]) rfl (by have := pC_sub HS2.out.src 3 12; rwa [HN.out] at this) ?_) | ((with_reducible refine gate_st 24 _ _ rfl ?_); refine st_mid rfl 24 _ _ rfl (w.heap.size + 2) 3 (((k1 x0).set 1 x1).set 2 x2) nm _ HS2.out.dst rfl rfl (by rw [sizName, HNm.out]) (by rw [HS2.out.len, HNm.out]; omega) ?_))
    clear hdp
    generalize W2.setRow (w.heap.size + 2) (bC (ovl (((k1 x0).set 1 x1).set 2 x2) 3 nm)) = W3 at *
    have hdp := HS3.out.dep HK.out
    have HC : Hid ((ovl (((k1 x0).set 1 x1).set 2 x2) 3 nm) = cutK k d) := by
      show _ = _
      unfold cutK; rw [HCN.out]; conv => rhs; rw [HKK.out]
      simp [k1, ovl, HNm.out]
    rw [HC.out] at HS3
    go_wp2_with (first | ((with_reducible refine gate_ld 30 _ rfl ?_); refine wl_ldr rfl 30 _ rfl (w.heap.size + 2) 0 (bC (cutK k d)).toList _ Try.underlying30 rfl (by rw [sizKey]; simp [bC, HS3.out.len]) rfl (range_whole (by simpa using HS3.out.dst)) ?_) | ((with_reducible refine gate_st 30 _ _ rfl ?_); refine wl_str rfl 30 _ _ rfl (w.heap.size + 1) (bC (cutK k d)) (bC z25) _ (by rw [sizKey, bC_size, HS3.out.len]) (by rw [bC_size, bC_size, HS3.out.len]; rfl) (bC_one _) rfl rfl HS3.out.res ?_))
    refine bodyPost_ret (res_rowc (P := Try.prog) (T := 30) (T' := 30) rfl _ _ (w.heap.size + 1) (bC (cutK k d)) (0, 0) rfl (setRow_at HS3.out.res) Try.underlying30 rfl (by rw [sizKey, bC_size, HS3.out.len])) rfl ⟨rfl, setRow_below HS3.out.bel (by omega) _⟩
  · have HCN : Hid (cutN d = 25) := by show _ = _; unfold cutN; rw [if_neg (by omega), if_neg (by omega), if_neg (by omega), if_neg (by omega), if_neg (by omega)]
    have t1 : (1 : Int) < d := by omega
    have t2 : (2 : Int) < d := by omega
    have t3 : (3 : Int) < d := by omega
    have t4 : (4 : Int) < d := by omega
    have t0 : ¬ d < 1 := by omega
    have hdp := HS0.out.dep HK.out
    obtain ⟨⟨b1, hb1⟩, hf1⟩ := HS0.out.at_ 1 (by omega)
    have hk1 : W0.cell? ⟨w.heap.size, 1, none⟩ = some (.int .u8 (x1.toNat : Int)) := by have := HS0.out.key 1 (by rw [HK.out]; omega); simpa [HKK.out] using this
    have HS1 : Hid (CSt w k d ((k1 x0).set 1 x1) (W0.setCell ⟨w.heap.size + 2, 1, none⟩ (.int .u8 (x1.toNat : Int)))) := HS0.out.cell 1 x1
    go_upto_region 6 with fail
    clear hdp hb1 hf1 hk1
    generalize W0.setCell ⟨w.heap.size + 2, 1, none⟩ (.int .u8 (x1.toNat : Int)) = W1 at *
    have hdp := HS1.out.dep HK.out
    obtain ⟨⟨b2, hb2⟩, hf2⟩ := HS1.out.at_ 2 (by omega)
    have hk2 : W1.cell? ⟨w.heap.size, 2, none⟩ = some (.int .u8 (x2.toNat : Int)) := by have := HS1.out.key 2 (by rw [HK.out]; omega); simpa [HKK.out] using this
    have HS2 : Hid (CSt w k d (((k1 x0).set 1 x1).set 2 x2) (W1.setCell ⟨w.heap.size + 2, 2, none⟩ (.int .u8 (x2.toNat : Int)))) := HS1.out.cell 2 x2
    go_upto_region 8 with fail
    clear hdp hb2 hf2 hk2
    generalize W1.setCell ⟨w.heap.size + 2, 2, none⟩ (.int .u8 (x2.toNat : Int)) = W2 at *
    have hdp := HS2.out.dep HK.out
    have HS3 : Hid (CSt w k d (ovl (((k1 x0).set 1 x1).set 2 x2) 3 nm) (W2.setRow (w.heap.size + 2) (bC (ovl (((k1 x0).set 1 x1).set 2 x2) 3 nm)))) := HS2.out.row 3 nm (by rw [HNm.out]; omega)
    go_upto_region 10 with (first | ((with_reducible refine gate_ld 24 _ rfl ?_); refine wl_ldr rfl 24 _ rfl w.heap.size 3 (bC nm).toList _ Try.underlying24 rfl (by rw [sizName]; simp [bC, HNm.out]) rfl (by have := pC_sub HS2.out.src 3 12; rwa [HN.out] at this) ?_) | ((with_reducible refine gate_st 24 _ _ rfl ?_); refine st_mid rfl 24 _ _ rfl (w.heap.size + 2) 3 (((k1 x0).set 1 x1).set 2 x2) nm _ HS2.out.dst rfl rfl (by rw [sizName, HNm.out]) (by rw [HS2.out.len, HNm.out]; omega) ?_))
    clear hdp
    generalize W2.setRow (w.heap.size + 2) (bC (ovl (((k1 x0).set 1 x1).set 2 x2) 3 nm)) = W3 at *
    have hdp := HS3.out.dep HK.out
    have HS4 : Hid (CSt w k d (ovl (ovl (((k1 x0).set 1 x1).set 2 x2) 3 nm) 15 tg) (W3.setRow (w.heap.size + 2) (bC (ovl (ovl (((k1 x0).set 1 x1).set 2 x2) 3 nm) 15 tg)))) := HS3.out.row 15 tg (by rw [HTg.out]; omega)
    go_upto_region 12 with (first | ((with_reducible refine gate_ld 28 _ rfl ?_); refine wl_ldr rfl 28 _ rfl w.heap.size 15 (bC tg).toList _ Try.underlying28 rfl (by rw [sizTag]; simp [bC, HTg.out]) rfl (by have := pC_sub HS3.out.src 15 10; rwa [HD.out] at this) ?_) | ((with_reducible refine gate_st 28 _ _ rfl ?_); refine st_mid rfl 28 _ _ rfl (w.heap.size + 2) 15 (ovl (((k1 x0).set 1 x1).set 2 x2) 3 nm) tg _ HS3.out.dst rfl rfl (by rw [sizTag, HTg.out]) (by rw [HS3.out.len, HTg.out]; omega) ?_))
    clear hdp
    generalize W3.setRow (w.heap.size + 2) (bC (ovl (ovl (((k1 x0).set 1 x1).set 2 x2) 3 nm) 15 tg)) = W4 at *
    have HC : Hid ((ovl (ovl (((k1 x0).set 1 x1).set 2 x2) 3 nm) 15 tg) = cutK k d) := by
      show _ = _
      unfold cutK; rw [HCN.out]; conv => rhs; rw [HKK.out]
      simp [k1, ovl, HNm.out, HTg.out]; rw [List.drop_eq_nil_of_le (by simp [HNm.out]), List.append_nil, List.take_of_length_le (by simp [HNm.out, HTg.out])]
    rw [HC.out] at HS4
    go_wp2_with (first | ((with_reducible refine gate_ld 30 _ rfl ?_); refine wl_ldr rfl 30 _ rfl (w.heap.size + 2) 0 (bC (cutK k d)).toList _ Try.underlying30 rfl (by rw [sizKey]; simp [bC, HS4.out.len]) rfl (range_whole (by simpa using HS4.out.dst)) ?_) | ((with_reducible refine gate_st 30 _ _ rfl ?_); refine wl_str rfl 30 _ _ rfl (w.heap.size + 1) (bC (cutK k d)) (bC z25) _ (by rw [sizKey, bC_size, HS4.out.len]) (by rw [bC_size, bC_size, HS4.out.len]; rfl) (bC_one _) rfl rfl HS4.out.res ?_))
    refine bodyPost_ret (res_rowc (P := Try.prog) (T := 30) (T' := 30) rfl _ _ (w.heap.size + 1) (bC (cutK k d)) (0, 0) rfl (setRow_at HS4.out.res) Try.underlying30 rfl (by rw [sizKey, bC_size, HS4.out.len])) rfl ⟨rfl, setRow_below HS4.out.bel (by omega) _⟩
end Go.Proofs.Ytagdedjclbmlkaa
