/- The document's Bytes. -/
import Derived.Test.YtagdedjclbmlkaaD2
import Derived.Test.YtagdedjclbmlkaaC18
namespace Go.Proofs.Ytagdedjclbmlkaa
open Go.RowKit

/-- Where Bytes stands. -/
structure BSt (w : World) (k c : List UInt8) (wx : World) : Prop where
  bel : Below w.heap.size w wx
  src : wx.heap[w.heap.size]? = some (.cells (rkC k).toArray 40 (0, 0))
  res : wx.heap[w.heap.size + 1]? = some (.cells (bC z25) 85 (0, 0))
  dst : wx.heap[w.heap.size + 1 + 1]? = some (.cells (bC c) 85 (0, 0))
  len : c.length = 25
theorem BSt.below {w wx W : World} {k c : List UInt8} (h : BSt w k c wx) (hb : Below wx.heap.size wx W) : BSt w k c W :=
  ⟨h.bel.trans (hb.mono h.bel.size), (hb.block _ (lt_heap h.src)).trans h.src, (hb.block _ (lt_heap h.res)).trans h.res, (hb.block _ (lt_heap h.dst)).trans h.dst, h.len⟩
theorem BSt.cell {w wx : World} {k c : List UInt8} (h : BSt w k c wx) (i : Nat) (b : UInt8) : BSt w k (c.set i b) (wx.setCell ⟨w.heap.size + 1 + 1, i, none⟩ (.int .u8 (b.toNat : Int))) :=
  ⟨h.bel.setCell (p := ⟨w.heap.size + 1 + 1, i, none⟩) (by show w.heap.size ≤ w.heap.size + 1 + 1; omega) _, (heap_setCell_other _ (by omega)).trans h.src, (heap_setCell_other _ (by omega)).trans h.res, by rw [heap_setCell_self _ h.dst, bC_set], by rw [List.length_set]; exact h.len⟩
theorem BSt.at_ {w wx : World} {k c : List UInt8} (h : BSt w k c wx) (i : Nat) (hi : i < 25) : (∃ b : UInt8, wx.cell? ⟨w.heap.size + 1 + 1, i, none⟩ = some (.int .u8 (b.toNat : Int))) ∧ wx.frozen? ⟨w.heap.size + 1 + 1, i, none⟩ = false :=
  ⟨⟨c[i]'(by rw [h.len]; exact hi), by rw [cell_blk h.dst, bC_get c i (by rw [h.len]; exact hi)]⟩, by simp [World.frozen?, h.dst]⟩
theorem bs_int {p : Nat} {wx : World} {k : List UInt8} (h : wx.heap[p]? = some (.cells (rkC k).toArray 40 (0, 0))) (j : Nat) (hj : j < 3) : wx.cell? ⟨p, j, none⟩ = some (.int .i64 ((k.getD j 0).toNat : Int)) := by
  rw [cell_blk h]
  rcases (show j = 0 ∨ j = 1 ∨ j = 2 by omega) with rfl | rfl | rfl <;> rfl
theorem bs_byte {p : Nat} {wx : World} {k : List UInt8} (h : wx.heap[p]? = some (.cells (rkC k).toArray 40 (0, 0))) (j : Nat) (h3 : 3 ≤ j) (hj : j < k.length) : wx.cell? ⟨p, j, none⟩ = some (.int .u8 (k[j].toNat : Int)) := by
  rw [cell_blk h]
  obtain ⟨i, rfl⟩ : ∃ i, j = i + 3 := ⟨j - 3, by omega⟩
  have e : (bC (k.drop 3))[i]? = some (.int .u8 (k[i + 3].toNat : Int)) := by
    rw [bC_get _ i (by simp; omega)]
    simp [Nat.add_comm 3 i]
  simpa [rkC] using e
theorem exec_cvD {o : Oper} {a : Act} {w : World} (x : Operand) (ho : o.op = .convert 3 5 x) (b : UInt8) (hx : a.eval x = .int .i64 (b.toNat : Int)) : (execOp a.eval o).run Try.prog w = .ok (.value (.int .u8 (b.toNat : Int))) w := by
  have := byte_lt b
  unfold execOp
  simp only [ho, hx]
  simp [go_sem]
  exact wrap_small _ (.inr (.inr rfl)) _ (by omega)
theorem exec_stC {P : Program} {o : Oper} {a : Act} {w : World} {T : TypeId} (hsz : (P.info? T).map (·.size) = some 1) (x y : Operand) (ho : o.op = .store T x y) (b i : Nat) (old : Value) (z : Int) (hc : w.cell? ⟨b, i, none⟩ = some old) (hf : w.frozen? ⟨b, i, none⟩ = false) (hx : a.eval x = .pointer (some ⟨b, i, none⟩)) (hy : a.eval y = .int .u8 z) :
    (execOp a.eval o).run P w = .ok .skip (w.setCell ⟨b, i, none⟩ (.int .u8 z)) := by
  cases hq : P.info? T with
  | none => simp [hq] at hsz
  | some inf =>
    have hs : inf.size = 1 := by simpa [hq] using hsz
    unfold execOp
    simp only [ho, hx, hy, Sem.run_bind]
    simp [go_sem, sizeOf, typeInfo, hq, hs, hc, hf]
theorem siz5b : (Try.prog.info? 5).map (·.size) = some 1 := by kernel_rfl
/-- So many of a key's bytes laid. -/
def bl (k : List UInt8) (i : Nat) : List UInt8 := k.take i ++ List.replicate (25 - i) 0
theorem bl_set {k : List UInt8} (hk : k.length = 25) (i : Nat) (hi : i < 25) : (bl k i).set i (k.getD i 0) = bl k (i + 1) := by
  unfold bl
  rw [List.set_append_right _ _ (by rw [List.length_take]; omega), List.length_take, hk, show i - min i 25 = 0 by omega, show 25 - i = (25 - (i + 1)) + 1 by omega, List.replicate_succ, List.set_cons_zero]
  rw [List.take_succ_eq_append_getElem (by omega), List.append_assoc]
  congr 1
  simp [List.getD_eq_getElem?_getD, List.getElem?_eq_getElem (show i < k.length by omega)]
theorem BSt.next {w wr : World} {k : List UInt8} {i : Nat} (h : BSt w k (bl k i) wr) (hk : k.length = 25) (h3 : 3 ≤ i) (hi : i < 25) : ∃ tb ob : UInt8, wr.cell? ⟨w.heap.size, i, none⟩ = some (.int .u8 (tb.toNat : Int)) ∧ wr.cell? ⟨w.heap.size + 1 + 1, i, none⟩ = some (.int .u8 (ob.toNat : Int)) ∧ wr.frozen? ⟨w.heap.size + 1 + 1, i, none⟩ = false ∧ BSt w k (bl k (i + 1)) (wr.setCell ⟨w.heap.size + 1 + 1, i, none⟩ (.int .u8 (tb.toNat : Int))) := by
  obtain ⟨⟨ob, hc⟩, hf⟩ := h.at_ i hi
  refine ⟨k[i], ob, bs_byte h.src i h3 (by omega), hc, hf, ?_⟩
  have := h.cell i k[i]
  rwa [show k[i] = k.getD i 0 by simp [List.getD_eq_getElem?_getD, List.getElem?_eq_getElem (show i < k.length by omega)], bl_set hk i hi, show k.getD i 0 = k[i] by simp [List.getD_eq_getElem?_getD, List.getElem?_eq_getElem (show i < k.length by omega)]] at this
set_option maxRecDepth 100000 in
set_option maxHeartbeats 4000000 in
theorem rbytes_any (k : List UInt8) (w : World) (hk : k.length = 25) :
    Calls Try.prog 42 #[.agg (rkC k).toArray] w fun e w' => e = .returned (.agg (bC k)) ∧ Below w.heap.size w w' := by
  have HK := Lib.hid hk
  have hb2 := below_alloc2 w (.cells (rkC k).toArray 40) (.cells (bC z25) 85)
  have HS : Hid (BSt w k (bl k 0) (((w.alloc (.cells (rkC k).toArray 40)).alloc (.cells (bC z25) 85)).alloc (.cells (bC z25) 85))) :=
    ⟨hb2.alloc hb2.size _, (heap_alloc_old _ _ (by simp; omega)).trans (heap_alloc2_old _ _ _), (heap_alloc_old _ _ (by simp)).trans (heap_alloc2_new _ _ _), by
      show _ = some (Obj.cells (bC z25) 85 (0, 0))
      have := heap_alloc_new ((w.alloc (.cells (rkC k).toArray 40)).alloc (.cells (bC z25) 85)) (.cells (bC z25) 85)
      simpa using this, rfl⟩
  clear hb2 hk
  go_enter Try.func42, Try.ntmps42
  go_upto_region 2 with fail
  show Code.wp _ _ _ _ (((w.alloc (.cells (rkC k).toArray 40)).alloc (.cells (bC z25) 85)).alloc (.cells (bC z25) 85))
  generalize (((w.alloc (.cells (rkC k).toArray 40)).alloc (.cells (bC z25) 85)).alloc (.cells (bC z25) 85)) = W1 at *
  have hS1 : BSt w k (bl k 0) W1.drew := HS.out.below ⟨rfl, rfl, rfl, Nat.le_refl _, fun _ _ => rfl⟩
  clear HS
  refine wp_region_held_drew (S := fun w' => w'.heap[w.heap.size]? = some (.cells (rkC k).toArray 40 (0, 0))) (by kernel_rfl) hS1.src (fun hS => ?_)
  show wpAnyH Try.prog Region.Mode.any _ _ _ 15 #[false, false, false, false, false, false, false, false, false, false, false, false, false, false, false] _ _
  generalize W1.drew = Wd at *
  refine takeD (i := 0) (v := .pointer (some ⟨w.heap.size, 0, none⟩)) 6 rfl rfl (by kernel_rfl) (by kernel_rfl) (by kernel_rfl) (fun _ _ _ h => h) (Or.inl ⟨rfl, fun w' hS => by kernel_rfl⟩) hS ?_
  simp only [Act.put, List.setIfInBounds_toArray, List.set_cons_zero, List.set_cons_succ]
  refine takeD (i := 1) (v := .int .i64 ((k.getD 0 0).toNat : Int)) 7 rfl rfl (by kernel_rfl) (by kernel_rfl) (by kernel_rfl) (fun _ _ _ h => h) (Or.inl ⟨rfl, fun w' hS => exec_ld1G 3 ag3 (.tmp 6) rfl w.heap.size 0 _ rfl (bs_int hS 0 (by omega))⟩) hS ?_
  simp only [Act.put, List.setIfInBounds_toArray, List.set_cons_zero, List.set_cons_succ]
  refine takeD (i := 2) (v := .int .u8 ((k.getD 0 0).toNat : Int)) 8 rfl rfl (by kernel_rfl) (by kernel_rfl) (by kernel_rfl) (fun _ _ _ h => h) (Or.inl ⟨rfl, fun w' hS => exec_cvD (.tmp 7) rfl _ rfl⟩) hS ?_
  simp only [Act.put, List.setIfInBounds_toArray, List.set_cons_zero, List.set_cons_succ]
  refine takeD (i := 3) (v := .pointer (some ⟨w.heap.size, 1, none⟩)) 9 rfl rfl (by kernel_rfl) (by kernel_rfl) (by kernel_rfl) (fun _ _ _ h => h) (Or.inl ⟨rfl, fun w' hS => by kernel_rfl⟩) hS ?_
  simp only [Act.put, List.setIfInBounds_toArray, List.set_cons_zero, List.set_cons_succ]
  refine takeD (i := 4) (v := .int .i64 ((k.getD 1 0).toNat : Int)) 10 rfl rfl (by kernel_rfl) (by kernel_rfl) (by kernel_rfl) (fun _ _ _ h => h) (Or.inl ⟨rfl, fun w' hS => exec_ld1G 3 ag3 (.tmp 9) rfl w.heap.size 1 _ rfl (bs_int hS 1 (by omega))⟩) hS ?_
  simp only [Act.put, List.setIfInBounds_toArray, List.set_cons_zero, List.set_cons_succ]
  refine takeD (i := 5) (v := .int .u8 ((k.getD 1 0).toNat : Int)) 11 rfl rfl (by kernel_rfl) (by kernel_rfl) (by kernel_rfl) (fun _ _ _ h => h) (Or.inl ⟨rfl, fun w' hS => exec_cvD (.tmp 10) rfl _ rfl⟩) hS ?_
  simp only [Act.put, List.setIfInBounds_toArray, List.set_cons_zero, List.set_cons_succ]
  refine takeD (i := 6) (v := .pointer (some ⟨w.heap.size, 2, none⟩)) 12 rfl rfl (by kernel_rfl) (by kernel_rfl) (by kernel_rfl) (fun _ _ _ h => h) (Or.inl ⟨rfl, fun w' hS => by kernel_rfl⟩) hS ?_
  simp only [Act.put, List.setIfInBounds_toArray, List.set_cons_zero, List.set_cons_succ]
  refine takeD (i := 7) (v := .int .i64 ((k.getD 2 0).toNat : Int)) 13 rfl rfl (by kernel_rfl) (by kernel_rfl) (by kernel_rfl) (fun _ _ _ h => h) (Or.inl ⟨rfl, fun w' hS => exec_ld1G 3 ag3 (.tmp 12) rfl w.heap.size 2 _ rfl (bs_int hS 2 (by omega))⟩) hS ?_
  simp only [Act.put, List.setIfInBounds_toArray, List.set_cons_zero, List.set_cons_succ]
  refine takeD (i := 8) (v := .int .u8 ((k.getD 2 0).toNat : Int)) 14 rfl rfl (by kernel_rfl) (by kernel_rfl) (by kernel_rfl) (fun _ _ _ h => h) (Or.inl ⟨rfl, fun w' hS => exec_cvD (.tmp 13) rfl _ rfl⟩) hS ?_
  simp only [Act.put, List.setIfInBounds_toArray, List.set_cons_zero, List.set_cons_succ]
  refine takeD (i := 9) (v := .pointer (some ⟨w.heap.size + 1 + 1, 0, none⟩)) 15 rfl rfl (by kernel_rfl) (by kernel_rfl) (by kernel_rfl) (fun _ _ _ h => h) (Or.inl ⟨rfl, fun w' hS => by kernel_rfl⟩) hS ?_
  simp only [Act.put, List.setIfInBounds_toArray, List.set_cons_zero, List.set_cons_succ]
  obtain ⟨⟨ob0, hc0⟩, hf0⟩ := hS1.at_ 0 (by omega)
  have hS2 : BSt w k (bl k 1) (Wd.setCell ⟨w.heap.size + 1 + 1, 0, none⟩ (.int .u8 ((k.getD 0 0).toNat : Int))) := by
    have := hS1.cell 0 (k.getD 0 0)
    rwa [bl_set HK.out 0 (by omega)] at this
  refine oneH 10 (by kernel_rfl) (wpOp_skip rfl rfl (exec_stC siz5b (.tmp 15) (.tmp 8) rfl (w.heap.size + 1 + 1) 0 _ _ hc0 hf0 rfl rfl) ⟨hS2.src, ?_⟩)
  simp only [Act.put, List.setIfInBounds_toArray, List.set_cons_zero, List.set_cons_succ]
  generalize Wd.setCell ⟨w.heap.size + 1 + 1, 0, none⟩ (.int .u8 ((k.getD 0 0).toNat : Int)) = W2 at *
  refine takeD (i := 11) (v := .pointer (some ⟨w.heap.size + 1 + 1, 1, none⟩)) 16 rfl rfl (by kernel_rfl) (by kernel_rfl) (by kernel_rfl) (fun _ _ _ h => h) (Or.inl ⟨rfl, fun w' hS => by kernel_rfl⟩) hS2.src ?_
  simp only [Act.put, List.setIfInBounds_toArray, List.set_cons_zero, List.set_cons_succ]
  obtain ⟨⟨ob1, hc1⟩, hf1⟩ := hS2.at_ 1 (by omega)
  have hS3 : BSt w k (bl k 2) (W2.setCell ⟨w.heap.size + 1 + 1, 1, none⟩ (.int .u8 ((k.getD 1 0).toNat : Int))) := by
    have := hS2.cell 1 (k.getD 1 0)
    rwa [bl_set HK.out 1 (by omega)] at this
  refine oneH 12 (by kernel_rfl) (wpOp_skip rfl rfl (exec_stC siz5b (.tmp 16) (.tmp 11) rfl (w.heap.size + 1 + 1) 1 _ _ hc1 hf1 rfl rfl) ⟨hS3.src, ?_⟩)
  simp only [Act.put, List.setIfInBounds_toArray, List.set_cons_zero, List.set_cons_succ]
  generalize W2.setCell ⟨w.heap.size + 1 + 1, 1, none⟩ (.int .u8 ((k.getD 1 0).toNat : Int)) = W3 at *
  refine takeD (i := 13) (v := .pointer (some ⟨w.heap.size + 1 + 1, 2, none⟩)) 17 rfl rfl (by kernel_rfl) (by kernel_rfl) (by kernel_rfl) (fun _ _ _ h => h) (Or.inl ⟨rfl, fun w' hS => by kernel_rfl⟩) hS3.src ?_
  simp only [Act.put, List.setIfInBounds_toArray, List.set_cons_zero, List.set_cons_succ]
  obtain ⟨⟨ob2, hc2⟩, hf2⟩ := hS3.at_ 2 (by omega)
  have hS4 : BSt w k (bl k 3) (W3.setCell ⟨w.heap.size + 1 + 1, 2, none⟩ (.int .u8 ((k.getD 2 0).toNat : Int))) := by
    have := hS3.cell 2 (k.getD 2 0)
    rwa [bl_set HK.out 2 (by omega)] at this
  refine oneH 14 (by kernel_rfl) (wpOp_skip rfl rfl (exec_stC siz5b (.tmp 17) (.tmp 14) rfl (w.heap.size + 1 + 1) 2 _ _ hc2 hf2 rfl rfl) ⟨hS4.src, ?_⟩)
  simp only [Act.put, List.setIfInBounds_toArray, List.set_cons_zero, List.set_cons_succ]
  generalize W3.setCell ⟨w.heap.size + 1 + 1, 2, none⟩ (.int .u8 ((k.getD 2 0).toNat : Int)) = W4 at *
  refine wpAnyH_done (by kernel_rfl) ?_ _
  have HS := Lib.hid hS4
  clear hS hS1 hS2 hS3 hS4 hc0 hc1 hc2 hf0 hf1 hf2
  go_wp2_with fail
  go_loopw [4] (fun i wr => ∃ j : Nat, j ≤ 12 ∧ i = .int .i64 j ∧ Hid (BSt w k (bl k (3 + j)) wr)) (fun i _ => 12 - (intOf i).toNat)
  case atStart => exact ⟨0, by omega, rfl, HS⟩
  case round =>
    obtain ⟨j, hj, rfl, HR⟩ := hrel
    by_cases hl : j < 12
    · obtain ⟨tb, ob, hct, hcd, hfd, hnx⟩ := HR.out.next HK.out (by omega) (by omega)
      have HJ := Lib.hid hnx
      have bt := byte_lt tb
      clear hnx HR
      rcases (show j = 0 ∨ j = 1 ∨ j = 2 ∨ j = 3 ∨ j = 4 ∨ j = 5 ∨ j = 6 ∨ j = 7 ∨ j = 8 ∨ j = 9 ∨ j = 10 ∨ j = 11 by omega) with rfl | rfl | rfl | rfl | rfl | rfl | rfl | rfl | rfl | rfl | rfl | rfl
      all_goals
        simp only [Nat.reduceAdd] at hct hcd hfd HJ
        go_wp2_with fail
        go_roundw
        case rel => first | exact ⟨1, by omega, rfl, HJ⟩ | exact ⟨2, by omega, rfl, HJ⟩ | exact ⟨3, by omega, rfl, HJ⟩ | exact ⟨4, by omega, rfl, HJ⟩ | exact ⟨5, by omega, rfl, HJ⟩ | exact ⟨6, by omega, rfl, HJ⟩ | exact ⟨7, by omega, rfl, HJ⟩ | exact ⟨8, by omega, rfl, HJ⟩ | exact ⟨9, by omega, rfl, HJ⟩ | exact ⟨10, by omega, rfl, HJ⟩ | exact ⟨11, by omega, rfl, HJ⟩ | exact ⟨12, by omega, rfl, HJ⟩
        case measure => simp [intOf]
    · obtain rfl : j = 12 := by omega
      have HS := HR
      go_wp2_with fail
      go_loopw [5] (fun i wr => ∃ j : Nat, j ≤ 10 ∧ i = .int .i64 j ∧ Hid (BSt w k (bl k (15 + j)) wr)) (fun i _ => 10 - (intOf i).toNat)
      case atStart => exact ⟨0, by omega, rfl, HS⟩
      case round =>
        obtain ⟨j, hj, rfl, HR⟩ := hrel
        by_cases hl : j < 10
        · obtain ⟨tb, ob, hct, hcd, hfd, hnx⟩ := HR.out.next HK.out (by omega) (by omega)
          have HJ := Lib.hid hnx
          have bt := byte_lt tb
          clear hnx HR
          rcases (show j = 0 ∨ j = 1 ∨ j = 2 ∨ j = 3 ∨ j = 4 ∨ j = 5 ∨ j = 6 ∨ j = 7 ∨ j = 8 ∨ j = 9 by omega) with rfl | rfl | rfl | rfl | rfl | rfl | rfl | rfl | rfl | rfl
          all_goals
            simp only [Nat.reduceAdd] at hct hcd hfd HJ
            go_wp2_with fail
            go_roundw
            case rel => first | exact ⟨1, by omega, rfl, HJ⟩ | exact ⟨2, by omega, rfl, HJ⟩ | exact ⟨3, by omega, rfl, HJ⟩ | exact ⟨4, by omega, rfl, HJ⟩ | exact ⟨5, by omega, rfl, HJ⟩ | exact ⟨6, by omega, rfl, HJ⟩ | exact ⟨7, by omega, rfl, HJ⟩ | exact ⟨8, by omega, rfl, HJ⟩ | exact ⟨9, by omega, rfl, HJ⟩ | exact ⟨10, by omega, rfl, HJ⟩
            case measure => simp [intOf]
        · obtain rfl : j = 10 := by omega
          have HF : Hid (BSt w k k wr) := by
            have := HR.out
            rwa [show bl k (15 + 10) = k by unfold bl; rw [List.take_of_length_le (by rw [HK.out]; omega)]; simp] at this
          clear HR
          clear HS
          go_wp2_with (first
            | ((with_reducible refine gate_ld 85 _ rfl ?_); refine wl_ldr rfl 85 (.tmp 3) rfl (w.heap.size + 1 + 1) 0 (bC k).toList _ Try.underlying85 rfl (by rw [siz25]; simp [bC, HK.out]) rfl (range_whole (by simpa using HF.out.dst)) ?_)
            | ((with_reducible refine gate_st 85 _ _ rfl ?_); refine wl_str rfl 85 (.tmp 2) (.tmp 40) rfl (w.heap.size + 1) (bC k) (bC z25) 85 (by rw [siz25, bC_size, HK.out]) (by rw [bC_size, HK.out]; rfl) (bC_one k) rfl rfl HF.out.res ?_))
          refine bodyPost_ret (res_rowc (P := Try.prog) (T := 85) (T' := 85) rfl _ _ (w.heap.size + 1) (bC k) (0, 0) rfl (setRow_at HF.out.res) Try.underlying85 rfl (by rw [siz25, bC_size, HK.out])) rfl ⟨rfl, setRow_below HF.out.bel (by omega) _⟩
end Go.Proofs.Ytagdedjclbmlkaa
