/- Key's Bytes; Less. -/
import Derived.Test.YtagdedjclbmlkaaK1
namespace Go.Proofs.Ytagdedjclbmlkaa
open Go.RowKit

def k3 (a b c : UInt8) : List UInt8 := a :: b :: c :: List.replicate 22 0
theorem k3_len (a b c : UInt8) : (k3 a b c).length = 25 := rfl
def z25 : List UInt8 := List.replicate 25 0
theorem sizKey : (Try.prog.info? 30).map (·.size) = some 25 := by kernel_rfl
theorem siz25 : (Try.prog.info? 85).map (·.size) = some 25 := by kernel_rfl
theorem sizTag : (Try.prog.info? 28).map (·.size) = some 10 := by kernel_rfl
/-- Where Bytes stands. -/
structure KSt (w : World) (k c : List UInt8) (wx : World) : Prop where
  bel : Below w.heap.size w wx
  src : wx.heap[w.heap.size]? = some (.cells (bC k) 30 (0, 0))
  res : wx.heap[w.heap.size + 1]? = some (.cells (bC z25) 85 (0, 0))
  dst : wx.heap[w.heap.size + 2]? = some (.cells (bC c) 85 (0, 0))
theorem KSt.step {w wx : World} {k c : List UInt8} (h : KSt w k c wx) (c' : List UInt8) : KSt w k c' (wx.setRow (w.heap.size + 2) (bC c')) :=
  ⟨setRow_below h.bel (by omega) _, by rw [setRow_other _ _ _ _ (by omega)]; exact h.src, by rw [setRow_other _ _ _ _ (by omega)]; exact h.res, setRow_at h.dst⟩
theorem KSt.drew {w wx : World} {k c : List UInt8} (h : KSt w k c wx) : KSt w k c wx.drew := ⟨h.bel.drew, h.src, h.res, h.dst⟩
theorem KSt.below {w wx wy : World} {k c : List UInt8} (h : KSt w k c wx) (hb : Below wx.heap.size wx wy) : KSt w k c wy :=
  ⟨h.bel.trans (hb.mono h.bel.size), (hb.block _ (lt_heap h.src)).trans h.src, (hb.block _ (lt_heap h.res)).trans h.res, (hb.block _ (lt_heap h.dst)).trans h.dst⟩
theorem key_parts (k : List UInt8) (hk : k.length = 25) : ∃ a b c nm tg, k = a :: b :: c :: (nm ++ tg) ∧ nm.length = 12 ∧ tg.length = 10 := by
  match k, hk with
  | a :: b :: c :: r, hk => exact ⟨a, b, c, r.take 12, r.drop 12, by rw [List.take_append_drop], by simp at hk ⊢; omega, by simp at hk ⊢; omega⟩
set_option maxRecDepth 100000 in
set_option maxHeartbeats 4000000 in
theorem keyBytes_any (k : List UInt8) (w : World) (hk : k.length = 25) :
    Calls Try.prog 35 #[.agg (bC k)] w fun e w' => e = .returned (.agg (bC k)) ∧ Below w.heap.size w w' := by
  have HK := Lib.hid hk
  obtain ⟨x0, x1, x2, nm, tg, hkk, hnm, htg⟩ := key_parts k hk
  have HKK := Lib.hid hkk
  have HNm := Lib.hid hnm
  have HTg := Lib.hid htg
  have HD : Hid ((k.drop 15).take 10 = tg) := by
    show _ = _
    rw [hkk]
    show ((nm ++ tg).drop 12).take 10 = tg
    rw [List.drop_left' hnm, List.take_of_length_le (by omega)]
  have HN : Hid ((k.drop 3).take 12 = nm) := by
    show _ = _
    rw [hkk]
    show (nm ++ tg).take 12 = nm
    rw [List.take_left' hnm]
  have h0 : (w.alloc (.cells (bC k) 30)).heap[w.heap.size]? = some (.cells (bC k) 30 (0, 0)) := heap_alloc_new _ _
  have hbt : Try.prog.built 85 [(0, .int .u8 (x0.toNat : Int)), (1, .int .u8 (x1.toNat : Int)), (2, .int .u8 (x2.toNat : Int))] = some (bC (k3 x0 x1 x2)) := rfl
  have HS0 : Hid (KSt w k (k3 x0 x1 x2) (((w.alloc (.cells (bC k) 30)).alloc (.cells (bC z25) 85)).alloc (.cells (bC (k3 x0 x1 x2)) 85))) := by
    refine ⟨(below_alloc2 _ _ _).alloc (by simp; omega) _, ?_, ?_, ?_⟩
    · rw [heap_alloc_old _ _ (by simp; omega)]; exact heap_alloc2_old _ _ _
    · rw [heap_alloc_old _ _ (by simp)]; exact heap_alloc2_new _ _ _
    · have := heap_alloc_new ((w.alloc (.cells (bC k) 30)).alloc (.cells (bC z25) 85)) (.cells (bC (k3 x0 x1 x2)) 85); simpa using this
  have hg0 : ∀ (W : World), W.heap[w.heap.size]? = some (.cells (bC k) 30 (0, 0)) → W.cell? ⟨w.heap.size, 0, none⟩ = some (.int .u8 (x0.toNat : Int)) ∧ W.cell? ⟨w.heap.size, 1, none⟩ = some (.int .u8 (x1.toNat : Int)) ∧ W.cell? ⟨w.heap.size, 2, none⟩ = some (.int .u8 (x2.toNat : Int)) := fun W h => by
    rw [cell_blk h, cell_blk h, cell_blk h, hkk]; exact ⟨rfl, rfl, rfl⟩
  have hz : ((w.alloc (.cells (bC k) 30)).alloc (.cells #[Value.int IntKind.u8 0, Value.int IntKind.u8 0, Value.int IntKind.u8 0, Value.int IntKind.u8 0, Value.int IntKind.u8 0, Value.int IntKind.u8 0, Value.int IntKind.u8 0, Value.int IntKind.u8 0, Value.int IntKind.u8 0, Value.int IntKind.u8 0, Value.int IntKind.u8 0, Value.int IntKind.u8 0, Value.int IntKind.u8 0, Value.int IntKind.u8 0, Value.int IntKind.u8 0, Value.int IntKind.u8 0, Value.int IntKind.u8 0, Value.int IntKind.u8 0, Value.int IntKind.u8 0, Value.int IntKind.u8 0, Value.int IntKind.u8 0, Value.int IntKind.u8 0, Value.int IntKind.u8 0, Value.int IntKind.u8 0, Value.int IntKind.u8 0] 85)).heap[w.heap.size]? = some (.cells (bC k) 30 (0, 0)) := heap_alloc2_old _ _ _
  have hc0 := (hg0 _ hz).1
  have hc1 := (hg0 _ hz).2.1
  have hc2 := (hg0 _ hz).2.2
  have KT : Hid (∀ W, Calls Try.prog 49 #[.agg (bC tg)] W fun e w' => e = .returned (.agg (bC tg)) ∧ Below W.heap.size W w') := fun W => tagBytes_any tg W htg
  clear hk hkk hnm htg h0 hg0 hz
  go_enter Try.func35, Try.ntmps35
  go_upto_region 2 with (first | ((with_reducible refine gate_bd 85 _ rfl ?_); refine wl_bd rfl _ [(0, .tmp 6), (1, .tmp 8), (2, .tmp 10)] rfl [(0, .int .u8 (x0.toNat : Int)), (1, .int .u8 (x1.toNat : Int)), (2, .int .u8 (x2.toNat : Int))] rfl (bC (k3 x0 x1 x2)) hbt ?_) | ((with_reducible refine gate_st 85 _ _ rfl ?_); refine wl_strn rfl _ _ _ rfl (bC (k3 x0 x1 x2)) #[Value.int IntKind.u8 0, Value.int IntKind.u8 0, Value.int IntKind.u8 0, Value.int IntKind.u8 0, Value.int IntKind.u8 0, Value.int IntKind.u8 0, Value.int IntKind.u8 0, Value.int IntKind.u8 0, Value.int IntKind.u8 0, Value.int IntKind.u8 0, Value.int IntKind.u8 0, Value.int IntKind.u8 0, Value.int IntKind.u8 0, Value.int IntKind.u8 0, Value.int IntKind.u8 0, Value.int IntKind.u8 0, Value.int IntKind.u8 0, Value.int IntKind.u8 0, Value.int IntKind.u8 0, Value.int IntKind.u8 0, Value.int IntKind.u8 0, Value.int IntKind.u8 0, Value.int IntKind.u8 0, Value.int IntKind.u8 0, Value.int IntKind.u8 0] _ (by rw [siz25, bC_size, k3_len]) rfl (bC_one _) (by simp [Act.eval]) rfl ?_))
  rw [show (Obj.cells #[Value.int IntKind.u8 0, Value.int IntKind.u8 0, Value.int IntKind.u8 0, Value.int IntKind.u8 0, Value.int IntKind.u8 0, Value.int IntKind.u8 0, Value.int IntKind.u8 0, Value.int IntKind.u8 0, Value.int IntKind.u8 0, Value.int IntKind.u8 0, Value.int IntKind.u8 0, Value.int IntKind.u8 0, Value.int IntKind.u8 0, Value.int IntKind.u8 0, Value.int IntKind.u8 0, Value.int IntKind.u8 0, Value.int IntKind.u8 0, Value.int IntKind.u8 0, Value.int IntKind.u8 0, Value.int IntKind.u8 0, Value.int IntKind.u8 0, Value.int IntKind.u8 0, Value.int IntKind.u8 0, Value.int IntKind.u8 0, Value.int IntKind.u8 0] 85) = Obj.cells (bC z25) 85 from by simp [bC, z25, List.replicate]]
  simp only [Nat.add_assoc, Nat.reduceAdd]
  clear hc0 hc1 hc2
  generalize (((w.alloc (.cells (bC k) 30)).alloc (.cells (bC z25) 85)).alloc (.cells (bC (k3 x0 x1 x2)) 85)) = W1 at *
  go_upto_region 3 with (first
    | ((with_reducible refine gate_ld 28 _ rfl ?_); refine ld_mid rfl 28 _ rfl w.heap.size 15 k 10 _ _ Try.underlying28 rfl HS0.out.src rfl sizTag (by rw [HK.out]; omega) ?_; rw [HD.out])
    | (go_at_call 49; (refine (KT.out _).mono ?_); rintro e W2 ⟨rfl, hb2⟩; have HSz2 : Hid (w.heap.size + 2 < W2.heap.size) := Nat.lt_of_lt_of_le (lt_heap HS0.out.dst) hb2.size; have HS1 := Lib.hid ((HS0.out.below hb2).below (below_alloc1 W2 (.cells (bC tg) 38))); have HG4 : Hid ((W2.alloc (.cells (bC tg) 38)).heap[W2.heap.size]? = some (.cells (bC tg) 38 (0, 0))) := heap_alloc_new _ _; clear hb2)
    | ((with_reducible refine gate_st 38 _ _ rfl ?_); refine wl_strn rfl _ _ _ rfl (bC tg) #[Value.int IntKind.u8 0, Value.int IntKind.u8 0, Value.int IntKind.u8 0, Value.int IntKind.u8 0, Value.int IntKind.u8 0, Value.int IntKind.u8 0, Value.int IntKind.u8 0, Value.int IntKind.u8 0, Value.int IntKind.u8 0, Value.int IntKind.u8 0] _ (by rw [siz10A, bC_size, HTg.out]) (by rw [bC_size, HTg.out]; rfl) (bC_one _) rfl rfl ?_))
  have HN4 : Hid (w.heap.size + 2 < W2.heap.size ∧ W2.heap.size < (W2.alloc (.cells (bC tg) 38)).heap.size) := ⟨HSz2.out, by simp⟩
  generalize W2.alloc (.cells (bC tg) 38) = W3 at *
  generalize W2.heap.size = g4 at *
  clear HS0 HSz2 KT
  go_still_tail 3, (by kernel_rfl)
  refine cp_bytes (w := W3.drew) rfl (.tmp 15) (.tmp 17) rfl (w.heap.size + 2) 3 12 22 w.heap.size 3 12 12 rfl rfl (k3 x0 x1 x2) _ HS1.out.drew.dst ((k.drop 3).take 12) (by rw [HN.out, HNm.out]; rfl) (by have := range_sub (range_whole (w := W3.drew) (g := w.heap.size) (vs := (bC k).toList) (by simpa using HS1.out.drew.src)) 3 12; simpa using this) (by rw [HN.out, HNm.out, k3_len]; omega) ?_
  have HS2 := Lib.hid (HS1.out.drew.step (ovl (k3 x0 x1 x2) 3 ((k.drop 3).take 12)))
  have HG5 : Hid ((W3.drew.setRow (w.heap.size + 2) (bC (ovl (k3 x0 x1 x2) 3 ((k.drop 3).take 12)))).heap[g4]? = some (.cells (bC tg) 38 (0, 0))) := by show _ = _; rw [setRow_other _ _ _ _ (by have := HN4.out.1; omega)]; exact HG4.out
  generalize W3.drew.setRow (w.heap.size + 2) (bC (ovl (k3 x0 x1 x2) 3 ((k.drop 3).take 12))) = W4 at *
  go_wp2_with fail
  go_still_tail 2, (by kernel_rfl)
  have hl25 : (ovl (k3 x0 x1 x2) 3 ((k.drop 3).take 12)).length = 25 := by rw [ovl_len (by rw [HN.out, HNm.out, k3_len]; omega), k3_len]
  refine cp_bytes (w := W4.drew) rfl (.tmp 19) (.tmp 20) rfl (w.heap.size + 2) 15 10 10 g4 0 10 10 rfl rfl (ovl (k3 x0 x1 x2) 3 ((k.drop 3).take 12)) _ HS2.out.drew.dst tg (by rw [HTg.out]; rfl) (show W4.drew.rangeAt g4 0 (bC tg).toList from range_whole (w := W4) (g := g4) (vs := (bC tg).toList) (by simpa using HG5.out)) (by rw [hl25, HTg.out]; omega) ?_
  have HOv : Hid (ovl (ovl (k3 x0 x1 x2) 3 ((k.drop 3).take 12)) 15 tg = k) := by
    show _ = _
    rw [HN.out]
    conv => rhs; rw [HKK.out]
    unfold ovl k3
    simp [HNm.out, HTg.out]
  have HS3 := Lib.hid (HS2.out.drew.step (ovl (ovl (k3 x0 x1 x2) 3 ((k.drop 3).take 12)) 15 tg))
  rw [HOv.out] at HS3 ⊢
  generalize W4.drew.setRow (w.heap.size + 2) (bC k) = W5 at *
  clear HS1 HS2 hl25 HOv HG4 HG5 HN4 HD HN HKK
  go_wp2_with (first
    | ((with_reducible refine gate_ld 85 _ rfl ?_); refine wl_ldr rfl _ _ rfl (w.heap.size + 2) 0 (bC k).toList _ Try.underlying85 rfl (by rw [siz25]; simp [bC, HK.out]) rfl (range_whole (by simpa using HS3.out.dst)) ?_)
    | ((with_reducible refine gate_st 85 _ _ rfl ?_); refine wl_str rfl 85 _ _ rfl (w.heap.size + 1) (bC k) (bC z25) _ (by rw [siz25, bC_size, HK.out]) (by rw [bC_size, bC_size, HK.out]; rfl) (bC_one _) rfl rfl HS3.out.res ?_))
  refine bodyPost_ret (res_rowc (P := Try.prog) (T := 85) (T' := 85) rfl _ _ (w.heap.size + 1) (bC k) (0, 0) rfl (setRow_at HS3.out.res) Try.underlying85 rfl (by rw [siz25, bC_size, HK.out])) rfl ⟨rfl, setRow_below HS3.out.bel (by omega) _⟩
end Go.Proofs.Ytagdedjclbmlkaa
