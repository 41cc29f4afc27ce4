/- Texts joined: RE. -/
import Derived.Test.YtbfefdedjcppaaaGreatDoorRC
import Derived.Laws.CopyOwn
import Derived.StillTailTactics
import Derived.Lib.SliceRun
import Derived.Lib.SmallJoins
/- Keys' bytes and prefixes'. -/
namespace Go.Proofs.YtbfefdedjcppaaaGreatDoor.Kx
set_option maxRecDepth 100000
set_option maxHeartbeats 8000000
open Go.RowKit
def tag0 : List UInt8 := List.replicate 10 0
theorem siz10A : (Tryz.prog.info? 40).map (·.size) = some 10 := by kernel_rfl
def ovl (c : List UInt8) (o : Nat) (l : List UInt8) : List UInt8 := c.take o ++ l ++ c.drop (o + l.length)
theorem ovl_len {c : List UInt8} {o : Nat} {l : List UInt8} (h : o + l.length ≤ c.length) : (ovl c o l).length = c.length := by
 unfold ovl; simp; omega
theorem range_sub {w : World} {g o : Nat} {b : List UInt8} (h : w.rangeAt g o (bC b).toList) (s n : Nat) : w.rangeAt g (o + s) (bC ((b.drop s).take n)).toList := fun j v hv => by
 have hj : j < ((b.drop s).take n).length := by have := (List.getElem?_eq_some_iff.1 hv).1; simpa [bC] using this
 rw [Nat.add_assoc]
 refine h (s + j) v ?_
 rw [← hv]
 simp only [bC, List.getElem?_map]
 congr 1
 rw [List.length_take, List.length_drop] at hj
 rw [List.getElem?_take_of_lt (by omega), List.getElem?_drop]
section
variable {ops : Array Oper} {rest : List Oper} {o : Oper} {a : Act} {w : World} {Q : Exit → Act → World → Prop}
theorem cp_bytes (hgd : o.guard = none) (d s : Operand) (ho : o.op = .call { callee := .builtin .copy, args := #[d, s], argTypes := #[22, 22] }) (g off dLen dCap b so sLen sCap : Nat)
   (hd : a.eval d = .slice (some ⟨g, off, none⟩) dLen dCap) (hs : a.eval s = .slice (some ⟨b, so, none⟩) sLen sCap) (c : List UInt8) (t : TypeId) (hg : w.heap[g]? = some (.cells (bC c) t (0, 0))) (l : List UInt8) (hn : l.length = Nat.min sLen dLen)
   (hr : w.rangeAt b so (bC l).toList) (hfit : off + l.length ≤ c.length)
   (h : wpList Tryz.prog ops Q rest (a.put o.dst (goInt l.length)) (w.setRow g (bC (ovl c off l)))) : wpList Tryz.prog ops Q (o :: rest) a w := by
 have hl : (bC l).toList.length = l.length := by simp [bC]
 refine wpList_copy_own hgd d s 22 22 ho 5 Tryz.underlying22 (by kernel_rfl) g off dLen dCap ⟨b, so, none⟩ sLen sCap hd hs (bC c) t hg (bC l).toList (by rw [hl, hn]) (fun j v hv => by rw [Addr.add_mid]; exact hr j v hv) (by rw [hl, bC_size]; exact hfit) (fun v hv => by
   obtain ⟨x, _, rfl⟩ := List.mem_map.1 (by simpa [bC] using hv : v ∈ l.map fun b => Value.int .u8 (b.toNat : Int)); rfl) ?_
 rw [hl]
 have e : ((bC c).toList.take off ++ ((bC l).toList ++ (bC c).toList.drop (off + l.length))).toArray = bC (ovl c off l) := by
   simp [bC, ovl, List.map_take, List.map_drop]
 rw [e]; exact h
end
section
variable {ops : Array Oper} {rest : List Oper} {o : Oper} {a : Act} {w : World} {Q : Exit → Act → World → Prop}
theorem st_mid (hgd : o.guard = none) (ty : TypeId) (x y : Operand) (ho : o.op = .store ty x y) (g off : Nat) (c l : List UInt8) (t : TypeId) (hg : w.heap[g]? = some (.cells (bC c) t (0, 0)))
   (hx : a.eval x = .pointer (some ⟨g, off, none⟩)) (hy : a.eval y = .agg (bC l)) (hi : (Tryz.prog.info? ty).map (·.size) = some l.length) (hfit : off + l.length ≤ c.length)
   (h : wpList Tryz.prog ops Q rest (a.put o.dst undef) (w.setRow g (bC (ovl c off l)))) : wpList Tryz.prog ops Q (o :: rest) a w := by
 refine wpList_plain hgd fun K hK => ?_
 have hst := run_storeCells_at Tryz.prog g off t (bC l).toList 0 (bC c) w hg (by rw [bC_size]; simpa [bC] using hfit) (fun v hv => (Array.all_eq_true_iff_forall_mem.1 (bC_one l)) v (by simpa using hv))
 have e : ((bC c).toList.take off ++ (bC l).toList ++ (bC c).toList.drop (off + (bC l).toList.length)).toArray = bC (ovl c off l) := by
   simp [bC, ovl, List.map_take, List.map_drop]
 simp only [Nat.add_zero] at hst
 rw [e] at hst
 unfold Oper.wp execOp
 cases hq : Tryz.prog.info? ty with
 | none => simp [hq] at hi
 | some i =>
   have hs : l.length = i.size := by simp [hq] at hi; omega
   have hs2 : (bC l).size = i.size := by rw [bC_size, hs]
   have hrun : (storeVar ty ⟨g, off, none⟩ (.agg (bC l))).run Tryz.prog w = .ok () (w.setRow g (bC (ovl c off l))) := by
     simp [storeVar, sizeOf, typeInfo, hq, Value.cells, hs2, hst]
   simp only [ho, hx, hy, Instr.storeAt, Instr.sureAddr, Sem.run_bind, Sem.run_pure, Result.andThen_ok, hrun]
   exact hK _ _ h
theorem ld_mid (hgd : o.guard = none) (ty : TypeId) (x : Operand) (ho : o.op = .load ty x) (g off : Nat) (c : List UInt8) (n : Nat) (t : TypeId) (d : TypeDesc) (hu : Tryz.prog.underlying ty = some d) (hd : d.isRow = true) (hg : w.heap[g]? = some (.cells (bC c) t (0, 0)))
   (hx : a.eval x = .pointer (some ⟨g, off, none⟩)) (hi : (Tryz.prog.info? ty).map (·.size) = some n) (hfit : off + n ≤ c.length)
   (h : wpList Tryz.prog ops Q rest (a.put o.dst (.agg (bC ((c.drop off).take n)))) w) : wpList Tryz.prog ops Q (o :: rest) a w := by
 have hr := range_sub (range_whole (w := w) (g := g) (vs := (bC c).toList) (by simpa using hg)) off n
 rw [Nat.zero_add] at hr
 refine wl_ldr (by unfold Region.wanted; rw [hgd]) ty x ho g off (bC ((c.drop off).take n)).toList d hu hd (by rw [hi]; simp [bC]; omega) hx hr (by simpa using h)
end
theorem ovl_three (b : List UInt8) (hb : b.length = 10) : ovl (ovl (ovl tag0 0 (b.take 3)) 3 ((b.drop 3).take 4)) 7 (b.drop 7) = b := by
 obtain ⟨c0, c1, c2, c3, c4, c5, c6, c7, c8, c9, rfl⟩ : ∃ c0 c1 c2 c3 c4 c5 c6 c7 c8 c9, b = [c0, c1, c2, c3, c4, c5, c6, c7, c8, c9] := by
   rcases b with _ | ⟨c0, _ | ⟨c1, _ | ⟨c2, _ | ⟨c3, _ | ⟨c4, _ | ⟨c5, _ | ⟨c6, _ | ⟨c7, _ | ⟨c8, _ | ⟨c9, _ | ⟨c10, n⟩⟩⟩⟩⟩⟩⟩⟩⟩⟩⟩ <;> simp at hb
   exact ⟨c0, c1, c2, c3, c4, c5, c6, c7, c8, c9, rfl⟩
 rfl
structure CpSt (w : World) (b c : List UInt8) (T T' : TypeId) (wx : World) : Prop where
 bel : Below w.heap.size w wx
 src : wx.heap[w.heap.size]? = some (.cells (bC b) T (0, 0))
 res : ∃ r, r.length = 10 ∧ wx.heap[w.heap.size + 1]? = some (.cells (bC r) T' (0, 0))
 dst : wx.heap[w.heap.size + 1 + 1]? = some (.cells (bC c) T' (0, 0))
theorem CpSt.step {w wx : World} {b c c' : List UInt8} {T T' : TypeId} (h : CpSt w b c T T' wx) : CpSt w b c' T T' (wx.setRow (w.heap.size + 1 + 1) (bC c')) := by
 obtain ⟨r, hr, hr2⟩ := h.res
 exact ⟨setRow_below h.bel (by omega) _, by rw [setRow_other _ _ _ _ (by omega)]; exact h.src, ⟨r, hr, by rw [setRow_other _ _ _ _ (by omega)]; exact hr2⟩, setRow_at h.dst⟩
theorem CpSt.start (w : World) (b : List UInt8) (T T' : TypeId) : CpSt w b tag0 T T' (((w.alloc (.cells (bC b) T)).alloc (.cells (bC tag0) T')).alloc (.cells (bC tag0) T')) := by
 refine ⟨(below_alloc2 _ _ _).alloc (by simp; omega) _, ?_, ⟨tag0, rfl, ?_⟩, ?_⟩
 · rw [heap_alloc_old _ _ (by simp; omega)]; exact heap_alloc2_old _ _ _
 · rw [heap_alloc_old _ _ (by simp)]; exact heap_alloc2_new _ _ _
 · have := heap_alloc_new ((w.alloc (.cells (bC b) T)).alloc (.cells (bC tag0) T')) (.cells (bC tag0) T'); simpa using this
theorem CpSt.drew {w wx : World} {b c : List UInt8} {T T' : TypeId} (h : CpSt w b c T T' wx) : CpSt w b c T T' wx.drew := ⟨h.bel.drew, h.src, h.res, h.dst⟩
theorem tagBytes_any (b : List UInt8) (w : World) (hb : b.length = 10) :
   Calls Tryz.prog 113 #[.agg (bC b)] w fun e w' => e = .returned (.agg (bC b)) ∧ Below w.heap.size w w' := by
 have H10 := Lib.hid hb
 have HO := Lib.hid (ovl_three b hb)
 have HS0 : Hid (CpSt w b tag0 28 40 (((w.alloc (.cells (bC b) 28)).alloc (.cells (bC tag0) 40)).alloc (.cells (bC tag0) 40))) := CpSt.start w b _ _
 clear hb
 go_enter Tryz.func113, Tryz.ntmps113
 go_upto_region 2 with fail
 rw [show (Obj.cells #[Value.int .u8 0, .int .u8 0, .int .u8 0, .int .u8 0, .int .u8 0, .int .u8 0, .int .u8 0, .int .u8 0, .int .u8 0, .int .u8 0] 40) = Obj.cells (bC tag0) 40 from rfl]
 generalize (((w.alloc (.cells (bC b) 28)).alloc (.cells (bC tag0) 40)).alloc (.cells (bC tag0) 40)) = W1 at *
 go_still_tail 3, (by kernel_rfl)
 refine cp_bytes (w := W1.drew) rfl (.tmp 4) (.tmp 6) rfl (w.heap.size + 1 + 1) 0 3 10 w.heap.size 0 3 3 rfl rfl tag0 _ HS0.out.drew.dst (b.take 3) (by simp [H10.out]) (by have := range_sub (range_whole (w := W1.drew) (g := w.heap.size) (vs := (bC b).toList) (by simpa using HS0.out.drew.src)) 0 3; simpa using this) (by simp [ovl, tag0, H10.out]) ?_
 have HS1 := Lib.hid (CpSt.step (c' := ovl tag0 0 (b.take 3)) HS0.out.drew)
 generalize W1.drew.setRow (w.heap.size + 1 + 1) (bC (ovl tag0 0 (b.take 3))) = W2 at *
 go_wp2_with fail
 go_still_tail 3, (by kernel_rfl)
 refine cp_bytes (w := W2.drew) rfl (.tmp 8) (.tmp 10) rfl (w.heap.size + 1 + 1) 3 4 7 w.heap.size 3 4 4 rfl rfl (ovl tag0 0 (b.take 3)) _ HS1.out.drew.dst ((b.drop 3).take 4) (by simp [H10.out]) (by have := range_sub (range_whole (w := W2.drew) (g := w.heap.size) (vs := (bC b).toList) (by simpa using HS1.out.drew.src)) 3 4; simpa using this) (by simp [ovl, tag0, H10.out]) ?_
 have HS2 := Lib.hid (CpSt.step (c' := ovl (ovl tag0 0 (b.take 3)) 3 ((b.drop 3).take 4)) HS1.out.drew)
 generalize W2.drew.setRow (w.heap.size + 1 + 1) (bC (ovl (ovl tag0 0 (b.take 3)) 3 ((b.drop 3).take 4))) = W3 at *
 go_wp2_with fail
 go_still_tail 3, (by kernel_rfl)
 refine cp_bytes (w := W3.drew) rfl (.tmp 12) (.tmp 14) rfl (w.heap.size + 1 + 1) 7 3 3 w.heap.size 7 3 3 rfl rfl (ovl (ovl tag0 0 (b.take 3)) 3 ((b.drop 3).take 4)) _ HS2.out.drew.dst ((b.drop 7).take 3) (by simp [H10.out]) (by have := range_sub (range_whole (w := W3.drew) (g := w.heap.size) (vs := (bC b).toList) (by simpa using HS2.out.drew.src)) 7 3; simpa using this) (by simp [ovl, tag0, H10.out]) ?_
 have HS3 := Lib.hid (CpSt.step (c' := ovl (ovl (ovl tag0 0 (b.take 3)) 3 ((b.drop 3).take 4)) 7 ((b.drop 7).take 3)) HS2.out.drew)
 generalize W3.drew.setRow (w.heap.size + 1 + 1) (bC (ovl (ovl (ovl tag0 0 (b.take 3)) 3 ((b.drop 3).take 4)) 7 ((b.drop 7).take 3))) = W4 at *
 have e7 : (b.drop 7).take 3 = b.drop 7 := List.take_of_length_le (by simp [H10.out])
 rw [e7, HO.out] at HS3
 clear HS0 HS1 HS2 HO e7
 obtain ⟨r, hr, hr2⟩ := HS3.out.res
 have HR2 := Lib.hid hr2
 have HR := Lib.hid hr
 clear hr hr2
 go_wp2_with (first
   | ((with_reducible refine gate_ld 40 _ rfl ?_); refine wl_ldr rfl _ _ rfl (w.heap.size + 1 + 1) 0 (bC b).toList _ Tryz.underlying40 rfl (by rw [siz10A]; simp [bC, H10.out]) rfl (range_whole (by simpa using HS3.out.dst)) ?_)
   | ((with_reducible refine gate_st 40 _ _ rfl ?_); refine wl_str rfl 40 _ _ rfl (w.heap.size + 1) (bC b) (bC r) _ (by rw [siz10A, bC_size, H10.out]) (by rw [bC_size, bC_size, H10.out, HR.out]) (bC_one _) rfl rfl HR2.out ?_))
 refine bodyPost_ret (res_rowc (P := Tryz.prog) (T := 40) (T' := 40) rfl _ _ (w.heap.size + 1) (bC b) (0, 0) rfl (setRow_at HR2.out) Tryz.underlying40 rfl (by rw [siz10A, bC_size, H10.out])) rfl ⟨rfl, setRow_below HS3.out.bel (by omega) _⟩
theorem bt {w W W' : World} (h : Hid (Below w.heap.size w W)) (hb : Below W.heap.size W W') : Hid (Below w.heap.size w W') := h.out.trans (hb.mono h.out.size)
def k3 (a b c : UInt8) : List UInt8 := a :: b :: c :: List.replicate 22 0
theorem k3_len (a b c : UInt8) : (k3 a b c).length = 25 := rfl
def z25 : List UInt8 := List.replicate 25 0
theorem sizKey : (Tryz.prog.info? 32).map (·.size) = some 25 := by kernel_rfl
theorem siz25 : (Tryz.prog.info? 108).map (·.size) = some 25 := by kernel_rfl
theorem sizTag : (Tryz.prog.info? 28).map (·.size) = some 10 := by kernel_rfl
structure KSt (w : World) (k c : List UInt8) (wx : World) : Prop where
 bel : Below w.heap.size w wx
 src : wx.heap[w.heap.size]? = some (.cells (bC k) 32 (0, 0))
 res : wx.heap[w.heap.size + 1]? = some (.cells (bC z25) 108 (0, 0))
 dst : wx.heap[w.heap.size + 2]? = some (.cells (bC c) 108 (0, 0))
theorem KSt.step {w wx : World} {k c : List UInt8} (h : KSt w k c wx) (c' : List UInt8) : KSt w k c' (wx.setRow (w.heap.size + 2) (bC c')) :=
 ⟨setRow_below h.bel (by omega) _, by rw [setRow_other _ _ _ _ (by omega)]; exact h.src, by rw [setRow_other _ _ _ _ (by omega)]; exact h.res, setRow_at h.dst⟩
theorem KSt.drew {w wx : World} {k c : List UInt8} (h : KSt w k c wx) : KSt w k c wx.drew := ⟨h.bel.drew, h.src, h.res, h.dst⟩
theorem KSt.below {w wx wy : World} {k c : List UInt8} (h : KSt w k c wx) (hb : Below wx.heap.size wx wy) : KSt w k c wy :=
 ⟨h.bel.trans (hb.mono h.bel.size), (hb.block _ (lt_heap h.src)).trans h.src, (hb.block _ (lt_heap h.res)).trans h.res, (hb.block _ (lt_heap h.dst)).trans h.dst⟩
theorem key_parts (k : List UInt8) (hk : k.length = 25) : ∃ a b c nm tg, k = a :: b :: c :: (nm ++ tg) ∧ nm.length = 12 ∧ tg.length = 10 := by
 match k, hk with
 | a :: b :: c :: r, hk => exact ⟨a, b, c, r.take 12, r.drop 12, by rw [List.take_append_drop], by simp at hk ⊢; omega, by simp at hk ⊢; omega⟩
theorem keyBytes_any (k : List UInt8) (w : World) (hk : k.length = 25) :
   Calls Tryz.prog 62 #[.agg (bC k)] w fun e w' => e = .returned (.agg (bC k)) ∧ Below w.heap.size w w' := by
 have HK := Lib.hid hk
 obtain ⟨x0, x1, x2, nm, tg, hkk, hnm, htg⟩ := key_parts k hk
 have HKK := Lib.hid hkk
 have HNm := Lib.hid hnm
 have HTg := Lib.hid htg
 have HD : Hid ((k.drop 15).take 10 = tg) := by
   show _ = _
   rw [hkk]
   show ((nm ++ tg).drop 12).take 10 = tg
   rw [List.drop_left' hnm, List.take_of_length_le (by omega)]
 have HN : Hid ((k.drop 3).take 12 = nm) := by
   show _ = _
   rw [hkk]
   show (nm ++ tg).take 12 = nm
   rw [List.take_left' hnm]
 have h0 : (w.alloc (.cells (bC k) 32)).heap[w.heap.size]? = some (.cells (bC k) 32 (0, 0)) := heap_alloc_new _ _
 have hbt : Tryz.prog.built 108 [(0, .int .u8 (x0.toNat : Int)), (1, .int .u8 (x1.toNat : Int)), (2, .int .u8 (x2.toNat : Int))] = some (bC (k3 x0 x1 x2)) := rfl
 have HS0 : Hid (KSt w k (k3 x0 x1 x2) (((w.alloc (.cells (bC k) 32)).alloc (.cells (bC z25) 108)).alloc (.cells (bC (k3 x0 x1 x2)) 108))) := by
   refine ⟨(below_alloc2 _ _ _).alloc (by simp; omega) _, ?_, ?_, ?_⟩
   · rw [heap_alloc_old _ _ (by simp; omega)]; exact heap_alloc2_old _ _ _
   · rw [heap_alloc_old _ _ (by simp)]; exact heap_alloc2_new _ _ _
   · have := heap_alloc_new ((w.alloc (.cells (bC k) 32)).alloc (.cells (bC z25) 108)) (.cells (bC (k3 x0 x1 x2)) 108); simpa using this
 have hg0 : ∀ (W : World), W.heap[w.heap.size]? = some (.cells (bC k) 32 (0, 0)) → W.cell? ⟨w.heap.size, 0, none⟩ = some (.int .u8 (x0.toNat : Int)) ∧ W.cell? ⟨w.heap.size, 1, none⟩ = some (.int .u8 (x1.toNat : Int)) ∧ W.cell? ⟨w.heap.size, 2, none⟩ = some (.int .u8 (x2.toNat : Int)) := fun W h => by
   rw [cell_blk h, cell_blk h, cell_blk h, hkk]; exact ⟨rfl, rfl, rfl⟩
 have hz : ((w.alloc (.cells (bC k) 32)).alloc (.cells #[Value.int .u8 0, .int .u8 0, .int .u8 0, .int .u8 0, .int .u8 0, .int .u8 0, .int .u8 0, .int .u8 0, .int .u8 0, .int .u8 0, .int .u8 0, .int .u8 0, .int .u8 0, .int .u8 0, .int .u8 0, .int .u8 0, .int .u8 0, .int .u8 0, .int .u8 0, .int .u8 0, .int .u8 0, .int .u8 0, .int .u8 0, .int .u8 0, .int .u8 0] 108)).heap[w.heap.size]? = some (.cells (bC k) 32 (0, 0)) := heap_alloc2_old _ _ _
 have hc0 := (hg0 _ hz).1
 have hc1 := (hg0 _ hz).2.1
 have hc2 := (hg0 _ hz).2.2
 have KT : Hid (∀ W, Calls Tryz.prog 113 #[.agg (bC tg)] W fun e w' => e = .returned (.agg (bC tg)) ∧ Below W.heap.size W w') := fun W => tagBytes_any tg W htg
 clear hk hkk hnm htg h0 hg0 hz
 go_enter Tryz.func62, Tryz.ntmps62
 go_upto_region 2 with (first | ((with_reducible refine gate_bd 108 _ rfl ?_); refine wl_bd rfl _ [(0, .tmp 6), (1, .tmp 8), (2, .tmp 10)] rfl [(0, .int .u8 (x0.toNat : Int)), (1, .int .u8 (x1.toNat : Int)), (2, .int .u8 (x2.toNat : Int))] rfl (bC (k3 x0 x1 x2)) hbt ?_) | ((with_reducible refine gate_st 108 _ _ rfl ?_); refine wl_strn rfl _ _ _ rfl (bC (k3 x0 x1 x2)) #[Value.int IntKind.u8 0, Value.int IntKind.u8 0, Value.int IntKind.u8 0, Value.int IntKind.u8 0, Value.int IntKind.u8 0, Value.int IntKind.u8 0, Value.int IntKind.u8 0, Value.int IntKind.u8 0, Value.int IntKind.u8 0, Value.int IntKind.u8 0, Value.int IntKind.u8 0, Value.int IntKind.u8 0, Value.int IntKind.u8 0, Value.int IntKind.u8 0, Value.int IntKind.u8 0, Value.int IntKind.u8 0, Value.int IntKind.u8 0, Value.int IntKind.u8 0, Value.int IntKind.u8 0, Value.int IntKind.u8 0, Value.int IntKind.u8 0, Value.int IntKind.u8 0, Value.int IntKind.u8 0, Value.int IntKind.u8 0, Value.int IntKind.u8 0] _ (by rw [siz25, bC_size, k3_len]) rfl (bC_one _) (by simp [Act.eval]) rfl ?_))
 rw [show (Obj.cells #[Value.int .u8 0, .int .u8 0, .int .u8 0, .int .u8 0, .int .u8 0, .int .u8 0, .int .u8 0, .int .u8 0, .int .u8 0, .int .u8 0, .int .u8 0, .int .u8 0, .int .u8 0, .int .u8 0, .int .u8 0, .int .u8 0, .int .u8 0, .int .u8 0, .int .u8 0, .int .u8 0, .int .u8 0, .int .u8 0, .int .u8 0, .int .u8 0, .int .u8 0] 108) = Obj.cells (bC z25) 108 from by simp [bC, z25, List.replicate]]
 simp only [Nat.add_assoc, Nat.reduceAdd]
 clear hc0 hc1 hc2
 generalize (((w.alloc (.cells (bC k) 32)).alloc (.cells (bC z25) 108)).alloc (.cells (bC (k3 x0 x1 x2)) 108)) = W1 at *
 go_upto_region 3 with (first
   | ((with_reducible refine gate_ld 28 _ rfl ?_); refine ld_mid rfl 28 _ rfl w.heap.size 15 k 10 _ _ Tryz.underlying28 rfl HS0.out.src rfl sizTag (by rw [HK.out]; omega) ?_; rw [HD.out])
   | (go_at_call 113; (refine (KT.out _).mono ?_); rintro e W2 ⟨rfl, hb2⟩; have HSz2 : Hid (w.heap.size + 2 < W2.heap.size) := Nat.lt_of_lt_of_le (lt_heap HS0.out.dst) hb2.size; have HS1 := Lib.hid ((HS0.out.below hb2).below (below_alloc1 W2 (.cells (bC tg) 40))); have HG4 : Hid ((W2.alloc (.cells (bC tg) 40)).heap[W2.heap.size]? = some (.cells (bC tg) 40 (0, 0))) := heap_alloc_new _ _; clear hb2)
   | ((with_reducible refine gate_st 40 _ _ rfl ?_); refine wl_strn rfl _ _ _ rfl (bC tg) #[Value.int IntKind.u8 0, Value.int IntKind.u8 0, Value.int IntKind.u8 0, Value.int IntKind.u8 0, Value.int IntKind.u8 0, Value.int IntKind.u8 0, Value.int IntKind.u8 0, Value.int IntKind.u8 0, Value.int IntKind.u8 0, Value.int IntKind.u8 0] _ (by rw [siz10A, bC_size, HTg.out]) (by rw [bC_size, HTg.out]; rfl) (bC_one _) rfl rfl ?_))
 have HN4 : Hid (w.heap.size + 2 < W2.heap.size ∧ W2.heap.size < (W2.alloc (.cells (bC tg) 40)).heap.size) := ⟨HSz2.out, by simp⟩
 generalize W2.alloc (.cells (bC tg) 40) = W3 at *
 generalize W2.heap.size = g4 at *
 clear HS0 HSz2 KT
 go_still_tail 3, (by kernel_rfl)
 refine cp_bytes (w := W3.drew) rfl (.tmp 15) (.tmp 17) rfl (w.heap.size + 2) 3 12 22 w.heap.size 3 12 12 rfl rfl (k3 x0 x1 x2) _ HS1.out.drew.dst ((k.drop 3).take 12) (by rw [HN.out, HNm.out]; rfl) (by have := range_sub (range_whole (w := W3.drew) (g := w.heap.size) (vs := (bC k).toList) (by simpa using HS1.out.drew.src)) 3 12; simpa using this) (by rw [HN.out, HNm.out, k3_len]; omega) ?_
 have HS2 := Lib.hid (HS1.out.drew.step (ovl (k3 x0 x1 x2) 3 ((k.drop 3).take 12)))
 have HG5 : Hid ((W3.drew.setRow (w.heap.size + 2) (bC (ovl (k3 x0 x1 x2) 3 ((k.drop 3).take 12)))).heap[g4]? = some (.cells (bC tg) 40 (0, 0))) := by show _ = _; rw [setRow_other _ _ _ _ (by have := HN4.out.1; omega)]; exact HG4.out
 generalize W3.drew.setRow (w.heap.size + 2) (bC (ovl (k3 x0 x1 x2) 3 ((k.drop 3).take 12))) = W4 at *
 go_wp2_with fail
 go_still_tail 2, (by kernel_rfl)
 have hl25 : (ovl (k3 x0 x1 x2) 3 ((k.drop 3).take 12)).length = 25 := by rw [ovl_len (by rw [HN.out, HNm.out, k3_len]; omega), k3_len]
 refine cp_bytes (w := W4.drew) rfl (.tmp 19) (.tmp 20) rfl (w.heap.size + 2) 15 10 10 g4 0 10 10 rfl rfl (ovl (k3 x0 x1 x2) 3 ((k.drop 3).take 12)) _ HS2.out.drew.dst tg (by rw [HTg.out]; rfl) (show W4.drew.rangeAt g4 0 (bC tg).toList from range_whole (w := W4) (g := g4) (vs := (bC tg).toList) (by simpa using HG5.out)) (by rw [hl25, HTg.out]; omega) ?_
 have HOv : Hid (ovl (ovl (k3 x0 x1 x2) 3 ((k.drop 3).take 12)) 15 tg = k) := by
   show _ = _
   rw [HN.out]
   conv => rhs; rw [HKK.out]
   unfold ovl k3
   simp [HNm.out, HTg.out]
 have HS3 := Lib.hid (HS2.out.drew.step (ovl (ovl (k3 x0 x1 x2) 3 ((k.drop 3).take 12)) 15 tg))
 rw [HOv.out] at HS3 ⊢
 generalize W4.drew.setRow (w.heap.size + 2) (bC k) = W5 at *
 clear HS1 HS2 hl25 HOv HG4 HG5 HN4 HD HN HKK
 go_wp2_with (first
   | ((with_reducible refine gate_ld 108 _ rfl ?_); refine wl_ldr rfl _ _ rfl (w.heap.size + 2) 0 (bC k).toList _ Tryz.underlying108 rfl (by rw [siz25]; simp [bC, HK.out]) rfl (range_whole (by simpa using HS3.out.dst)) ?_)
   | ((with_reducible refine gate_st 108 _ _ rfl ?_); refine wl_str rfl 108 _ _ rfl (w.heap.size + 1) (bC k) (bC z25) _ (by rw [siz25, bC_size, HK.out]) (by rw [bC_size, bC_size, HK.out]; rfl) (bC_one _) rfl rfl HS3.out.res ?_))
 refine bodyPost_ret (res_rowc (P := Tryz.prog) (T := 108) (T' := 108) rfl _ _ (w.heap.size + 1) (bC k) (0, 0) rfl (setRow_at HS3.out.res) Tryz.underlying108 rfl (by rw [siz25, bC_size, HK.out])) rfl ⟨rfl, setRow_below HS3.out.bel (by omega) _⟩
def pC (k : List UInt8) (d : Int) : List Value := (bC k).toList ++ [.int .i64 d]
theorem pC_len {k : List UInt8} (hk : k.length = 25) (d : Int) : (pC k d).length = 26 := by simp [pC, bC, hk]
theorem sizPre : (Tryz.prog.info? 34).map (·.size) = some 26 := by kernel_rfl
theorem sizName : (Tryz.prog.info? 24).map (·.size) = some 12 := by kernel_rfl
theorem pC_d {k : List UInt8} (hk : k.length = 25) (d : Int) : (pC k d).toArray[25]? = some (.int .i64 d) := by
 simp [pC, bC, hk]
theorem pC_k {k : List UInt8} (d : Int) (i : Nat) (hi : i < k.length) : (pC k d).toArray[i]? = some (.int .u8 (k[i].toNat : Int)) := by
 have : i < (bC k).toList.length := by simpa [bC] using hi
 simp only [pC, List.getElem?_toArray]
 rw [List.getElem?_append_left this]
 simpa using bC_get k i hi
theorem pC_sub {W : World} {g : Nat} {k : List UInt8} {d : Int} {T : TypeId} (h : W.heap[g]? = some (.cells (pC k d).toArray T (0, 0))) (s n : Nat) : W.rangeAt g s (bC ((k.drop s).take n)).toList := by
 have := range_sub (range_app_left (range_whole h)) s n
 rwa [Nat.zero_add] at this
def depOk (d : Int) : Bool := decide (0 ≤ d ∧ d ≤ 5)
theorem right_any (k : List UInt8) (d : Int) (w : World) (hk : k.length = 25) :
   Calls Tryz.prog 90 #[.agg (pC k d).toArray] w fun e w' => e = .returned (.bool (depOk d)) ∧ Below w.heap.size w w' := by
 have hc : (w.alloc (.cells (pC k d).toArray 34)).cell? ⟨w.heap.size, 25, none⟩ = some (.int .i64 d) := by rw [cell_blk (heap_alloc_new _ _), pC_d hk]
 have HB := Lib.hid (below_alloc1 w (.cells (pC k d).toArray 34))
 by_cases h0 : 0 ≤ d
 · by_cases h5 : d ≤ 5
   · have HE : Hid (depOk d = true) := decide_eq_true ⟨h0, h5⟩
     go_enter Tryz.func90, Tryz.ntmps90
     go_wp2_with fail
     go_ret
     exact ⟨ret_bool HE.out.symm, HB.out⟩
   · have HE : Hid (depOk d = false) := decide_eq_false (fun h => h5 h.2)
     go_enter Tryz.func90, Tryz.ntmps90
     go_wp2_with fail
     go_ret
     exact ⟨ret_bool HE.out.symm, HB.out⟩
 · have HE : Hid (depOk d = false) := decide_eq_false (fun h => h0 h.1)
   go_enter Tryz.func90, Tryz.ntmps90
   go_wp2_with fail
   go_ret
   exact ⟨ret_bool HE.out.symm, HB.out⟩
def cutN (d : Int) : Nat := if d < 1 then 0 else if d = 1 then 1 else if d = 2 then 2 else if d = 3 then 3 else if d = 4 then 15 else 25
def cutK (k : List UInt8) (d : Int) : List UInt8 := k.take (cutN d) ++ List.replicate (25 - cutN d) 0
theorem cutN_le (d : Int) : cutN d ≤ 25 := by unfold cutN; repeat' split
                                              all_goals omega
theorem cutK_len {k : List UInt8} (hk : k.length = 25) (d : Int) : (cutK k d).length = 25 := by
 have := cutN_le d
 unfold cutK; simp [hk]; omega
def k1 (a : UInt8) : List UInt8 := a :: List.replicate 24 0
theorem k1_len (a : UInt8) : (k1 a).length = 25 := rfl
theorem builtK1 (a : UInt8) : Tryz.prog.built 32 [(0, .int .u8 (a.toNat : Int))] = some (bC (k1 a)) := by kernel_rfl
structure CSt (w : World) (k : List UInt8) (d : Int) (c : List UInt8) (wx : World) : Prop where
 bel : Below w.heap.size w wx
 src : wx.heap[w.heap.size]? = some (.cells (pC k d).toArray 34 (0, 0))
 res : wx.heap[w.heap.size + 1]? = some (.cells (bC z25) 32 (0, 0))
 dst : wx.heap[w.heap.size + 2]? = some (.cells (bC c) 32 (0, 0))
 len : c.length = 25
theorem CSt.row {w wx : World} {k c : List UInt8} {d : Int} (h : CSt w k d c wx) (o : Nat) (l : List UInt8) (hl : o + l.length ≤ 25) : CSt w k d (ovl c o l) (wx.setRow (w.heap.size + 2) (bC (ovl c o l))) :=
 ⟨setRow_below h.bel (by omega) _, by rw [setRow_other _ _ _ _ (by omega)]; exact h.src, by rw [setRow_other _ _ _ _ (by omega)]; exact h.res, setRow_at h.dst, by rw [ovl_len (by rw [h.len]; exact hl), h.len]⟩
theorem CSt.cell {w wx : World} {k c : List UInt8} {d : Int} (h : CSt w k d c wx) (i : Nat) (b : UInt8) : CSt w k d (c.set i b) (wx.setCell ⟨w.heap.size + 2, i, none⟩ (.int .u8 (b.toNat : Int))) :=
 ⟨h.bel.setCell (p := ⟨w.heap.size + 2, i, none⟩) (by show w.heap.size ≤ w.heap.size + 2; omega) _, (heap_setCell_other _ (by omega)).trans h.src, (heap_setCell_other _ (by omega)).trans h.res, by rw [heap_setCell_self _ h.dst, bC_set], by rw [List.length_set]; exact h.len⟩
theorem CSt.at_ {w wx : World} {k c : List UInt8} {d : Int} (h : CSt w k d c wx) (i : Nat) (hi : i < 25) : (∃ b : UInt8, wx.cell? ⟨w.heap.size + 2, i, none⟩ = some (.int .u8 (b.toNat : Int))) ∧ wx.frozen? ⟨w.heap.size + 2, i, none⟩ = false :=
 ⟨⟨c[i]'(by rw [h.len]; exact hi), by rw [cell_blk h.dst, bC_get c i (by rw [h.len]; exact hi)]⟩, by simp [World.frozen?, h.dst]⟩
theorem CSt.dep {w wx : World} {k c : List UInt8} {d : Int} (h : CSt w k d c wx) (hk : k.length = 25) : wx.cell? ⟨w.heap.size, 25, none⟩ = some (.int .i64 d) := by rw [cell_blk h.src, pC_d hk]
theorem CSt.key {w wx : World} {k c : List UInt8} {d : Int} (h : CSt w k d c wx) (i : Nat) (hi : i < k.length) : wx.cell? ⟨w.heap.size, i, none⟩ = some (.int .u8 (k[i].toNat : Int)) := by rw [cell_blk h.src, pC_k d i hi]
theorem cut_any (k : List UInt8) (d : Int) (w : World) (hk : k.length = 25) :
   Calls Tryz.prog 91 #[.agg (pC k d).toArray] w fun e w' => e = .returned (.agg (bC (cutK k d))) ∧ Below w.heap.size w w' := by
 have HK := Lib.hid hk
 obtain ⟨x0, x1, x2, nm, tg, hkk, hnm, htg⟩ := key_parts k hk
 have HNm := Lib.hid hnm
 have HTg := Lib.hid htg
 have HD : Hid ((k.drop 15).take 10 = tg) := by
   show _ = _
   rw [hkk]
   show ((nm ++ tg).drop 12).take 10 = tg
   rw [List.drop_left' hnm, List.take_of_length_le (by omega)]
 have HN : Hid ((k.drop 3).take 12 = nm) := by
   show _ = _
   rw [hkk]
   show (nm ++ tg).take 12 = nm
   rw [List.take_left' hnm]
 have HKK := Lib.hid hkk
 have hz : ((w.alloc (.cells (pC k d).toArray 34)).alloc (.cells #[Value.int .u8 0, .int .u8 0, .int .u8 0, .int .u8 0, .int .u8 0, .int .u8 0, .int .u8 0, .int .u8 0, .int .u8 0, .int .u8 0, .int .u8 0, .int .u8 0, .int .u8 0, .int .u8 0, .int .u8 0, .int .u8 0, .int .u8 0, .int .u8 0, .int .u8 0, .int .u8 0, .int .u8 0, .int .u8 0, .int .u8 0, .int .u8 0, .int .u8 0] 32)).heap[w.heap.size]? = some (.cells (pC k d).toArray 34 (0, 0)) := heap_alloc2_old _ _ _
 have hc0 : ((w.alloc (.cells (pC k d).toArray 34)).alloc (.cells #[Value.int .u8 0, .int .u8 0, .int .u8 0, .int .u8 0, .int .u8 0, .int .u8 0, .int .u8 0, .int .u8 0, .int .u8 0, .int .u8 0, .int .u8 0, .int .u8 0, .int .u8 0, .int .u8 0, .int .u8 0, .int .u8 0, .int .u8 0, .int .u8 0, .int .u8 0, .int .u8 0, .int .u8 0, .int .u8 0, .int .u8 0, .int .u8 0, .int .u8 0] 32)).cell? ⟨w.heap.size, 0, none⟩ = some (.int .u8 (x0.toNat : Int)) := by rw [cell_blk hz, pC_k d 0 (by omega)]; simp [hkk]
 have hbt := builtK1 x0
 have HS0 : Hid (CSt w k d (k1 x0) (((w.alloc (.cells (pC k d).toArray 34)).alloc (.cells (bC z25) 32)).alloc (.cells (bC (k1 x0)) 32))) := by
   refine ⟨(below_alloc2 _ _ _).alloc (by simp; omega) _, ?_, ?_, ?_, rfl⟩
   · rw [heap_alloc_old _ _ (by simp; omega)]; exact heap_alloc2_old _ _ _
   · rw [heap_alloc_old _ _ (by simp)]; exact heap_alloc2_new _ _ _
   · have := heap_alloc_new ((w.alloc (.cells (pC k d).toArray 34)).alloc (.cells (bC z25) 32)) (.cells (bC (k1 x0)) 32); simpa using this
 clear hk hkk hnm htg hz
 go_enter Tryz.func91, Tryz.ntmps91
 go_upto_region 2 with (first | ((with_reducible refine gate_bd 32 _ rfl ?_); refine wl_bd rfl _ [(0, .tmp 6)] rfl [(0, .int .u8 (x0.toNat : Int))] rfl (bC (k1 x0)) hbt ?_) | ((with_reducible refine gate_st 32 _ _ rfl ?_); refine wl_strn rfl _ _ _ rfl (bC (k1 x0)) #[Value.int IntKind.u8 0, Value.int IntKind.u8 0, Value.int IntKind.u8 0, Value.int IntKind.u8 0, Value.int IntKind.u8 0, Value.int IntKind.u8 0, Value.int IntKind.u8 0, Value.int IntKind.u8 0, Value.int IntKind.u8 0, Value.int IntKind.u8 0, Value.int IntKind.u8 0, Value.int IntKind.u8 0, Value.int IntKind.u8 0, Value.int IntKind.u8 0, Value.int IntKind.u8 0, Value.int IntKind.u8 0, Value.int IntKind.u8 0, Value.int IntKind.u8 0, Value.int IntKind.u8 0, Value.int IntKind.u8 0, Value.int IntKind.u8 0, Value.int IntKind.u8 0, Value.int IntKind.u8 0, Value.int IntKind.u8 0, Value.int IntKind.u8 0] _ (by rw [sizKey, bC_size, k1_len]) rfl (bC_one _) (by simp [Act.eval]) rfl ?_))
 rw [show (Obj.cells #[Value.int .u8 0, .int .u8 0, .int .u8 0, .int .u8 0, .int .u8 0, .int .u8 0, .int .u8 0, .int .u8 0, .int .u8 0, .int .u8 0, .int .u8 0, .int .u8 0, .int .u8 0, .int .u8 0, .int .u8 0, .int .u8 0, .int .u8 0, .int .u8 0, .int .u8 0, .int .u8 0, .int .u8 0, .int .u8 0, .int .u8 0, .int .u8 0, .int .u8 0] 32) = Obj.cells (bC z25) 32 from by simp [bC, z25, List.replicate]]
 simp only [Nat.add_assoc, Nat.reduceAdd]
 clear hc0 hbt
 generalize (((w.alloc (.cells (pC k d).toArray 34)).alloc (.cells (bC z25) 32)).alloc (.cells (bC (k1 x0)) 32)) = W0 at *
 rcases (show d < 1 ∨ d = 1 ∨ d = 2 ∨ d = 3 ∨ d = 4 ∨ 4 < d by omega) with hd | hd | hd | hd | hd | hd
 · have HCN : Hid (cutN d = 0) := by show _ = _; unfold cutN; rw [if_pos hd]
   have t1 : ¬ (1 : Int) < d := by omega
   have t2 : ¬ (2 : Int) < d := by omega
   have t3 : ¬ (3 : Int) < d := by omega
   have t4 : ¬ (4 : Int) < d := by omega
   have t0 : d < 1 := by omega
   have hdp := HS0.out.dep HK.out
   obtain ⟨⟨b0, hb0⟩, hf0⟩ := HS0.out.at_ 0 (by omega)
   have HS1 : Hid (CSt w k d ((k1 x0).set 0 0) (W0.setCell ⟨w.heap.size + 2, 0, none⟩ (.int .u8 0))) := HS0.out.cell 0 0
   have HC : Hid (((k1 x0).set 0 0) = cutK k d) := by
     show _ = _
     unfold cutK; rw [HCN.out]; conv => rhs; rw [HKK.out]
     simp [k1]
   rw [HC.out] at HS1
   go_upto_region 12 with fail
   generalize W0.setCell ⟨w.heap.size + 2, 0, none⟩ (.int .u8 0) = W1 at *
   go_wp2_with (first | ((with_reducible refine gate_ld 32 _ rfl ?_); refine wl_ldr rfl 32 _ rfl (w.heap.size + 2) 0 (bC (cutK k d)).toList _ Tryz.underlying32 rfl (by rw [sizKey]; simp [bC, HS1.out.len]) rfl (range_whole (by simpa using HS1.out.dst)) ?_) | ((with_reducible refine gate_st 32 _ _ rfl ?_); refine wl_str rfl 32 _ _ rfl (w.heap.size + 1) (bC (cutK k d)) (bC z25) _ (by rw [sizKey, bC_size, HS1.out.len]) (by rw [bC_size, bC_size, HS1.out.len]; rfl) (bC_one _) rfl rfl HS1.out.res ?_))
   refine bodyPost_ret (res_rowc (P := Tryz.prog) (T := 32) (T' := 32) rfl _ _ (w.heap.size + 1) (bC (cutK k d)) (0, 0) rfl (setRow_at HS1.out.res) Tryz.underlying32 rfl (by rw [sizKey, bC_size, HS1.out.len])) rfl ⟨rfl, setRow_below HS1.out.bel (by omega) _⟩
 · have HCN : Hid (cutN d = 1) := by show _ = _; unfold cutN; subst hd; rfl
   have t1 : ¬ (1 : Int) < d := by omega
   have t2 : ¬ (2 : Int) < d := by omega
   have t3 : ¬ (3 : Int) < d := by omega
   have t4 : ¬ (4 : Int) < d := by omega
   have t0 : ¬ d < 1 := by omega
   have hdp := HS0.out.dep HK.out
   clear hd
   have HC : Hid ((k1 x0) = cutK k d) := by
     show _ = _
     unfold cutK; rw [HCN.out]; conv => rhs; rw [HKK.out]
     simp [k1]
   rw [HC.out] at HS0
   go_wp2_with (first | ((with_reducible refine gate_ld 32 _ rfl ?_); refine wl_ldr rfl 32 _ rfl (w.heap.size + 2) 0 (bC (cutK k d)).toList _ Tryz.underlying32 rfl (by rw [sizKey]; simp [bC, HS0.out.len]) rfl (range_whole (by simpa using HS0.out.dst)) ?_) | ((with_reducible refine gate_st 32 _ _ rfl ?_); refine wl_str rfl 32 _ _ rfl (w.heap.size + 1) (bC (cutK k d)) (bC z25) _ (by rw [sizKey, bC_size, HS0.out.len]) (by rw [bC_size, bC_size, HS0.out.len]; rfl) (bC_one _) rfl rfl HS0.out.res ?_))
   refine bodyPost_ret (res_rowc (P := Tryz.prog) (T := 32) (T' := 32) rfl _ _ (w.heap.size + 1) (bC (cutK k d)) (0, 0) rfl (setRow_at HS0.out.res) Tryz.underlying32 rfl (by rw [sizKey, bC_size, HS0.out.len])) rfl ⟨rfl, setRow_below HS0.out.bel (by omega) _⟩
 · have HCN : Hid (cutN d = 2) := by show _ = _; unfold cutN; subst hd; rfl
   have t1 : (1 : Int) < d := by omega
   have t2 : ¬ (2 : Int) < d := by omega
   have t3 : ¬ (3 : Int) < d := by omega
   have t4 : ¬ (4 : Int) < d := by omega
   have t0 : ¬ d < 1 := by omega
   have hdp := HS0.out.dep HK.out
   clear hd
   obtain ⟨⟨b1, hb1⟩, hf1⟩ := HS0.out.at_ 1 (by omega)
   have hk1 : W0.cell? ⟨w.heap.size, 1, none⟩ = some (.int .u8 (x1.toNat : Int)) := by have := HS0.out.key 1 (by rw [HK.out]; omega); simpa [HKK.out] using this
   have HS1 : Hid (CSt w k d ((k1 x0).set 1 x1) (W0.setCell ⟨w.heap.size + 2, 1, none⟩ (.int .u8 (x1.toNat : Int)))) := HS0.out.cell 1 x1
   go_upto_region 6 with fail
   clear hdp hb1 hf1 hk1
   generalize W0.setCell ⟨w.heap.size + 2, 1, none⟩ (.int .u8 (x1.toNat : Int)) = W1 at *
   have hdp := HS1.out.dep HK.out
   have HC : Hid (((k1 x0).set 1 x1) = cutK k d) := by
     show _ = _
     unfold cutK; rw [HCN.out]; conv => rhs; rw [HKK.out]
     simp [k1]
   rw [HC.out] at HS1
   go_wp2_with (first | ((with_reducible refine gate_ld 32 _ rfl ?_); refine wl_ldr rfl 32 _ rfl (w.heap.size + 2) 0 (bC (cutK k d)).toList _ Tryz.underlying32 rfl (by rw [sizKey]; simp [bC, HS1.out.len]) rfl (range_whole (by simpa using HS1.out.dst)) ?_) | ((with_reducible refine gate_st 32 _ _ rfl ?_); refine wl_str rfl 32 _ _ rfl (w.heap.size + 1) (bC (cutK k d)) (bC z25) _ (by rw [sizKey, bC_size, HS1.out.len]) (by rw [bC_size, bC_size, HS1.out.len]; rfl) (bC_one _) rfl rfl HS1.out.res ?_))
   refine bodyPost_ret (res_rowc (P := Tryz.prog) (T := 32) (T' := 32) rfl _ _ (w.heap.size + 1) (bC (cutK k d)) (0, 0) rfl (setRow_at HS1.out.res) Tryz.underlying32 rfl (by rw [sizKey, bC_size, HS1.out.len])) rfl ⟨rfl, setRow_below HS1.out.bel (by omega) _⟩
 · have HCN : Hid (cutN d = 3) := by show _ = _; unfold cutN; subst hd; rfl
   have t1 : (1 : Int) < d := by omega
   have t2 : (2 : Int) < d := by omega
   have t3 : ¬ (3 : Int) < d := by omega
   have t4 : ¬ (4 : Int) < d := by omega
   have t0 : ¬ d < 1 := by omega
   have hdp := HS0.out.dep HK.out
   clear hd
   obtain ⟨⟨b1, hb1⟩, hf1⟩ := HS0.out.at_ 1 (by omega)
   have hk1 : W0.cell? ⟨w.heap.size, 1, none⟩ = some (.int .u8 (x1.toNat : Int)) := by have := HS0.out.key 1 (by rw [HK.out]; omega); simpa [HKK.out] using this
   have HS1 : Hid (CSt w k d ((k1 x0).set 1 x1) (W0.setCell ⟨w.heap.size + 2, 1, none⟩ (.int .u8 (x1.toNat : Int)))) := HS0.out.cell 1 x1
   go_upto_region 6 with fail
   clear hdp hb1 hf1 hk1
   generalize W0.setCell ⟨w.heap.size + 2, 1, none⟩ (.int .u8 (x1.toNat : Int)) = W1 at *
   have hdp := HS1.out.dep HK.out
   obtain ⟨⟨b2, hb2⟩, hf2⟩ := HS1.out.at_ 2 (by omega)
   have hk2 : W1.cell? ⟨w.heap.size, 2, none⟩ = some (.int .u8 (x2.toNat : Int)) := by have := HS1.out.key 2 (by rw [HK.out]; omega); simpa [HKK.out] using this
   have HS2 : Hid (CSt w k d (((k1 x0).set 1 x1).set 2 x2) (W1.setCell ⟨w.heap.size + 2, 2, none⟩ (.int .u8 (x2.toNat : Int)))) := HS1.out.cell 2 x2
   go_upto_region 8 with fail
   clear hdp hb2 hf2 hk2
   generalize W1.setCell ⟨w.heap.size + 2, 2, none⟩ (.int .u8 (x2.toNat : Int)) = W2 at *
   have hdp := HS2.out.dep HK.out
   have HC : Hid ((((k1 x0).set 1 x1).set 2 x2) = cutK k d) := by
     show _ = _
     unfold cutK; rw [HCN.out]; conv => rhs; rw [HKK.out]
     simp [k1]
   rw [HC.out] at HS2
   go_wp2_with (first | ((with_reducible refine gate_ld 32 _ rfl ?_); refine wl_ldr rfl 32 _ rfl (w.heap.size + 2) 0 (bC (cutK k d)).toList _ Tryz.underlying32 rfl (by rw [sizKey]; simp [bC, HS2.out.len]) rfl (range_whole (by simpa using HS2.out.dst)) ?_) | ((with_reducible refine gate_st 32 _ _ rfl ?_); refine wl_str rfl 32 _ _ rfl (w.heap.size + 1) (bC (cutK k d)) (bC z25) _ (by rw [sizKey, bC_size, HS2.out.len]) (by rw [bC_size, bC_size, HS2.out.len]; rfl) (bC_one _) rfl rfl HS2.out.res ?_))
   refine bodyPost_ret (res_rowc (P := Tryz.prog) (T := 32) (T' := 32) rfl _ _ (w.heap.size + 1) (bC (cutK k d)) (0, 0) rfl (setRow_at HS2.out.res) Tryz.underlying32 rfl (by rw [sizKey, bC_size, HS2.out.len])) rfl ⟨rfl, setRow_below HS2.out.bel (by omega) _⟩
 · have HCN : Hid (cutN d = 15) := by show _ = _; unfold cutN; subst hd; rfl
   have t1 : (1 : Int) < d := by omega
   have t2 : (2 : Int) < d := by omega
   have t3 : (3 : Int) < d := by omega
   have t4 : ¬ (4 : Int) < d := by omega
   have t0 : ¬ d < 1 := by omega
   have hdp := HS0.out.dep HK.out
   clear hd
   obtain ⟨⟨b1, hb1⟩, hf1⟩ := HS0.out.at_ 1 (by omega)
   have hk1 : W0.cell? ⟨w.heap.size, 1, none⟩ = some (.int .u8 (x1.toNat : Int)) := by have := HS0.out.key 1 (by rw [HK.out]; omega); simpa [HKK.out] using this
   have HS1 : Hid (CSt w k d ((k1 x0).set 1 x1) (W0.setCell ⟨w.heap.size + 2, 1, none⟩ (.int .u8 (x1.toNat : Int)))) := HS0.out.cell 1 x1
   go_upto_region 6 with fail
   clear hdp hb1 hf1 hk1
   generalize W0.setCell ⟨w.heap.size + 2, 1, none⟩ (.int .u8 (x1.toNat : Int)) = W1 at *
   have hdp := HS1.out.dep HK.out
   obtain ⟨⟨b2, hb2⟩, hf2⟩ := HS1.out.at_ 2 (by omega)
   have hk2 : W1.cell? ⟨w.heap.size, 2, none⟩ = some (.int .u8 (x2.toNat : Int)) := by have := HS1.out.key 2 (by rw [HK.out]; omega); simpa [HKK.out] using this
   have HS2 : Hid (CSt w k d (((k1 x0).set 1 x1).set 2 x2) (W1.setCell ⟨w.heap.size + 2, 2, none⟩ (.int .u8 (x2.toNat : Int)))) := HS1.out.cell 2 x2
   go_upto_region 8 with fail
   clear hdp hb2 hf2 hk2
   generalize W1.setCell ⟨w.heap.size + 2, 2, none⟩ (.int .u8 (x2.toNat : Int)) = W2 at *
   have hdp := HS2.out.dep HK.out
   have HS3 : Hid (CSt w k d (ovl (((k1 x0).set 1 x1).set 2 x2) 3 nm) (W2.setRow (w.heap.size + 2) (bC (ovl (((k1 x0).set 1 x1).set 2 x2) 3 nm)))) := HS2.out.row 3 nm (by rw [HNm.out]; omega)
   go_upto_region 10 with (first | ((with_reducible refine gate_ld 24 _ rfl ?_); refine wl_ldr rfl 24 _ rfl w.heap.size 3 (bC nm).toList _ Tryz.underlying24 rfl (by rw [sizName]; simp [bC, HNm.out]) rfl (by have := pC_sub HS2.out.src 3 12; rwa [HN.out] at this) ?_) | ((with_reducible refine gate_st 24 _ _ rfl ?_); refine st_mid rfl 24 _ _ rfl (w.heap.size + 2) 3 (((k1 x0).set 1 x1).set 2 x2) nm _ HS2.out.dst rfl rfl (by rw [sizName, HNm.out]) (by rw [HS2.out.len, HNm.out]; omega) ?_))
   clear hdp
   generalize W2.setRow (w.heap.size + 2) (bC (ovl (((k1 x0).set 1 x1).set 2 x2) 3 nm)) = W3 at *
   have hdp := HS3.out.dep HK.out
   have HC : Hid ((ovl (((k1 x0).set 1 x1).set 2 x2) 3 nm) = cutK k d) := by
     show _ = _
     unfold cutK; rw [HCN.out]; conv => rhs; rw [HKK.out]
     simp [k1, ovl, HNm.out]
   rw [HC.out] at HS3
   go_wp2_with (first | ((with_reducible refine gate_ld 32 _ rfl ?_); refine wl_ldr rfl 32 _ rfl (w.heap.size + 2) 0 (bC (cutK k d)).toList _ Tryz.underlying32 rfl (by rw [sizKey]; simp [bC, HS3.out.len]) rfl (range_whole (by simpa using HS3.out.dst)) ?_) | ((with_reducible refine gate_st 32 _ _ rfl ?_); refine wl_str rfl 32 _ _ rfl (w.heap.size + 1) (bC (cutK k d)) (bC z25) _ (by rw [sizKey, bC_size, HS3.out.len]) (by rw [bC_size, bC_size, HS3.out.len]; rfl) (bC_one _) rfl rfl HS3.out.res ?_))
   refine bodyPost_ret (res_rowc (P := Tryz.prog) (T := 32) (T' := 32) rfl _ _ (w.heap.size + 1) (bC (cutK k d)) (0, 0) rfl (setRow_at HS3.out.res) Tryz.underlying32 rfl (by rw [sizKey, bC_size, HS3.out.len])) rfl ⟨rfl, setRow_below HS3.out.bel (by omega) _⟩
 · have HCN : Hid (cutN d = 25) := by show _ = _; unfold cutN; rw [if_neg (by omega), if_neg (by omega), if_neg (by omega), if_neg (by omega), if_neg (by omega)]
   have t1 : (1 : Int) < d := by omega
   have t2 : (2 : Int) < d := by omega
   have t3 : (3 : Int) < d := by omega
   have t4 : (4 : Int) < d := by omega
   have t0 : ¬ d < 1 := by omega
   have hdp := HS0.out.dep HK.out
   obtain ⟨⟨b1, hb1⟩, hf1⟩ := HS0.out.at_ 1 (by omega)
   have hk1 : W0.cell? ⟨w.heap.size, 1, none⟩ = some (.int .u8 (x1.toNat : Int)) := by have := HS0.out.key 1 (by rw [HK.out]; omega); simpa [HKK.out] using this
   have HS1 : Hid (CSt w k d ((k1 x0).set 1 x1) (W0.setCell ⟨w.heap.size + 2, 1, none⟩ (.int .u8 (x1.toNat : Int)))) := HS0.out.cell 1 x1
   go_upto_region 6 with fail
   clear hdp hb1 hf1 hk1
   generalize W0.setCell ⟨w.heap.size + 2, 1, none⟩ (.int .u8 (x1.toNat : Int)) = W1 at *
   have hdp := HS1.out.dep HK.out
   obtain ⟨⟨b2, hb2⟩, hf2⟩ := HS1.out.at_ 2 (by omega)
   have hk2 : W1.cell? ⟨w.heap.size, 2, none⟩ = some (.int .u8 (x2.toNat : Int)) := by have := HS1.out.key 2 (by rw [HK.out]; omega); simpa [HKK.out] using this
   have HS2 : Hid (CSt w k d (((k1 x0).set 1 x1).set 2 x2) (W1.setCell ⟨w.heap.size + 2, 2, none⟩ (.int .u8 (x2.toNat : Int)))) := HS1.out.cell 2 x2
   go_upto_region 8 with fail
   clear hdp hb2 hf2 hk2
   generalize W1.setCell ⟨w.heap.size + 2, 2, none⟩ (.int .u8 (x2.toNat : Int)) = W2 at *
   have hdp := HS2.out.dep HK.out
   have HS3 : Hid (CSt w k d (ovl (((k1 x0).set 1 x1).set 2 x2) 3 nm) (W2.setRow (w.heap.size + 2) (bC (ovl (((k1 x0).set 1 x1).set 2 x2) 3 nm)))) := HS2.out.row 3 nm (by rw [HNm.out]; omega)
   go_upto_region 10 with (first | ((with_reducible refine gate_ld 24 _ rfl ?_); refine wl_ldr rfl 24 _ rfl w.heap.size 3 (bC nm).toList _ Tryz.underlying24 rfl (by rw [sizName]; simp [bC, HNm.out]) rfl (by have := pC_sub HS2.out.src 3 12; rwa [HN.out] at this) ?_) | ((with_reducible refine gate_st 24 _ _ rfl ?_); refine st_mid rfl 24 _ _ rfl (w.heap.size + 2) 3 (((k1 x0).set 1 x1).set 2 x2) nm _ HS2.out.dst rfl rfl (by rw [sizName, HNm.out]) (by rw [HS2.out.len, HNm.out]; omega) ?_))
   clear hdp
   generalize W2.setRow (w.heap.size + 2) (bC (ovl (((k1 x0).set 1 x1).set 2 x2) 3 nm)) = W3 at *
   have hdp := HS3.out.dep HK.out
   have HS4 : Hid (CSt w k d (ovl (ovl (((k1 x0).set 1 x1).set 2 x2) 3 nm) 15 tg) (W3.setRow (w.heap.size + 2) (bC (ovl (ovl (((k1 x0).set 1 x1).set 2 x2) 3 nm) 15 tg)))) := HS3.out.row 15 tg (by rw [HTg.out]; omega)
   go_upto_region 12 with (first | ((with_reducible refine gate_ld 28 _ rfl ?_); refine wl_ldr rfl 28 _ rfl w.heap.size 15 (bC tg).toList _ Tryz.underlying28 rfl (by rw [sizTag]; simp [bC, HTg.out]) rfl (by have := pC_sub HS3.out.src 15 10; rwa [HD.out] at this) ?_) | ((with_reducible refine gate_st 28 _ _ rfl ?_); refine st_mid rfl 28 _ _ rfl (w.heap.size + 2) 15 (ovl (((k1 x0).set 1 x1).set 2 x2) 3 nm) tg _ HS3.out.dst rfl rfl (by rw [sizTag, HTg.out]) (by rw [HS3.out.len, HTg.out]; omega) ?_))
   clear hdp
   generalize W3.setRow (w.heap.size + 2) (bC (ovl (ovl (((k1 x0).set 1 x1).set 2 x2) 3 nm) 15 tg)) = W4 at *
   have HC : Hid ((ovl (ovl (((k1 x0).set 1 x1).set 2 x2) 3 nm) 15 tg) = cutK k d) := by
     show _ = _
     unfold cutK; rw [HCN.out]; conv => rhs; rw [HKK.out]
     simp [k1, ovl, HNm.out, HTg.out]; rw [List.drop_eq_nil_of_le (by simp [HNm.out]), List.append_nil, List.take_of_length_le (by simp [HNm.out, HTg.out])]
   rw [HC.out] at HS4
   go_wp2_with (first | ((with_reducible refine gate_ld 32 _ rfl ?_); refine wl_ldr rfl 32 _ rfl (w.heap.size + 2) 0 (bC (cutK k d)).toList _ Tryz.underlying32 rfl (by rw [sizKey]; simp [bC, HS4.out.len]) rfl (range_whole (by simpa using HS4.out.dst)) ?_) | ((with_reducible refine gate_st 32 _ _ rfl ?_); refine wl_str rfl 32 _ _ rfl (w.heap.size + 1) (bC (cutK k d)) (bC z25) _ (by rw [sizKey, bC_size, HS4.out.len]) (by rw [bC_size, bC_size, HS4.out.len]; rfl) (bC_one _) rfl rfl HS4.out.res ?_))
   refine bodyPost_ret (res_rowc (P := Tryz.prog) (T := 32) (T' := 32) rfl _ _ (w.heap.size + 1) (bC (cutK k d)) (0, 0) rfl (setRow_at HS4.out.res) Tryz.underlying32 rfl (by rw [sizKey, bC_size, HS4.out.len])) rfl ⟨rfl, setRow_below HS4.out.bel (by omega) _⟩
theorem byteC_flat (l : List UInt8) : l.flatMap byteC = (bC l).toList := by
 unfold bC
 induction l with
 | nil => rfl
 | cons b l ih => rw [List.flatMap_cons, ih]; simp [byteC]
theorem slat_bytes {w : World} {b o : Nat} {l : List UInt8} (hb : b < w.heap.size) (h : w.rangeAt b o (bC l).toList) : SlAt byteC 1 w (some ⟨b, o, none⟩) l := fun i hi => by
 refine ⟨b, o, rfl, hb, ?_⟩
 rw [← byteC_flat] at h
 exact range_nth byteC_len h i hi
theorem infoU8 : (Tryz.prog.info? 5).map (fun i => (i.zero, i.size, i.bytes)) = some (some (.int .u8 0), 1, 1) := by kernel_rfl
theorem run_eqnil (w : World) (a : Addr) (n c : Nat) : (binOp .eql 22 (.slice (some a) n c) (.slice none 0 0)).run Tryz.prog w = .ok (.bool false) w := by
 exact Lib.run_eql_slice_nil w 22 5 (some a) n c 0 0 Tryz.underlying22
theorem clone_any (w : World) (b o n c : Nat) (l : List UInt8) (hn : l.length = n) (hn25 : n ≤ 25) (hq : SlAt byteC 1 w (some ⟨b, o, none⟩) l) :
   Calls Tryz.prog 92 #[.slice (some ⟨b, o, none⟩) n c] w fun e w' => ∃ v, e = .returned v ∧ OwnE byteC 5 1 w' w.heap.size v l ∧ Below w.heap.size w w' := by
 have HQ := Lib.hid hq
 have HL := Lib.hid hn
 have HB := Lib.hid (below_alloc1 w (.cells #[] 5))
 have HO : Hid (OwnE byteC 5 1 (w.alloc (.cells #[] 5)) w.heap.size (.slice (some ⟨w.heap.size, 0, none⟩) 0 0) []) := ⟨by simp, .inr ⟨w.heap.size, 0, #[], rfl, Nat.le_refl _, heap_alloc_new _ _, by simp, by unfold maxLen; omega, rfl, rfl⟩⟩
 have he := fun W => run_eqnil W ⟨b, o, none⟩ n c
 clear hq hn
 go_enter Tryz.func92, Tryz.ntmps92
 go_upto_region 3 with fail
 go_wp2_with (first
   | ((with_reducible refine gate_op (.call { callee := .builtin .append, args := #[.tmp 5, .tmp 6], argTypes := #[22, 22] }) rfl ?_); refine wl_appO (enc := byteC) (k := 1) rfl 22 5 1 _ Tryz.underlying22 infoU8 rfl (by omega) byteC_len (fun x u hu => by simp [byteC] at hu; subst hu; rfl) (.tmp 5) (.tmp 6) rfl w.heap.size _ [] rfl HO.out _ n c l rfl HL.out (HQ.out.below HB.out) (fun e => by cases e) (by simp; omega) (by unfold maxLen; simp; omega) (by simp) (fun v' w2 ho hg _ => ?_)))
 clear he
 go_ret
 refine ⟨v', rfl, ho, HB.out.grown hg (by simp) (fun g e => ?_)⟩
 have : w.heap.size = g := by simpa [Value.ownBlock, Act.eval, Act.put] using e
 omega
def preB (k : List UInt8) (d : Int) : List UInt8 := if depOk d then k.take (cutN d) else []
theorem preB_len (k : List UInt8) (d : Int) (hk : k.length = 25) : (preB k d).length ≤ 25 := by
 unfold preB
 split
 · rw [List.length_take]; omega
 · simp
theorem cutK_take (k : List UInt8) (d : Int) (hk : k.length = 25) : (cutK k d).take (cutN d) = k.take (cutN d) := by
 have := cutN_le d
 unfold cutK
 rw [List.take_append_of_le_length (by simp [hk]; omega), List.take_take, Nat.min_self]
theorem pbytes_any (k : List UInt8) (d : Int) (w : World) (hk : k.length = 25) :
   Calls Tryz.prog 44 #[.agg (pC k d).toArray] w fun e w' => ∃ v, e = .returned v ∧ OwnE byteC 5 1 w' w.heap.size v (preB k d) ∧ Below w.heap.size w w' := by
 have HK := Lib.hid hk
 have HB := Lib.hid (below_alloc1 w (.cells (pC k d).toArray 34))
 have HP := Lib.hid (heap_alloc_new w (.cells (pC k d).toArray 34))
 have KR := Lib.hid (fun W => right_any k d W hk)
 have KC := Lib.hid (fun W => cut_any k d W hk)
 clear hk
 by_cases hd : depOk d = true
 · have hb := of_decide_eq_true hd
   have HPl : Hid (preB k d = k.take (cutN d)) := if_pos hd
   rw [hd] at KR
   go_enter Tryz.func44, Tryz.ntmps44
   go_upto_region 1 with fail
   generalize w.alloc (.cells (pC k d).toArray 34) = W1 at *
   go_upto_region 3 with (first
     | ((with_reducible refine gate_ld 34 (.tmp 1) rfl ?_); refine wl_ldr rfl 34 _ rfl w.heap.size 0 (pC k d) _ Tryz.underlying34 rfl (by rw [sizPre, pC_len HK.out]) rfl (range_whole (by simpa using HP.out)) ?_)
     | (go_at_call 90; (refine (KR.out _).mono ?_); rintro e W2 ⟨rfl, hb2⟩; have HB2 := Lib.hid hb2; clear hb2))
   have HP2 : Hid (W2.heap[w.heap.size]? = some (.cells (pC k d).toArray 34 (0, 0))) := (HB2.out.block _ (lt_heap HP.out)).trans HP.out
   have HBb : Hid (Below w.heap.size w W2) := HB.out.trans (HB2.out.mono HB.out.size)
   clear HP HB HB2 KR
   go_upto_region 4 with (first
     | ((with_reducible refine gate_ld 34 (.tmp 1) rfl ?_); refine wl_ldr rfl 34 _ rfl w.heap.size 0 (pC k d) _ Tryz.underlying34 rfl (by rw [sizPre, pC_len HK.out]) rfl (range_whole (by simpa using HP2.out)) ?_)
     | (go_at_call 91; (refine (KC.out _).mono ?_); rintro e W3 ⟨rfl, hb3⟩; have HB3 := Lib.hid hb3; clear hb3)
     | (go_at_call 62; (refine (keyBytes_any (cutK k d) _ (cutK_len HK.out d)).mono ?_); rintro e W4 ⟨rfl, hb4⟩; have HB4 := Lib.hid hb4; clear hb4)
     | ((with_reducible refine gate_st 108 _ _ rfl ?_); refine wl_str rfl 108 (.tmp 3) (.tmp 10) rfl W4.heap.size (bC (cutK k d)) (bC z25) 108 (by rw [siz25, bC_size, cutK_len HK.out]) (by rw [bC_size, bC_size, cutK_len HK.out]; rfl) (bC_one _) rfl rfl (heap_alloc_new _ _) ?_))
   have hbel : Below w.heap.size w (W4.alloc (.cells (bC (cutK k d)) 108)) := HBb.out.trans ((HB3.out.trans ((HB4.out.alloc HB4.out.size _).mono HB3.out.size)).mono HBb.out.size)
   have hc25 : (W4.alloc (.cells (bC (cutK k d)) 108)).cell? ⟨w.heap.size, 25, none⟩ = some (.int .i64 d) := by
     rw [cell_blk (((HB3.out.trans ((HB4.out.alloc HB4.out.size _).mono HB3.out.size)).block _ (lt_heap HP2.out)).trans HP2.out), pC_d HK.out]
   have HS : Hid (∀ n, n = cutN d → Calls Tryz.prog 92 #[.slice (some ⟨W4.heap.size, 0, none⟩) n 25] (W4.alloc (.cells (bC (cutK k d)) 108)) fun e w' => ∃ v, e = .returned v ∧ OwnE byteC 5 1 w' w.heap.size v (preB k d) ∧ Below w.heap.size w w') := fun n hn => by
     subst hn
     refine (clone_any _ W4.heap.size 0 (cutN d) 25 (preB k d) (by rw [HPl.out, List.length_take, HK.out]; have := cutN_le d; omega) (cutN_le d) (slat_bytes (by simp) ?_)).mono ?_
     · rw [HPl.out, ← cutK_take k d HK.out]
       intro j u hu
       have hr : (W4.alloc (.cells (bC (cutK k d)) 108)).rangeAt W4.heap.size 0 (bC (cutK k d)).toList := range_whole (by simpa using heap_alloc_new W4 (.cells (bC (cutK k d)) 108))
       refine hr j u ?_
       simp only [bC, List.getElem?_map] at hu ⊢
       have hj : j < ((cutK k d).take (cutN d)).length := by
         cases h : ((cutK k d).take (cutN d))[j]? with
         | none => simp [h] at hu
         | some x => exact (List.getElem?_eq_some_iff.1 h).1
       rw [List.getElem?_take_of_lt (by rw [List.length_take] at hj; omega)] at hu
       exact hu
     · rintro e w' ⟨v, rfl, ho, hb2⟩
       exact ⟨v, rfl, ho.base hbel.size, hbel.trans (hb2.mono hbel.size)⟩
   show Code.wp _ _ _ _ ((W4.alloc (.cells (bC z25) 108)).setRow W4.heap.size (bC (cutK k d)))
   rw [World.setRow_alloc_new]
   clear hbel HP2 HBb HB3 HB4 KC
   generalize (W4.alloc (.cells (bC (cutK k d)) 108)) = W5 at *
   clear HPl
   obtain rfl | rfl | rfl | rfl | rfl | rfl : d = 0 ∨ d = 1 ∨ d = 2 ∨ d = 3 ∨ d = 4 ∨ d = 5 := by omega
   all_goals
     go_wp2_with (go_at_call 92; (refine (HS.out _ (by decide)).mono ?_); rintro e W6 ⟨v6, rfl, hf6, hb6⟩; have HF6 := Lib.hid hf6; have HB6 := Lib.hid hb6; clear hf6 hb6)
     go_ret
     exact ⟨v6, rfl, HF6.out, HB6.out⟩
 · have hd' : depOk d = false := by simpa using hd
   have HPl : Hid (preB k d = []) := if_neg hd
   rw [hd'] at KR
   go_enter Tryz.func44, Tryz.ntmps44
   go_upto_region 1 with fail
   generalize w.alloc (.cells (pC k d).toArray 34) = W1 at *
   go_wp2_with (first
     | ((with_reducible refine gate_ld 34 (.tmp 1) rfl ?_); refine wl_ldr rfl 34 _ rfl w.heap.size 0 (pC k d) _ Tryz.underlying34 rfl (by rw [sizPre, pC_len HK.out]) rfl (range_whole (by simpa using HP.out)) ?_)
     | (go_at_call 90; (refine (KR.out _).mono ?_); rintro e W2 ⟨rfl, hb2⟩; have HB2 := Lib.hid hb2; clear hb2))
   go_ret
   exact ⟨_, rfl, by rw [HPl.out]; exact OwnE.nil _ _, HB.out.trans (HB2.out.mono HB.out.size)⟩
end Go.Proofs.YtbfefdedjcppaaaGreatDoor.Kx

/- request.cut: a prefix's key without what doesn't matter. -/
namespace Go.Proofs.YtbfefdedjcppaaaGreatDoor
set_option maxRecDepth 100000
set_option maxHeartbeats 8000000
open Go.RowKit
theorem builtPre0 (a0 a1 a2 a3 a4 a5 a6 a7 a8 a9 a10 a11 a12 a13 a14 a15 a16 a17 a18 a19 a20 a21 a22 a23 a24 : UInt8) (d : Int) : Tryz.prog.built 34 [(0, .agg (bC [a0, a1, a2, a3, a4, a5, a6, a7, a8, a9, a10, a11, a12, a13, a14, a15, a16, a17, a18, a19, a20, a21, a22, a23, a24])), (1, .int .i64 d)] = some (Kx.pC [a0, a1, a2, a3, a4, a5, a6, a7, a8, a9, a10, a11, a12, a13, a14, a15, a16, a17, a18, a19, a20, a21, a22, a23, a24] d).toArray := by kernel_rfl
theorem builtPre (q : List UInt8) (hq : q.length = 25) (d : Int) : Tryz.prog.built 34 [(0, .agg (bC q)), (1, .int .i64 d)] = some (Kx.pC q d).toArray := by
 match q, hq with
 | [a0, a1, a2, a3, a4, a5, a6, a7, a8, a9, a10, a11, a12, a13, a14, a15, a16, a17, a18, a19, a20, a21, a22, a23, a24], _ => exact builtPre0 ..
theorem slice_capm {E : TypeId} {w : World} {base n co : Nat} {q : Option Addr} {xs : List UInt8} (h : OwnE byteC E 1 w base (.slice q n co) xs) : co ≤ maxLen := by
 obtain ⟨q', c', hv, _, hm, _⟩ := h.at byteC_len
 simp only [Value.slice.injEq] at hv
 rw [hv.2.2]; exact hm
theorem pC_one (k : List UInt8) (d : Int) : (Kx.pC k d).toArray.all (·.oneCell') = true := by
 rw [← Array.all_toList]
 simp only [Kx.pC, List.all_append, bC_all, Bool.true_and]
 rfl
theorem rcut_any (k : List UInt8) (d : Int) (w : World) (hk : k.length = 25) :
   Calls Tryz.prog 83 #[.agg (Kx.pC k d).toArray] w fun e w' => e = .returned (.agg (Kx.pC (prefK (Kx.preB k d)) d).toArray) ∧ Below w.heap.size w w' := by
 have HK := Lib.hid hk
 have HG0 : Hid (((w.alloc (.cells (Kx.pC k d).toArray 34)).alloc (.cells (Kx.pC z25 0).toArray 34)).heap[w.heap.size]? = some (.cells (Kx.pC k d).toArray 34 (0, 0))) := heap_alloc2_old _ _ _
 have HG1 : Hid (((w.alloc (.cells (Kx.pC k d).toArray 34)).alloc (.cells (Kx.pC z25 0).toArray 34)).heap[w.heap.size + 1]? = some (.cells (Kx.pC z25 0).toArray 34 (0, 0))) := heap_alloc2_new _ _ _
 have HB1 : Hid (Below w.heap.size w ((w.alloc (.cells (Kx.pC k d).toArray 34)).alloc (.cells (Kx.pC z25 0).toArray 34))) := below_alloc2 _ _ _
 clear hk
 go_enter Tryz.func83, Tryz.ntmps83
 go_upto_region 1 with fail
 rw [show (Obj.cells #[Value.int .u8 0, .int .u8 0, .int .u8 0, .int .u8 0, .int .u8 0, .int .u8 0, .int .u8 0, .int .u8 0, .int .u8 0, .int .u8 0, .int .u8 0, .int .u8 0, .int .u8 0, .int .u8 0, .int .u8 0, .int .u8 0, .int .u8 0, .int .u8 0, .int .u8 0, .int .u8 0, .int .u8 0, .int .u8 0, .int .u8 0, .int .u8 0, .int .u8 0, .int .i64 0] 34) = Obj.cells (Kx.pC z25 0).toArray 34 from rfl]
 generalize (w.alloc (.cells (Kx.pC k d).toArray 34)).alloc (.cells (Kx.pC z25 0).toArray 34) = W1 at *
 go_upto_region 2 with (first
   | ((with_reducible refine gate_ld 34 (.tmp 1) rfl ?_); refine wl_ldr rfl 34 _ rfl w.heap.size 0 (Kx.pC k d) _ Tryz.underlying34 rfl (by rw [Kx.sizPre, Kx.pC_len HK.out]) rfl (range_whole (by simpa using HG0.out)) ?_)
   | (go_at_call 44; (refine (Kx.pbytes_any k d _ HK.out).mono ?_); rintro e W2 ⟨v2, rfl, ho2, hb2⟩; have HO2 := Lib.hid ho2; have HB2 := Lib.hid hb2; clear ho2 hb2; obtain ⟨q2, c2, rfl⟩ := HO2.out.slice)
   | (go_at_call 30; (refine (prefix_any q2 (Kx.preB k d) _ c2 _ rfl HO2.out.cap_le.2 (slice_capm HO2.out) (HO2.out.slat byteC_len)).mono ?_); rintro e W3 ⟨rfl, hb3⟩; have HB3 := Lib.hid hb3; clear hb3)
   | ((with_reducible refine gate_st 32 _ _ rfl ?_); refine wl_strn rfl _ _ _ rfl (bC (prefK (Kx.preB k d))) #[Value.int IntKind.u8 0, Value.int IntKind.u8 0, Value.int IntKind.u8 0, Value.int IntKind.u8 0, Value.int IntKind.u8 0, Value.int IntKind.u8 0, Value.int IntKind.u8 0, Value.int IntKind.u8 0, Value.int IntKind.u8 0, Value.int IntKind.u8 0, Value.int IntKind.u8 0, Value.int IntKind.u8 0, Value.int IntKind.u8 0, Value.int IntKind.u8 0, Value.int IntKind.u8 0, Value.int IntKind.u8 0, Value.int IntKind.u8 0, Value.int IntKind.u8 0, Value.int IntKind.u8 0, Value.int IntKind.u8 0, Value.int IntKind.u8 0, Value.int IntKind.u8 0, Value.int IntKind.u8 0, Value.int IntKind.u8 0, Value.int IntKind.u8 0] _ (by rw [sizKey, bC_size, prefK_len]) (by rw [bC_size, prefK_len]; rfl) (bC_one _) (by simp [Act.eval]) rfl ?_))
 have HA : Hid ((W3.alloc (.cells (bC (prefK (Kx.preB k d))) 32)).heap[W3.heap.size]? = some (.cells (bC (prefK (Kx.preB k d))) 32 (0, 0))) := heap_alloc_new _ _
 have HBx : Hid (Below W1.heap.size W1 (W3.alloc (.cells (bC (prefK (Kx.preB k d))) 32))) := HB2.out.trans ((HB3.out.alloc HB3.out.size _).mono HB2.out.size)
 have HG0' := Lib.hid ((HBx.out.block _ (lt_heap HG0.out)).trans HG0.out)
 have HG1' := Lib.hid ((HBx.out.block _ (lt_heap HG1.out)).trans HG1.out)
 have HBy := Lib.hid (HB1.out.trans (HBx.out.mono HB1.out.size))
 have hlen := prefK_len (Kx.preB k d)
 clear HBx HG0 HG1 HB1 HB2 HB3 HO2
 generalize W3.alloc (.cells (bC (prefK (Kx.preB k d))) 32) = W4 at *
 generalize W3.heap.size = kb at *
 generalize hpk : prefK (Kx.preB k d) = pk at *
 have HPk := Lib.hid hlen
 clear hlen
 have hcd : W4.cell? ⟨w.heap.size, 25, none⟩ = some (.int .i64 d) := by rw [cell_blk HG0'.out, Kx.pC_d HK.out]
 go_wp2_with (first
   | ((with_reducible refine gate_ld 32 _ rfl ?_); refine wl_ldr rfl 32 _ rfl kb 0 (bC pk).toList _ Tryz.underlying32 rfl (by rw [sizKey]; simp [bC, HPk.out]) rfl (range_whole (by simpa using HA.out)) ?_; try simp only [Array.toArray_toList])
   | ((with_reducible refine gate_bd 34 _ rfl ?_); refine wl_bd rfl _ [(0, .tmp 11), (1, .tmp 13)] rfl [(0, .agg (bC pk)), (1, .int .i64 d)] rfl (Kx.pC pk d).toArray (builtPre pk HPk.out d) ?_)
   | ((with_reducible refine gate_st 34 _ _ rfl ?_); refine wl_str rfl 34 _ _ rfl (w.heap.size + 1) (Kx.pC pk d).toArray (Kx.pC z25 0).toArray _ (by rw [Kx.sizPre, List.size_toArray, Kx.pC_len HPk.out]) (by rw [List.size_toArray, List.size_toArray, Kx.pC_len HPk.out, Kx.pC_len (by rfl)]) (pC_one _ _) rfl rfl HG1'.out ?_))
 refine bodyPost_ret (res_rowc (P := Tryz.prog) (T := 34) (T' := 34) rfl _ _ (w.heap.size + 1) (Kx.pC pk d).toArray (0, 0) rfl (setRow_at HG1'.out) Tryz.underlying34 rfl (by rw [Kx.sizPre, List.size_toArray, Kx.pC_len HPk.out])) rfl ⟨by rw [hpk], setRow_below HBy.out (Nat.le_succ _) _⟩
end Go.Proofs.YtbfefdedjcppaaaGreatDoor

/- ops.Bare. -/
namespace Go.Proofs.YtbfefdedjcppaaaGreatDoor
set_option maxRecDepth 100000
set_option maxHeartbeats 8000000
open Go.RowKit
theorem sizI1 : (Tryz.prog.info? 3).map (·.size) = some 1 := by kernel_rfl
def zn12 : List UInt8 := List.replicate 12 0
def zt10 : List UInt8 := List.replicate 10 0
def headO (o : OpD) : OpD := ⟨o.n0, o.n1, o.n2, 0, 0, 0, 0, zn12, zt10, ⟨#[]⟩, rfl, rfl⟩
def zeroO : OpD := ⟨0, 0, 0, 0, 0, 0, 0, zn12, zt10, ⟨#[]⟩, rfl, rfl⟩
def setF (o x : OpD) (c : UInt8) : OpD :=
 if c = 98 then { x with n3 := o.n3 } else if c = 116 then { x with n4 := o.n4 } else if c = 110 then { x with n5 := o.n5 } else if c = 109 then { x with n6 := o.n6 }
 else if c = 97 then { x with name := o.name, ln := o.ln } else if c = 103 then { x with tag := o.tag, lt := o.lt } else { x with text := o.text }
def bareO (o : OpD) : OpD := (usesL o.n0.toNat).foldl (setF o) (headO o)
theorem builtHead (n0 n1 n2 : Int) : Tryz.prog.built 30 [(0, .int .i64 n0), (1, .int .i64 n1), (2, .int .i64 n2)] = some (opC ⟨n0, n1, n2, 0, 0, 0, 0, zn12, zt10, ⟨#[]⟩, rfl, rfl⟩).toArray := by kernel_rfl
theorem row_name (o x : OpD) : RowIn (opC x) 7 (bC o.name).toList = opC { x with name := o.name, ln := o.ln } := by
 have h1 : (bC o.name).toList.length = 12 := by simp [bC, o.ln]
 have h2 : (bC x.name).toList.length = 12 := by simp [bC, x.ln]
 unfold RowIn opC
 rw [List.take_left' (by rfl), h1, List.drop_append, List.drop_eq_nil_of_le (by simp [opI]), List.nil_append, show 7 + 12 - (opI x).length = 12 from rfl, List.drop_left' h2]
 simp [opI]
theorem row_tag (o x : OpD) : RowIn (opC x) 19 (bC o.tag).toList = opC { x with tag := o.tag, lt := o.lt } := by
 have h1 : (bC o.tag).toList.length = 10 := by simp [bC, o.lt]
 have h2 : (bC x.tag).toList.length = 10 := by simp [bC, x.lt]
 have h3 : (bC x.name).toList.length = 12 := by simp [bC, x.ln]
 have e : opC x = (opI x ++ (bC x.name).toList) ++ ((bC x.tag).toList ++ [.string x.text]) := by simp [opC]
 unfold RowIn
 rw [e, List.take_left' (by simp [opI, h3]), h1, List.drop_append, List.drop_eq_nil_of_le (by simp [opI, h3]), List.nil_append, show 19 + 10 - (opI x ++ (bC x.name).toList).length = 10 by simp [opI, h3], List.drop_left' h2]
 simp [opC, opI]
structure BaSt (w W : World) (it : Nat) (o x : OpD) (u : ByteArray) (pos : Nat) : Prop where
 bel : Below w.heap.size w W
 src : W.heap[w.heap.size]? = some (.cells (opC o).toArray 30 (0, 0))
 res : W.heap[w.heap.size + 1]? = some (.cells (opC zeroO).toArray 30 (0, 0))
 dst : W.heap[w.heap.size + 2]? = some (.cells (opC x).toArray 30 (0, 0))
 it_ : W.heap[it]? = some (.stringIter u pos)
 up : w.heap.size + 2 < it
theorem BaSt.step {w W W' : World} {it pos : Nat} {o x y : OpD} {u : ByteArray} (h : BaSt w W it o x u pos) (hd : W'.heap[w.heap.size + 2]? = some (.cells (opC y).toArray 30 (0, 0))) (ht : Turn [w.heap.size + 2] W W') : BaSt w W' it o y u pos := by
 have hu := h.up
 have hk : ∀ k, k < W.heap.size → k ≠ w.heap.size + 2 → W'.heap[k]? = W.heap[k]? := fun k a b => ht.block k a (by simpa using b)
 exact ⟨h.bel.trans (ht.below (fun k hk => by simp at hk; omega) h.bel.size), (hk _ (lt_heap h.src) (by omega)).trans h.src, (hk _ (lt_heap h.res) (by omega)).trans h.res, hd, (hk _ (lt_heap h.it_) (by omega)).trans h.it_, h.up⟩
theorem BaSt.next {w W : World} {it pos : Nat} {o x : OpD} {u : ByteArray} (h : BaSt w W it o x u pos) (p : Nat) : BaSt w (putB W it (.stringIter u p)) it o x u p := by
 have hu := h.up
 have hk : ∀ k, k ≠ it → (putB W it (.stringIter u p)).heap[k]? = W.heap[k]? := fun k hk => putB_other _ _ _ _ hk
 exact ⟨putB_below h.bel _ _ (by omega), (hk _ (by omega)).trans h.src, (hk _ (by omega)).trans h.res, (hk _ (by omega)).trans h.dst, putB_same _ _ _ _ h.it_, h.up⟩
theorem foldS_take {o x : OpD} {u : List UInt8} {pos : Nat} {c : UInt8} (hc : u[pos]? = some c) : (u.take (pos + 1)).foldl (setF o) x = setF o ((u.take pos).foldl (setF o) x) c := by
 have h := (List.getElem?_eq_some_iff.1 hc).1
 rw [List.take_succ_eq_append_getElem h, List.foldl_append, (List.getElem?_eq_some_iff.1 hc).2]; rfl
theorem one_bC (l : List UInt8) : ∀ v ∈ (bC l).toList, v.oneCell' = true := fun v hv => List.all_eq_true.1 (bC_all l) v hv
theorem bareO_any (o : OpD) (w : World) (hk : 0 ≤ o.n0) : Calls Tryz.prog 82 #[.agg (opC o).toArray] w fun e w' => e = .returned (.agg (opC (bareO o)).toArray) ∧ Below w.heap.size w w' := by
 obtain ⟨k, hkk⟩ : ∃ k : Nat, o.n0 = (k : Int) := ⟨o.n0.toNat, by omega⟩
 have hkn : o.n0.toNat = k := by omega
 have HO : Hid (bareO o = (usesL k).foldl (setF o) (headO o)) := by show _ = _; unfold bareO; rw [hkn]
 have HKk := Lib.hid hkk
 clear hkk hkn
 have HG0 : Hid (((w.alloc (.cells (opC o).toArray 30)).alloc (.cells (opC zeroO).toArray 30)).heap[w.heap.size]? = some (.cells (opC o).toArray 30 (0, 0))) := heap_alloc2_old _ _ _
 have HG1 : Hid (((w.alloc (.cells (opC o).toArray 30)).alloc (.cells (opC zeroO).toArray 30)).heap[w.heap.size + 1]? = some (.cells (opC zeroO).toArray 30 (0, 0))) := heap_alloc2_new _ _ _
 have HB1 : Hid (Below w.heap.size w ((w.alloc (.cells (opC o).toArray 30)).alloc (.cells (opC zeroO).toArray 30))) := below_alloc2 _ _ _
 have HSz : Hid (((w.alloc (.cells (opC o).toArray 30)).alloc (.cells (opC zeroO).toArray 30)).heap.size = w.heap.size + 2) := by show _ = _; simp
 go_enter Tryz.func82, Tryz.ntmps82
 go_upto_region 1 with fail
 rw [show (Obj.cells #[Value.int .i64 0, .int .i64 0, .int .i64 0, .int .i64 0, .int .i64 0, .int .i64 0, .int .i64 0, .int .u8 0, .int .u8 0, .int .u8 0, .int .u8 0, .int .u8 0, .int .u8 0, .int .u8 0, .int .u8 0, .int .u8 0, .int .u8 0, .int .u8 0, .int .u8 0, .int .u8 0, .int .u8 0, .int .u8 0, .int .u8 0, .int .u8 0, .int .u8 0, .int .u8 0, .int .u8 0, .int .u8 0, .int .u8 0, Value.string ⟨#[]⟩] 30) = Obj.cells (opC zeroO).toArray 30 from rfl]
 generalize (w.alloc (.cells (opC o).toArray 30)).alloc (.cells (opC zeroO).toArray 30) = W1 at *
 have c0 : W1.cell? ⟨w.heap.size, 0, none⟩ = some (.int .i64 o.n0) := by rw [cell_blk HG0.out]; rfl
 have c1 : W1.cell? ⟨w.heap.size, 1, none⟩ = some (.int .i64 o.n1) := by rw [cell_blk HG0.out]; rfl
 have c2 : W1.cell? ⟨w.heap.size, 2, none⟩ = some (.int .i64 o.n2) := by rw [cell_blk HG0.out]; rfl
 go_upto_region 2 with (first
   | ((with_reducible refine gate_bd 30 _ rfl ?_); refine wl_bd rfl _ [(0, .tmp 7), (1, .tmp 9), (2, .tmp 11)] rfl [(0, .int .i64 o.n0), (1, .int .i64 o.n1), (2, .int .i64 o.n2)] rfl (opC (headO o)).toArray (builtHead o.n0 o.n1 o.n2) ?_)
   | ((with_reducible refine gate_st 30 _ _ rfl ?_); refine wl_strn rfl _ _ _ rfl (opC (headO o)).toArray #[Value.int IntKind.i64 0, Value.int IntKind.i64 0, Value.int IntKind.i64 0, Value.int IntKind.i64 0, Value.int IntKind.i64 0, Value.int IntKind.i64 0, Value.int IntKind.i64 0, Value.int IntKind.u8 0, Value.int IntKind.u8 0, Value.int IntKind.u8 0, Value.int IntKind.u8 0, Value.int IntKind.u8 0, Value.int IntKind.u8 0, Value.int IntKind.u8 0, Value.int IntKind.u8 0, Value.int IntKind.u8 0, Value.int IntKind.u8 0, Value.int IntKind.u8 0, Value.int IntKind.u8 0, Value.int IntKind.u8 0, Value.int IntKind.u8 0, Value.int IntKind.u8 0, Value.int IntKind.u8 0, Value.int IntKind.u8 0, Value.int IntKind.u8 0, Value.int IntKind.u8 0, Value.int IntKind.u8 0, Value.int IntKind.u8 0, Value.int IntKind.u8 0, Value.string ⟨#[]⟩] _ (by rw [sizOp, List.size_toArray, opC_len]) (by rw [List.size_toArray, opC_len]; rfl) (by rw [← Array.all_toList]; exact opC_one _) (by simp [Act.eval]) rfl ?_))
 have HS0 : Hid (W1.heap.size = w.heap.size + 2) := HSz
 have HA : Hid ((W1.alloc (.cells (opC (headO o)).toArray 30)).heap[W1.heap.size]? = some (.cells (opC (headO o)).toArray 30 (0, 0))) := heap_alloc_new _ _
 have hbx := below_alloc1 W1 (.cells (opC (headO o)).toArray 30)
 have HG0' := Lib.hid ((hbx.block _ (lt_heap HG0.out)).trans HG0.out)
 have HG1' := Lib.hid ((hbx.block _ (lt_heap HG1.out)).trans HG1.out)
 have HB2 := Lib.hid (HB1.out.trans (hbx.mono HB1.out.size))
 clear c0 c1 c2 hbx HG0 HG1 HB1 HSz
 generalize W1.alloc (.cells (opC (headO o)).toArray 30) = W2 at *
 rw [HS0.out] at HA ⊢
 have hck : W2.cell? ⟨w.heap.size, 0, none⟩ = some (.int .i64 (k : Int)) := by rw [cell_blk HG0'.out, ← HKk.out]; rfl
 have KU : Hid (∀ W, Calls Tryz.prog 72 #[.int .i64 (k : Int)] W fun e w' => e = .returned (.string ⟨(usesL k).toArray⟩) ∧ Below W.heap.size W w') := fun W => usesO_any k W
 go_wp2_with (go_at_call 72; (refine (KU.out _).mono ?_); rintro e w5 ⟨rfl, hb5⟩; have HB5 := Lib.hid hb5; clear hb5)
 have HL0 : Hid (BaSt w (w5.iter ⟨(usesL k).toArray⟩ 0) w5.heap.size o (headO o) ⟨(usesL k).toArray⟩ 0) := by
   have hb3 : Below W2.heap.size W2 (w5.iter ⟨(usesL k).toArray⟩ 0) := HB5.out.alloc HB5.out.size _
   have h1 := lt_heap HA.out
   have h2 := HB5.out.size
   exact ⟨HB2.out.trans (hb3.mono HB2.out.size), (hb3.block _ (lt_heap HG0'.out)).trans HG0'.out, (hb3.block _ (lt_heap HG1'.out)).trans HG1'.out, (hb3.block _ h1).trans HA.out, World.iter_heap _ _ _, by omega⟩
 have HUI := Lib.hid (uses_in k)
 clear HA HB5 HG0' HG1' HB2 KU hck
 generalize usesL k = u at *
 generalize w5.iter ⟨u.toArray⟩ 0 = W5 at *
 generalize w5.heap.size = it at *
 have hus : (⟨u.toArray⟩ : ByteArray).size = u.length := by show u.toArray.size = _; simp
 go_loopw [5] (fun _ wr => ∃ (pos : Nat) (y : OpD), pos ≤ u.length ∧ Hid (BaSt w wr it o y ⟨u.toArray⟩ pos) ∧ Hid (y = (u.take pos).foldl (setF o) (headO o))) (fun _ wr => u.length - wr.iterPos it)
 case atStart => exact ⟨0, _, Nat.zero_le _, HL0.out, rfl⟩
 case round =>
   obtain ⟨pos, y, hpos, HL1, HF1⟩ := hrel
   clear HL0
   by_cases hlt : pos < u.length
   · have hc : u[pos]? = some u[pos] := List.getElem?_eq_getElem hlt
     have hci := HUI.out _ (List.getElem_mem hlt)
     have HF2 : Hid (setF o y u[pos] = (u.take (pos + 1)).foldl (setF o) (headO o)) := by show _ = _; rw [HF1.out]; exact (foldS_take hc).symm
     generalize u[pos] = c at *
     have hnx := fun ty => runS_next (P := Tryz.prog) wr it ⟨u.toArray⟩ pos ty c HL1.out.it_ (by simpa using hc) (by rcases hci with h | h | h | h | h | h | h <;> (rw [h]; decide))
     have HL2 := Lib.hid (HL1.out.next (pos + 1))
     have HM : Hid (u.length - (pos + 1) < u.length - wr.iterPos it) := by show _ < _; rw [iterPos_at HL1.out.it_]; omega
     clear hc HF1 HL1
     generalize putB wr it (.stringIter ⟨u.toArray⟩ (pos + 1)) = W3 at *
     rcases hci with rfl | rfl | rfl | rfl | rfl | rfl | rfl
     · have hcs : W3.cell? ⟨w.heap.size, 3, none⟩ = some (.int .i64 o.n3) := by rw [cell_blk HL2.out.src]; rfl
       go_wp2_with ((with_reducible refine gate_st 3 _ _ rfl ?_); refine wl_st1G rfl 3 sizI1 _ _ rfl (w.heap.size + 2) 3 (.int .i64 o.n3) rfl rfl rfl (opC y) (opC (setF o y 98)) _ HL2.out.dst (by rw [opC_len]; omega) rfl (fun W4 h1 h2 => ?_); have HL3 := Lib.hid (HL2.out.step h1 h2); clear h1 h2; try simp only [Act.put])
       go_roundw
       case rel => exact ⟨pos + 1, _, by omega, HL3.out, HF2.out⟩
       case measure => rw [iterPos_at HL3.out.it_]; exact HM.out
     · have hcs : W3.cell? ⟨w.heap.size, 4, none⟩ = some (.int .i64 o.n4) := by rw [cell_blk HL2.out.src]; rfl
       go_wp2_with ((with_reducible refine gate_st 3 _ _ rfl ?_); refine wl_st1G rfl 3 sizI1 _ _ rfl (w.heap.size + 2) 4 (.int .i64 o.n4) rfl rfl rfl (opC y) (opC (setF o y 116)) _ HL2.out.dst (by rw [opC_len]; omega) rfl (fun W4 h1 h2 => ?_); have HL3 := Lib.hid (HL2.out.step h1 h2); clear h1 h2; try simp only [Act.put])
       go_roundw
       case rel => exact ⟨pos + 1, _, by omega, HL3.out, HF2.out⟩
       case measure => rw [iterPos_at HL3.out.it_]; exact HM.out
     · have hcs : W3.cell? ⟨w.heap.size, 5, none⟩ = some (.int .i64 o.n5) := by rw [cell_blk HL2.out.src]; rfl
       go_wp2_with ((with_reducible refine gate_st 3 _ _ rfl ?_); refine wl_st1G rfl 3 sizI1 _ _ rfl (w.heap.size + 2) 5 (.int .i64 o.n5) rfl rfl rfl (opC y) (opC (setF o y 110)) _ HL2.out.dst (by rw [opC_len]; omega) rfl (fun W4 h1 h2 => ?_); have HL3 := Lib.hid (HL2.out.step h1 h2); clear h1 h2; try simp only [Act.put])
       go_roundw
       case rel => exact ⟨pos + 1, _, by omega, HL3.out, HF2.out⟩
       case measure => rw [iterPos_at HL3.out.it_]; exact HM.out
     · have hcs : W3.cell? ⟨w.heap.size, 6, none⟩ = some (.int .i64 o.n6) := by rw [cell_blk HL2.out.src]; rfl
       go_wp2_with ((with_reducible refine gate_st 3 _ _ rfl ?_); refine wl_st1G rfl 3 sizI1 _ _ rfl (w.heap.size + 2) 6 (.int .i64 o.n6) rfl rfl rfl (opC y) (opC (setF o y 109)) _ HL2.out.dst (by rw [opC_len]; omega) rfl (fun W4 h1 h2 => ?_); have HL3 := Lib.hid (HL2.out.step h1 h2); clear h1 h2; try simp only [Act.put])
       go_roundw
       case rel => exact ⟨pos + 1, _, by omega, HL3.out, HF2.out⟩
       case measure => rw [iterPos_at HL3.out.it_]; exact HM.out
     · have HRr : Hid (W3.rangeAt w.heap.size 7 (bC o.name).toList) := by have := op_name (range_whole (vs := opC o) HL2.out.src); rwa [Nat.zero_add] at this
       go_wp2_with (first
         | ((with_reducible refine gate_ld 24 _ rfl ?_); refine wl_ldr rfl 24 _ rfl w.heap.size 7 (bC o.name).toList _ Tryz.underlying24 rfl (by rw [info23]; simp [bC, o.ln]) rfl HRr.out ?_; try simp only [Array.toArray_toList])
         | ((with_reducible refine gate_st 24 _ _ rfl ?_); refine wl_stR rfl 24 _ _ rfl (w.heap.size + 2) 7 (bC o.name).toList (by rw [info23]; simp [bC, o.ln]) rfl rfl (one_bC _) (opC y) _ HL2.out.dst (by rw [opC_len]; simp [bC, o.ln]) (fun W4 h1 h2 => ?_); have HL3 := Lib.hid (HL2.out.step (y := setF o y 97) (by rw [h1, row_name]; rfl) h2); clear h1 h2; try simp only [Act.put]))
       go_roundw
       case rel => exact ⟨pos + 1, _, by omega, HL3.out, HF2.out⟩
       case measure => rw [iterPos_at HL3.out.it_]; exact HM.out
     · have HRr : Hid (W3.rangeAt w.heap.size 19 (bC o.tag).toList) := by have := op_tag (range_whole (vs := opC o) HL2.out.src); rwa [Nat.zero_add] at this
       go_wp2_with (first
         | ((with_reducible refine gate_ld 28 _ rfl ?_); refine wl_ldr rfl 28 _ rfl w.heap.size 19 (bC o.tag).toList _ Tryz.underlying28 rfl (by rw [sizTag19]; simp [bC, o.lt]) rfl HRr.out ?_; try simp only [Array.toArray_toList])
         | ((with_reducible refine gate_st 28 _ _ rfl ?_); refine wl_stR rfl 28 _ _ rfl (w.heap.size + 2) 19 (bC o.tag).toList (by rw [sizTag19]; simp [bC, o.lt]) rfl rfl (one_bC _) (opC y) _ HL2.out.dst (by rw [opC_len]; simp [bC, o.lt]) (fun W4 h1 h2 => ?_); have HL3 := Lib.hid (HL2.out.step (y := setF o y 103) (by rw [h1, row_tag]; rfl) h2); clear h1 h2; try simp only [Act.put]))
       go_roundw
       case rel => exact ⟨pos + 1, _, by omega, HL3.out, HF2.out⟩
       case measure => rw [iterPos_at HL3.out.it_]; exact HM.out
     · have hcs : W3.cell? ⟨w.heap.size, 29, none⟩ = some (.string o.text) := by rw [cell_blk HL2.out.src, List.getElem?_toArray]; exact opC_text o
       go_wp2_with ((with_reducible refine gate_st 9 _ _ rfl ?_); refine wl_st1G rfl 9 siz9 _ _ rfl (w.heap.size + 2) 29 (.string o.text) rfl rfl rfl (opC y) (opC (setF o y 120)) _ HL2.out.dst (by rw [opC_len]; omega) (opC_set y o.text) (fun W4 h1 h2 => ?_); have HL3 := Lib.hid (HL2.out.step h1 h2); clear h1 h2; try simp only [Act.put])
       go_roundw
       case rel => exact ⟨pos + 1, _, by omega, HL3.out, HF2.out⟩
       case measure => rw [iterPos_at HL3.out.it_]; exact HM.out
   · obtain rfl : pos = u.length := by omega
     have hnx := fun ty => runS_end (P := Tryz.prog) wr it ⟨u.toArray⟩ u.length ty HL1.out.it_ (by rw [hus]; omega)
     have HY : Hid (y = bareO o) := by show _ = _; rw [HF1.out, List.take_of_length_le (Nat.le_refl _), HO.out]
     go_wp2_with (first
       | ((with_reducible refine gate_ld 30 _ rfl ?_); refine wl_ldr rfl 30 _ rfl (w.heap.size + 2) 0 (opC y) _ Tryz.underlying30 rfl (by rw [sizOp, opC_len]) rfl (range_whole HL1.out.dst) ?_)
       | ((with_reducible refine gate_st 30 _ _ rfl ?_); refine wl_str rfl 30 _ _ rfl (w.heap.size + 1) (opC y).toArray (opC zeroO).toArray _ (by rw [sizOp, List.size_toArray, opC_len]) (by rw [List.size_toArray, List.size_toArray, opC_len, opC_len]) (by rw [← Array.all_toList]; exact opC_one _) rfl rfl HL1.out.res ?_))
     refine bodyPost_ret (res_rowc (P := Tryz.prog) (T := 30) (T' := 30) rfl _ _ (w.heap.size + 1) (opC y).toArray (0, 0) rfl (setRow_at HL1.out.res) Tryz.underlying30 rfl (by rw [sizOp, List.size_toArray, opC_len])) rfl ⟨by rw [HY.out], setRow_below HL1.out.bel (Nat.le_succ _) _⟩
end Go.Proofs.YtbfefdedjcppaaaGreatDoor

/- ops.Check, has, check: at a request that is right. -/
namespace Go.Proofs.YtbfefdedjcppaaaGreatDoor
set_option maxRecDepth 100000
set_option maxHeartbeats 4000000
open Go.RowKit
theorem within_any (n m : Int) (h : 0 ≤ n ∧ n ≤ m) (w : World) : Calls Tryz.prog 121 #[.int .i64 n, .int .i64 m] w fun e w' => e = .returned (.bool true) ∧ w' = w := by
 obtain ⟨h1, h2⟩ := h
 go_enter Tryz.func121, Tryz.ntmps121
 go_wp2_with fail
 go_ret
 exact ⟨rfl, rfl⟩
structure NumO (o : OpD) : Prop where
 a0 : 1 ≤ o.n0 ∧ o.n0 ≤ 16
 a1 : 0 ≤ o.n1 ∧ o.n1 ≤ 15
 a2 : 0 ≤ o.n2 ∧ o.n2 ≤ 3
 a3 : 0 ≤ o.n3 ∧ o.n3 ≤ 3
 a4 : 0 ≤ o.n4 ∧ o.n4 ≤ 15
 a5 : 0 ≤ o.n5 ∧ o.n5 ≤ 63
 a6 : 0 ≤ o.n6 ∧ o.n6 ≤ 2
theorem opsCheck_any (o : OpD) (h : NumO o) (w : World) : Calls Tryz.prog 84 #[.agg (opC o).toArray] w fun e w' => e = .returned (.int .i64 0) ∧ Below w.heap.size w w' := by
 have HG := heap_alloc_new w (.cells (opC o).toArray 30)
 have HB := Lib.hid (below_alloc1 w (.cells (opC o).toArray 30))
 obtain ⟨h1, h2⟩ := h.a0
 have K1 := Lib.hid (fun W => within_any o.n1 15 h.a1 W)
 have K2 := Lib.hid (fun W => within_any o.n2 3 h.a2 W)
 have K3 := Lib.hid (fun W => within_any o.n3 3 h.a3 W)
 have K4 := Lib.hid (fun W => within_any o.n4 15 h.a4 W)
 have K5 := Lib.hid (fun W => within_any o.n5 63 h.a5 W)
 have K6 := Lib.hid (fun W => within_any o.n6 2 h.a6 W)
 go_enter Tryz.func84, Tryz.ntmps84
 go_upto_region 1 with fail
 generalize w.alloc (.cells (opC o).toArray 30) = W1 at *
 have c0 : W1.cell? ⟨w.heap.size, 0, none⟩ = some (.int .i64 o.n0) := by rw [cell_blk HG]; rfl
 have c1 : W1.cell? ⟨w.heap.size, 1, none⟩ = some (.int .i64 o.n1) := by rw [cell_blk HG]; rfl
 have c2 : W1.cell? ⟨w.heap.size, 2, none⟩ = some (.int .i64 o.n2) := by rw [cell_blk HG]; rfl
 have c3 : W1.cell? ⟨w.heap.size, 3, none⟩ = some (.int .i64 o.n3) := by rw [cell_blk HG]; rfl
 have c4 : W1.cell? ⟨w.heap.size, 4, none⟩ = some (.int .i64 o.n4) := by rw [cell_blk HG]; rfl
 have c5 : W1.cell? ⟨w.heap.size, 5, none⟩ = some (.int .i64 o.n5) := by rw [cell_blk HG]; rfl
 have c6 : W1.cell? ⟨w.heap.size, 6, none⟩ = some (.int .i64 o.n6) := by rw [cell_blk HG]; rfl
 clear HG
 go_wp2_with (first
   | (go_at_call 121; (with_reducible refine (K1.out _).mono ?_); rintro e W2 ⟨rfl, rfl⟩)
   | (go_at_call 121; (with_reducible refine (K2.out _).mono ?_); rintro e W2 ⟨rfl, rfl⟩)
   | (go_at_call 121; (with_reducible refine (K3.out _).mono ?_); rintro e W2 ⟨rfl, rfl⟩)
   | (go_at_call 121; (with_reducible refine (K4.out _).mono ?_); rintro e W2 ⟨rfl, rfl⟩)
   | (go_at_call 121; (with_reducible refine (K5.out _).mono ?_); rintro e W2 ⟨rfl, rfl⟩)
   | (go_at_call 121; (with_reducible refine (K6.out _).mono ?_); rintro e W2 ⟨rfl, rfl⟩))
 go_ret
 exact ⟨rfl, HB.out⟩
theorem useT_len : ∀ l ∈ useT, l.length ≤ 4 := by decide
theorem uses_len (k : Nat) : (usesL k).length ≤ 4 := by
 unfold usesL
 split
 · simp
 · have hk : k < useT.length := by show k < 17; omega
   rw [List.getD_eq_getElem?_getD, List.getElem?_eq_getElem hk]
   exact useT_len _ (List.getElem_mem hk)
theorem ix_any26 (l : List UInt8) (k : Nat) (hk : k < l.length) (W : World) : (Instr.index 9 (.string ⟨l.toArray⟩) (.int .i64 (k : Int))).run Tryz.prog W = .ok (.int .u8 ((l[k]).toNat : Int)) W := by
 have hs := ba_size l
 simp [go_sem, hk, hs]; rfl
theorem has_any (k : Nat) (c : UInt8) (w : World) : Calls Tryz.prog 85 #[.int .i64 (k : Int), .int .u8 (c.toNat : Int)] w fun e w' => e = .returned (.bool ((usesL k).contains c)) ∧ Below w.heap.size w w' := by
 have KU : Hid (∀ W, Calls Tryz.prog 72 #[.int .i64 (k : Int)] W fun e w' => e = .returned (.string ⟨(usesL k).toArray⟩) ∧ Below W.heap.size W w') := fun W => usesO_any k W
 have hul := uses_len k
 generalize usesL k = u at *
 go_enter Tryz.func85, Tryz.ntmps85
 go_upto_region 2 with (go_at_call 72; (refine (KU.out _).mono ?_); rintro e w5 ⟨rfl, hb5⟩; have HB5 := Lib.hid hb5; clear hb5)
 clear KU
 have hus : (⟨u.toArray⟩ : ByteArray).size = u.length := by show u.toArray.size = _; simp
 obtain ⟨n, hn⟩ : ∃ n, u.length = n := ⟨_, rfl⟩
 rw [hn] at hus
 have hn4 : n ≤ 4 := by omega
 have HN := Lib.hid hn
 clear hn hul
 go_wp2_with fail
 go_loopw [11] (fun i wr => ∃ k : Nat, k ≤ n ∧ i = .int .i64 (k : Int) ∧ wr = w5 ∧ Hid (∀ j (h : j < u.length), j < k → u[j] ≠ c)) (fun i _ => n - (intOf i).toNat)
 case atStart => exact ⟨0, Nat.zero_le _, rfl, rfl, fun j _ h => absurd h (Nat.not_lt_zero _)⟩
 case round =>
   obtain ⟨k, hk, rfl, rfl, HF⟩ := hrel
   by_cases hlt : k < n
   · have hlx : k < u.length := by rw [HN.out]; exact hlt
     have hlt' : (k : Int) < (n : Int) := by omega
     have hix : ∀ W, (Instr.index 9 (.string ⟨u.toArray⟩) (.int .i64 (k : Int))).run Tryz.prog W = .ok (.int .u8 ((u[k]).toNat : Int)) W := fun W => ix_any26 u k hlx W
     have HIn := Lib.hid (List.getElem_mem hlx)
     have HF2 : Hid (u[k] ≠ c → ∀ j (h : j < u.length), j < k + 1 → u[j] ≠ c) := fun hne j h hj => by
       rcases Nat.lt_or_eq_of_le (Nat.le_of_lt_succ hj) with h' | rfl
       · exact HF.out j h h'
       · exact hne
     clear HF
     generalize u[k] = x at *
     by_cases hx : x = c
     · subst hx
       have HC : Hid (u.contains x = true) := by show _ = _; simpa using HIn.out
       go_wp2_with fail
       go_ret
       exact ⟨by rw [HC.out]; rfl, HB5.out⟩
     · have hne : ((x.toNat : Int) == (c.toNat : Int)) = false := by
         have : x.toNat ≠ c.toNat := fun e => hx (UInt8.toNat_inj.1 e)
         rw [beq_eq_false_iff_ne]
         intro e
         exact this (by exact_mod_cast e)
       have HF3 := Lib.hid (HF2.out hx)
       clear HF2 hx
       go_wp2_with fail
       go_roundw
       case rel => exact ⟨k + 1, by omega, by simp, by first | trivial | rfl, HF3.out⟩
       case measure => simp [intOf]; omega
   · obtain rfl : k = n := by omega
     have HC : Hid (u.contains c = false) := by
       show _ = _
       have : c ∉ u := fun h => by
         obtain ⟨j, hj, e⟩ := List.getElem_of_mem h
         exact HF.out j hj (by rw [← HN.out]; exact hj) e
       simpa using this
     clear HF
     go_wp2_with fail
     go_ret
     exact ⟨by rw [HC.out]; rfl, HB5.out⟩
end Go.Proofs.YtbfefdedjcppaaaGreatDoor

/- request.check: at a request that is right. -/
namespace Go.Proofs.YtbfefdedjcppaaaGreatDoor
set_option maxRecDepth 100000
set_option maxHeartbeats 8000000
open Go.RowKit
structure RqD where
 verb : Int
 slot : Int
 n : Int
 op : OpD
 key : List UInt8
 depth : Int
 lk : key.length = 25
def rqC (r : RqD) : List Value := [.int .i64 r.verb, .int .i64 r.slot, .int .i64 r.n] ++ (opC r.op ++ Kx.pC r.key r.depth)
theorem rqC_len (r : RqD) : (rqC r).length = 59 := by simp [rqC, opC_len, Kx.pC_len r.lk]
theorem rqC_one (r : RqD) : (rqC r).all (·.oneCell') = true := by
 simp only [rqC, Kx.pC, List.all_append, opC_one, bC_all, Bool.true_and, Bool.and_true]
 rfl
theorem rqC_depth (r : RqD) : (rqC r)[58]? = some (.int .i64 r.depth) := by
 have h1 := opC_len r.op
 have h2 : (bC r.key).toList.length = 25 := by simp [bC, r.lk]
 unfold rqC Kx.pC
 rw [List.getElem?_append_right (by simp), List.getElem?_append_right (by simp [h1]), List.getElem?_append_right (by simp [h1, h2])]
 simp [h1, h2]
theorem rq_op {w : World} {b : Nat} {r : RqD} (h : w.rangeAt b 0 (rqC r)) : w.rangeAt b 3 (opC r.op) := by
 have := range_app_left (range_app_right h 3 rfl)
 rwa [Nat.zero_add] at this
theorem rq_pre {w : World} {b : Nat} {r : RqD} (h : w.rangeAt b 0 (rqC r)) : w.rangeAt b 33 (Kx.pC r.key r.depth) := by
 have := range_app_right (range_app_right h 3 rfl) 30 (opC_len _)
 rwa [Nat.zero_add] at this
theorem sizRq : (Tryz.prog.info? 36).map (·.size) = some 59 := by kernel_rfl
structure OkO (o : OpD) : Prop where
 num : NumO o
 nm : (usesL o.n0.toNat).contains 97 = true → rightB o.name = true
 tg : (usesL o.n0.toNat).contains 103 = true → rightT o.tag = true
 tx : o.text.size ≤ 1200
structure OkQ (r : RqD) : Prop where
 v : 1 ≤ r.verb ∧ r.verb ≤ 10
 n : 0 ≤ r.n ∧ r.n ≤ 63
 s : 0 ≤ r.slot ∧ r.slot ≤ 1
 d : 0 ≤ r.depth ∧ r.depth ≤ 5
 o : r.verb = 1 ∨ r.verb = 10 → OkO r.op
theorem chk_any (r : RqD) (h : OkQ r) (w : World) (hmx : MX w) : Calls Tryz.prog 40 #[.agg (rqC r).toArray] w fun e w' => e = .returned (.int .i64 0) ∧ Below w.heap.size w w' := by
 have HG := Lib.hid (heap_alloc_new w (.cells (rqC r).toArray 36))
 have HB := Lib.hid (below_alloc1 w (.cells (rqC r).toArray 36))
 have HM := Lib.hid (hmx.below HB.out)
 have HO := Lib.hid h.o
 obtain ⟨h1, h2⟩ := h.v
 obtain ⟨h3, h4⟩ := h.n
 obtain ⟨h5, h6⟩ := h.s
 obtain ⟨h7, h8⟩ := h.d
 clear h hmx
 have c0 : (w.alloc (.cells (rqC r).toArray 36)).cell? ⟨w.heap.size, 0, none⟩ = some (.int .i64 r.verb) := by rw [cell_blk HG.out]; rfl
 have c1 : (w.alloc (.cells (rqC r).toArray 36)).cell? ⟨w.heap.size, 1, none⟩ = some (.int .i64 r.slot) := by rw [cell_blk HG.out]; rfl
 have c2 : (w.alloc (.cells (rqC r).toArray 36)).cell? ⟨w.heap.size, 2, none⟩ = some (.int .i64 r.n) := by rw [cell_blk HG.out]; rfl
 have c58 : (w.alloc (.cells (rqC r).toArray 36)).cell? ⟨w.heap.size, 58, none⟩ = some (.int .i64 r.depth) := by rw [cell_blk HG.out, List.getElem?_toArray]; exact rqC_depth r
 have f1 : ¬ r.verb < 1 := by omega
 have f2 : ¬ 10 < r.verb := by omega
 have f3 : ¬ r.n < 0 := by omega
 have f4 : ¬ 63 < r.n := by omega
 have f5 : ¬ r.slot < 0 := by omega
 have f6 : ¬ 1 < r.slot := by omega
 have f7 : ¬ r.depth < 0 := by omega
 have f8 : ¬ 5 < r.depth := by omega
 by_cases hv : r.verb = 1 ∨ r.verb = 10
 · have HOk := Lib.hid (HO.out hv)
   have HRo := Lib.hid (rq_op (range_whole HG.out))
   have hlt := lt_heap HG.out
   obtain ⟨k, hkk⟩ : ∃ k : Nat, r.op.n0 = (k : Int) := ⟨r.op.n0.toNat, by have := HOk.out.num.a0; omega⟩
   have hkn : r.op.n0.toNat = k := by omega
   have HNm := Lib.hid HOk.out.nm
   have HTg := Lib.hid HOk.out.tg
   rw [hkn] at HNm HTg
   have HTx := Lib.hid HOk.out.tx
   have HKk := Lib.hid hkk
   have KH1 : Hid (∀ W, Calls Tryz.prog 85 #[.int .i64 (k : Int), .int .u8 97] W fun e w' => e = .returned (.bool ((usesL k).contains 97)) ∧ Below W.heap.size W w') := fun W => has_any k 97 W
   have KH2 : Hid (∀ W, Calls Tryz.prog 85 #[.int .i64 (k : Int), .int .u8 103] W fun e w' => e = .returned (.bool ((usesL k).contains 103)) ∧ Below W.heap.size W w') := fun W => has_any k 103 W
   have KR1 : Hid ((usesL k).contains 97 = true → ∀ W, Calls Tryz.prog 86 #[.agg (bC r.op.name)] W fun e w' => e = .returned (.bool true) ∧ Below W.heap.size W w') := fun h W => HNm.out h ▸ right_any r.op.name W r.op.ln
   have KR2 : Hid ((usesL k).contains 103 = true → ∀ W, MX W → Calls Tryz.prog 57 #[.agg (bC r.op.tag)] W fun e w' => e = .returned (.bool true) ∧ Below W.heap.size W w') := fun h W hm => HTg.out h ▸ right_any5 r.op.tag W r.op.lt hm
   clear HO hkk hkn HNm HTg
   generalize (usesL k).contains 97 = b1 at *
   generalize (usesL k).contains 103 = b2 at *
   have htx : ¬ (1200 : Int) < (r.op.text.size : Int) := by have := HTx.out; omega
   have step : ∀ v : Int, r.verb = v → v = 1 ∨ v = 10 → Calls Tryz.prog 40 #[.agg (rqC r).toArray] w fun e w' => e = .returned (.int .i64 0) ∧ Below w.heap.size w w' := by
     intro v hve hv'
     rw [hve] at c0
     clear hve hv f1 f2 h1 h2
     rcases hv' with rfl | rfl
     · go_enter Tryz.func40, Tryz.ntmps40
       go_upto_region 7 with fail
       generalize w.alloc (.cells (rqC r).toArray 36) = W1 at *
       go_upto_region 8 with (first
         | ((with_reducible refine gate_ld 30 _ rfl ?_); refine wl_ldr rfl 30 _ rfl w.heap.size 3 (opC r.op) _ Tryz.underlying30 rfl (by rw [sizOp, opC_len]) rfl HRo.out ?_)
         | ((with_reducible refine gate_st 30 _ _ rfl ?_); refine wl_strn rfl _ _ _ rfl (opC r.op).toArray #[Value.int IntKind.i64 0, Value.int IntKind.i64 0, Value.int IntKind.i64 0, Value.int IntKind.i64 0, Value.int IntKind.i64 0, Value.int IntKind.i64 0, Value.int IntKind.i64 0, Value.int IntKind.u8 0, Value.int IntKind.u8 0, Value.int IntKind.u8 0, Value.int IntKind.u8 0, Value.int IntKind.u8 0, Value.int IntKind.u8 0, Value.int IntKind.u8 0, Value.int IntKind.u8 0, Value.int IntKind.u8 0, Value.int IntKind.u8 0, Value.int IntKind.u8 0, Value.int IntKind.u8 0, Value.int IntKind.u8 0, Value.int IntKind.u8 0, Value.int IntKind.u8 0, Value.int IntKind.u8 0, Value.int IntKind.u8 0, Value.int IntKind.u8 0, Value.int IntKind.u8 0, Value.int IntKind.u8 0, Value.int IntKind.u8 0, Value.int IntKind.u8 0, Value.string ⟨#[]⟩] _ (by rw [sizOp, List.size_toArray, opC_len]) (by rw [List.size_toArray, opC_len]; rfl) (by rw [← Array.all_toList]; exact opC_one _) (by simp [Act.eval]) rfl ?_))
       have HA : Hid ((W1.alloc (.cells (opC r.op).toArray 30)).heap[W1.heap.size]? = some (.cells (opC r.op).toArray 30 (0, 0))) := heap_alloc_new _ _
       have HB2 := Lib.hid (HB.out.trans ((below_alloc1 W1 (.cells (opC r.op).toArray 30)).mono HB.out.size))
       have HM2 := Lib.hid (HM.out.below (below_alloc1 W1 (.cells (opC r.op).toArray 30)))
       clear HG HB HM HRo c0 c1 c2 c58 hlt
       generalize W1.alloc (.cells (opC r.op).toArray 30) = W2 at *
       generalize W1.heap.size = g at *
       go_upto_region 9 with (first
         | ((with_reducible refine gate_ld 30 _ rfl ?_); refine wl_ldr rfl 30 _ rfl g 0 (opC r.op) _ Tryz.underlying30 rfl (by rw [sizOp, opC_len]) rfl (range_whole HA.out) ?_)
         | (go_at_call 84; (refine (opsCheck_any r.op HOk.out.num _).mono ?_); rintro e W3 ⟨rfl, hb3⟩; have HB3 := Lib.hid hb3; clear hb3))
       have HA3 := Lib.hid ((HB3.out.block _ (lt_heap HA.out)).trans HA.out)
       have HM3 := Lib.hid (HM2.out.below HB3.out)
       have HB4 := Lib.hid (HB2.out.trans (HB3.out.mono HB2.out.size))
       clear HA HB3 HM2 HB2
       have HRn : Hid (W3.rangeAt g 7 (bC r.op.name).toList) := by have := op_name (range_whole (vs := opC r.op) HA3.out); rwa [Nat.zero_add] at this
       have HRt : Hid (W3.rangeAt g 19 (bC r.op.tag).toList) := by have := op_tag (range_whole (vs := opC r.op) HA3.out); rwa [Nat.zero_add] at this
       have ck : W3.cell? ⟨g, 0, none⟩ = some (.int .i64 (k : Int)) := by rw [cell_blk HA3.out, ← HKk.out]; rfl
       cases b1 <;> cases b2
       all_goals
         go_upto_region 13 with (first
           | (go_at_call 85; (refine (KH1.out _).mono ?_); rintro e W4 ⟨rfl, hb4⟩; have HB5 := Lib.hid hb4; clear hb4; have HRn4 := Lib.hid (range_of_block HRn.out (HB5.out.block _ (lt_heap HA3.out))); have HA4 := Lib.hid ((HB5.out.block _ (lt_heap HA3.out)).trans HA3.out))
           | ((with_reducible refine gate_ld 24 _ rfl ?_); refine wl_ldr rfl 24 _ rfl g 7 (bC r.op.name).toList _ Tryz.underlying24 rfl (by rw [info23]; simp [bC, r.op.ln]) rfl HRn4.out ?_; try simp only [Array.toArray_toList])
           | (go_at_call 86; (refine (KR1.out (by trivial) _).mono ?_); rintro e W5 ⟨rfl, hb5⟩; have HB6 := Lib.hid hb5; clear hb5))
         first
           | (have HX := Lib.hid (HB5.out.trans (HB6.out.mono HB5.out.size)); clear HB5 HB6)
           | (have HX := HB5; clear HB5)
         have HA5 := Lib.hid ((HX.out.block _ (lt_heap HA3.out)).trans HA3.out)
         have HRt5 := Lib.hid (range_of_block HRt.out (HX.out.block _ (lt_heap HA3.out)))
         have HM5 := Lib.hid (HM3.out.below HX.out)
         have ck5 := (cell_of (HX.out.block _ (lt_heap HA3.out)) 0).trans ck
         have HBx := Lib.hid (HB4.out.trans (HX.out.mono HB4.out.size))
         clear HRn4 HA4 HX ck
         go_upto_region 15 with (first
           | (go_at_call 85; (refine (KH2.out _).mono ?_); rintro e W6 ⟨rfl, hb4⟩; have HB7 := Lib.hid hb4; clear hb4; have HRt6 := Lib.hid (range_of_block HRt5.out (HB7.out.block _ (lt_heap HA5.out))); have HM6 := Lib.hid (HM5.out.below HB7.out))
           | ((with_reducible refine gate_ld 28 _ rfl ?_); refine wl_ldr rfl 28 _ rfl g 19 (bC r.op.tag).toList _ Tryz.underlying28 rfl (by rw [sizTag19]; simp [bC, r.op.lt]) rfl HRt6.out ?_; try simp only [Array.toArray_toList])
           | (go_at_call 57; (refine (KR2.out (by trivial) _ HM6.out).mono ?_); rintro e W7 ⟨rfl, hb5⟩; have HB8 := Lib.hid hb5; clear hb5))
         first
           | (have HX := Lib.hid (HB7.out.trans (HB8.out.mono HB7.out.size)); clear HB7 HB8)
           | (have HX := HB7; clear HB7)
         have HA7 := Lib.hid ((HX.out.block _ (lt_heap HA5.out)).trans HA5.out)
         have HBy := Lib.hid (HBx.out.trans (HX.out.mono HBx.out.size))
         have c29 : _ = some (Value.string r.op.text) := (cell_blk HA7.out 29).trans (by rw [List.getElem?_toArray]; exact opC_text r.op)
         clear HX
         go_wp2_with fail
         go_ret
         exact ⟨rfl, HBy.out⟩
     · go_enter Tryz.func40, Tryz.ntmps40
       go_upto_region 7 with fail
       generalize w.alloc (.cells (rqC r).toArray 36) = W1 at *
       go_upto_region 8 with (first
         | ((with_reducible refine gate_ld 30 _ rfl ?_); refine wl_ldr rfl 30 _ rfl w.heap.size 3 (opC r.op) _ Tryz.underlying30 rfl (by rw [sizOp, opC_len]) rfl HRo.out ?_)
         | ((with_reducible refine gate_st 30 _ _ rfl ?_); refine wl_strn rfl _ _ _ rfl (opC r.op).toArray #[Value.int IntKind.i64 0, Value.int IntKind.i64 0, Value.int IntKind.i64 0, Value.int IntKind.i64 0, Value.int IntKind.i64 0, Value.int IntKind.i64 0, Value.int IntKind.i64 0, Value.int IntKind.u8 0, Value.int IntKind.u8 0, Value.int IntKind.u8 0, Value.int IntKind.u8 0, Value.int IntKind.u8 0, Value.int IntKind.u8 0, Value.int IntKind.u8 0, Value.int IntKind.u8 0, Value.int IntKind.u8 0, Value.int IntKind.u8 0, Value.int IntKind.u8 0, Value.int IntKind.u8 0, Value.int IntKind.u8 0, Value.int IntKind.u8 0, Value.int IntKind.u8 0, Value.int IntKind.u8 0, Value.int IntKind.u8 0, Value.int IntKind.u8 0, Value.int IntKind.u8 0, Value.int IntKind.u8 0, Value.int IntKind.u8 0, Value.int IntKind.u8 0, Value.string ⟨#[]⟩] _ (by rw [sizOp, List.size_toArray, opC_len]) (by rw [List.size_toArray, opC_len]; rfl) (by rw [← Array.all_toList]; exact opC_one _) (by simp [Act.eval]) rfl ?_))
       have HA : Hid ((W1.alloc (.cells (opC r.op).toArray 30)).heap[W1.heap.size]? = some (.cells (opC r.op).toArray 30 (0, 0))) := heap_alloc_new _ _
       have HB2 := Lib.hid (HB.out.trans ((below_alloc1 W1 (.cells (opC r.op).toArray 30)).mono HB.out.size))
       have HM2 := Lib.hid (HM.out.below (below_alloc1 W1 (.cells (opC r.op).toArray 30)))
       clear HG HB HM HRo c0 c1 c2 c58 hlt
       generalize W1.alloc (.cells (opC r.op).toArray 30) = W2 at *
       generalize W1.heap.size = g at *
       go_upto_region 9 with (first
         | ((with_reducible refine gate_ld 30 _ rfl ?_); refine wl_ldr rfl 30 _ rfl g 0 (opC r.op) _ Tryz.underlying30 rfl (by rw [sizOp, opC_len]) rfl (range_whole HA.out) ?_)
         | (go_at_call 84; (refine (opsCheck_any r.op HOk.out.num _).mono ?_); rintro e W3 ⟨rfl, hb3⟩; have HB3 := Lib.hid hb3; clear hb3))
       have HA3 := Lib.hid ((HB3.out.block _ (lt_heap HA.out)).trans HA.out)
       have HM3 := Lib.hid (HM2.out.below HB3.out)
       have HB4 := Lib.hid (HB2.out.trans (HB3.out.mono HB2.out.size))
       clear HA HB3 HM2 HB2
       have HRn : Hid (W3.rangeAt g 7 (bC r.op.name).toList) := by have := op_name (range_whole (vs := opC r.op) HA3.out); rwa [Nat.zero_add] at this
       have HRt : Hid (W3.rangeAt g 19 (bC r.op.tag).toList) := by have := op_tag (range_whole (vs := opC r.op) HA3.out); rwa [Nat.zero_add] at this
       have ck : W3.cell? ⟨g, 0, none⟩ = some (.int .i64 (k : Int)) := by rw [cell_blk HA3.out, ← HKk.out]; rfl
       cases b1 <;> cases b2
       all_goals
         go_upto_region 13 with (first
           | (go_at_call 85; (refine (KH1.out _).mono ?_); rintro e W4 ⟨rfl, hb4⟩; have HB5 := Lib.hid hb4; clear hb4; have HRn4 := Lib.hid (range_of_block HRn.out (HB5.out.block _ (lt_heap HA3.out))); have HA4 := Lib.hid ((HB5.out.block _ (lt_heap HA3.out)).trans HA3.out))
           | ((with_reducible refine gate_ld 24 _ rfl ?_); refine wl_ldr rfl 24 _ rfl g 7 (bC r.op.name).toList _ Tryz.underlying24 rfl (by rw [info23]; simp [bC, r.op.ln]) rfl HRn4.out ?_; try simp only [Array.toArray_toList])
           | (go_at_call 86; (refine (KR1.out (by trivial) _).mono ?_); rintro e W5 ⟨rfl, hb5⟩; have HB6 := Lib.hid hb5; clear hb5))
         first
           | (have HX := Lib.hid (HB5.out.trans (HB6.out.mono HB5.out.size)); clear HB5 HB6)
           | (have HX := HB5; clear HB5)
         have HA5 := Lib.hid ((HX.out.block _ (lt_heap HA3.out)).trans HA3.out)
         have HRt5 := Lib.hid (range_of_block HRt.out (HX.out.block _ (lt_heap HA3.out)))
         have HM5 := Lib.hid (HM3.out.below HX.out)
         have ck5 := (cell_of (HX.out.block _ (lt_heap HA3.out)) 0).trans ck
         have HBx := Lib.hid (HB4.out.trans (HX.out.mono HB4.out.size))
         clear HRn4 HA4 HX ck
         go_upto_region 15 with (first
           | (go_at_call 85; (refine (KH2.out _).mono ?_); rintro e W6 ⟨rfl, hb4⟩; have HB7 := Lib.hid hb4; clear hb4; have HRt6 := Lib.hid (range_of_block HRt5.out (HB7.out.block _ (lt_heap HA5.out))); have HM6 := Lib.hid (HM5.out.below HB7.out))
           | ((with_reducible refine gate_ld 28 _ rfl ?_); refine wl_ldr rfl 28 _ rfl g 19 (bC r.op.tag).toList _ Tryz.underlying28 rfl (by rw [sizTag19]; simp [bC, r.op.lt]) rfl HRt6.out ?_; try simp only [Array.toArray_toList])
           | (go_at_call 57; (refine (KR2.out (by trivial) _ HM6.out).mono ?_); rintro e W7 ⟨rfl, hb5⟩; have HB8 := Lib.hid hb5; clear hb5))
         first
           | (have HX := Lib.hid (HB7.out.trans (HB8.out.mono HB7.out.size)); clear HB7 HB8)
           | (have HX := HB7; clear HB7)
         have HA7 := Lib.hid ((HX.out.block _ (lt_heap HA5.out)).trans HA5.out)
         have HBy := Lib.hid (HBx.out.trans (HX.out.mono HBx.out.size))
         have c29 : _ = some (Value.string r.op.text) := (cell_blk HA7.out 29).trans (by rw [List.getElem?_toArray]; exact opC_text r.op)
         clear HX
         go_wp2_with fail
         go_ret
         exact ⟨rfl, HBy.out⟩
   exact step r.verb rfl hv
 · have hv1 : (r.verb != 1) = true := by simp; omega
   have hv2 : (r.verb != 10) = true := by simp; omega
   clear hv
   go_enter Tryz.func40, Tryz.ntmps40
   go_wp2_with fail
   go_ret
   exact ⟨rfl, HB.out⟩
end Go.Proofs.YtbfefdedjcppaaaGreatDoor

/- request.Bare. -/
namespace Go.Proofs.YtbfefdedjcppaaaGreatDoor
set_option maxRecDepth 100000
set_option maxHeartbeats 8000000
open Go.RowKit
def headQ (r : RqD) : RqD := ⟨r.verb, 0, 0, zeroO, z25, 0, rfl⟩
def zeroQ : RqD := ⟨0, 0, 0, zeroO, z25, 0, rfl⟩
def setQ (r x : RqD) (c : UInt8) : RqD :=
 if c = 111 then { x with op := bareO r.op } else if c = 112 then { x with key := prefK (Kx.preB r.key r.depth), depth := r.depth, lk := prefK_len _ } else if c = 110 then { x with n := r.n } else { x with slot := r.slot }
def bareQ (r : RqD) : RqD := (usesV r.verb.toNat).foldl (setQ r) (headQ r)
theorem builtHeadQ (v : Int) : Tryz.prog.built 36 [(0, .int .i64 v)] = some (rqC ⟨v, 0, 0, zeroO, z25, 0, rfl⟩).toArray := by kernel_rfl
theorem row_op (x : RqD) (o : OpD) : RowIn (rqC x) 3 (opC o) = rqC { x with op := o } := by
 have h1 := opC_len o
 have h2 := opC_len x.op
 unfold RowIn rqC
 rw [List.take_left' (by rfl), h1, List.drop_append, List.drop_eq_nil_of_le (by simp), List.nil_append, show 3 + 30 - [Value.int .i64 x.verb, .int .i64 x.slot, .int .i64 x.n].length = 30 from rfl, List.drop_left' h2]
 simp
theorem row_pre (x : RqD) (k : List UInt8) (d : Int) (hk : k.length = 25) : RowIn (rqC x) 33 (Kx.pC k d) = rqC { x with key := k, depth := d, lk := hk } := by
 have h1 := Kx.pC_len hk d
 have h2 := opC_len x.op
 have h3 := Kx.pC_len x.lk x.depth
 have e : rqC x = ([.int .i64 x.verb, .int .i64 x.slot, .int .i64 x.n] ++ opC x.op) ++ Kx.pC x.key x.depth := by simp [rqC]
 unfold RowIn
 rw [e, List.take_left' (by simp [h2]), h1, List.drop_eq_nil_of_le (by simp [h2, h3]), List.append_nil]
 simp [rqC]
structure BqSt (w W : World) (it : Nat) (r x : RqD) (u : ByteArray) (pos : Nat) : Prop where
 bel : Below w.heap.size w W
 src : W.heap[w.heap.size]? = some (.cells (rqC r).toArray 36 (0, 0))
 res : W.heap[w.heap.size + 1]? = some (.cells (rqC zeroQ).toArray 36 (0, 0))
 dst : W.heap[w.heap.size + 2]? = some (.cells (rqC x).toArray 36 (0, 0))
 it_ : W.heap[it]? = some (.stringIter u pos)
 up : w.heap.size + 2 < it
theorem BqSt.step {w W W' : World} {it pos : Nat} {o x y : RqD} {u : ByteArray} (h : BqSt w W it o x u pos) (hd : W'.heap[w.heap.size + 2]? = some (.cells (rqC y).toArray 36 (0, 0))) (ht : Turn [w.heap.size + 2] W W') : BqSt w W' it o y u pos := by
 have hu := h.up
 have hk : ∀ k, k < W.heap.size → k ≠ w.heap.size + 2 → W'.heap[k]? = W.heap[k]? := fun k a b => ht.block k a (by simpa using b)
 exact ⟨h.bel.trans (ht.below (fun k hk => by simp at hk; omega) h.bel.size), (hk _ (lt_heap h.src) (by omega)).trans h.src, (hk _ (lt_heap h.res) (by omega)).trans h.res, hd, (hk _ (lt_heap h.it_) (by omega)).trans h.it_, h.up⟩
theorem BqSt.next {w W : World} {it pos : Nat} {o x : RqD} {u : ByteArray} (h : BqSt w W it o x u pos) (p : Nat) : BqSt w (putB W it (.stringIter u p)) it o x u p := by
 have hu := h.up
 have hk : ∀ k, k ≠ it → (putB W it (.stringIter u p)).heap[k]? = W.heap[k]? := fun k hk => putB_other _ _ _ _ hk
 exact ⟨putB_below h.bel _ _ (by omega), (hk _ (by omega)).trans h.src, (hk _ (by omega)).trans h.res, (hk _ (by omega)).trans h.dst, putB_same _ _ _ _ h.it_, h.up⟩
theorem BqSt.below {w W W' : World} {it pos : Nat} {o x : RqD} {u : ByteArray} (h : BqSt w W it o x u pos) (hb : Below W.heap.size W W') : BqSt w W' it o x u pos :=
 ⟨h.bel.trans (hb.mono h.bel.size), (hb.block _ (lt_heap h.src)).trans h.src, (hb.block _ (lt_heap h.res)).trans h.res, (hb.block _ (lt_heap h.dst)).trans h.dst, (hb.block _ (lt_heap h.it_)).trans h.it_, h.up⟩
theorem foldQ_take {o x : RqD} {u : List UInt8} {pos : Nat} {c : UInt8} (hc : u[pos]? = some c) : (u.take (pos + 1)).foldl (setQ o) x = setQ o ((u.take pos).foldl (setQ o) x) c := by
 have h := (List.getElem?_eq_some_iff.1 hc).1
 rw [List.take_succ_eq_append_getElem h, List.foldl_append, (List.getElem?_eq_some_iff.1 hc).2]; rfl
theorem one_op (o : OpD) : ∀ v ∈ opC o, v.oneCell' = true := fun v hv => List.all_eq_true.1 (opC_one o) v hv
theorem one_pre (k : List UInt8) (d : Int) : ∀ v ∈ Kx.pC k d, v.oneCell' = true := fun v hv => List.all_eq_true.1 (by have := pC_one k d; rwa [← Array.all_toList] at this) v hv
theorem bareQ_any (r : RqD) (w : World) (hv0 : 0 ≤ r.verb) (hk : 0 ≤ r.op.n0) : Calls Tryz.prog 39 #[.agg (rqC r).toArray] w fun e w' => e = .returned (.agg (rqC (bareQ r)).toArray) ∧ Below w.heap.size w w' := by
 obtain ⟨k, hkk⟩ : ∃ k : Nat, r.verb = (k : Int) := ⟨r.verb.toNat, by omega⟩
 have hkn : r.verb.toNat = k := by omega
 have HO : Hid (bareQ r = (usesV k).foldl (setQ r) (headQ r)) := by show _ = _; unfold bareQ; rw [hkn]
 have HKk := Lib.hid hkk
 clear hkk hkn
 have HG0 : Hid (((w.alloc (.cells (rqC r).toArray 36)).alloc (.cells (rqC zeroQ).toArray 36)).heap[w.heap.size]? = some (.cells (rqC r).toArray 36 (0, 0))) := heap_alloc2_old _ _ _
 have HG1 : Hid (((w.alloc (.cells (rqC r).toArray 36)).alloc (.cells (rqC zeroQ).toArray 36)).heap[w.heap.size + 1]? = some (.cells (rqC zeroQ).toArray 36 (0, 0))) := heap_alloc2_new _ _ _
 have HB1 : Hid (Below w.heap.size w ((w.alloc (.cells (rqC r).toArray 36)).alloc (.cells (rqC zeroQ).toArray 36))) := below_alloc2 _ _ _
 have HSz : Hid (((w.alloc (.cells (rqC r).toArray 36)).alloc (.cells (rqC zeroQ).toArray 36)).heap.size = w.heap.size + 2) := by show _ = _; simp
 go_enter Tryz.func39, Tryz.ntmps39
 go_upto_region 1 with fail
 rw [show (Obj.cells #[Value.int .i64 0, .int .i64 0, .int .i64 0, .int .i64 0, .int .i64 0, .int .i64 0, .int .i64 0, .int .i64 0, .int .i64 0, .int .i64 0, .int .u8 0, .int .u8 0, .int .u8 0, .int .u8 0, .int .u8 0, .int .u8 0, .int .u8 0, .int .u8 0, .int .u8 0, .int .u8 0, .int .u8 0, .int .u8 0, .int .u8 0, .int .u8 0, .int .u8 0, .int .u8 0, .int .u8 0, .int .u8 0, .int .u8 0, .int .u8 0, .int .u8 0, .int .u8 0, Value.string ⟨#[]⟩, .int .u8 0, .int .u8 0, .int .u8 0, .int .u8 0, .int .u8 0, .int .u8 0, .int .u8 0, .int .u8 0, .int .u8 0, .int .u8 0, .int .u8 0, .int .u8 0, .int .u8 0, .int .u8 0, .int .u8 0, .int .u8 0, .int .u8 0, .int .u8 0, .int .u8 0, .int .u8 0, .int .u8 0, .int .u8 0, .int .u8 0, .int .u8 0, .int .u8 0, .int .i64 0] 36) = Obj.cells (rqC zeroQ).toArray 36 from rfl]
 generalize (w.alloc (.cells (rqC r).toArray 36)).alloc (.cells (rqC zeroQ).toArray 36) = W1 at *
 have c0 : W1.cell? ⟨w.heap.size, 0, none⟩ = some (.int .i64 r.verb) := by rw [cell_blk HG0.out]; rfl
 go_upto_region 2 with (first
   | ((with_reducible refine gate_bd 36 _ rfl ?_); refine wl_bd rfl _ [(0, .tmp 7)] rfl [(0, .int .i64 r.verb)] rfl (rqC (headQ r)).toArray (builtHeadQ r.verb) ?_)
   | ((with_reducible refine gate_st 36 _ _ rfl ?_); refine wl_strn rfl _ _ _ rfl (rqC (headQ r)).toArray #[Value.int IntKind.i64 0, Value.int IntKind.i64 0, Value.int IntKind.i64 0, Value.int IntKind.i64 0, Value.int IntKind.i64 0, Value.int IntKind.i64 0, Value.int IntKind.i64 0, Value.int IntKind.i64 0, Value.int IntKind.i64 0, Value.int IntKind.i64 0, Value.int IntKind.u8 0, Value.int IntKind.u8 0, Value.int IntKind.u8 0, Value.int IntKind.u8 0, Value.int IntKind.u8 0, Value.int IntKind.u8 0, Value.int IntKind.u8 0, Value.int IntKind.u8 0, Value.int IntKind.u8 0, Value.int IntKind.u8 0, Value.int IntKind.u8 0, Value.int IntKind.u8 0, Value.int IntKind.u8 0, Value.int IntKind.u8 0, Value.int IntKind.u8 0, Value.int IntKind.u8 0, Value.int IntKind.u8 0, Value.int IntKind.u8 0, Value.int IntKind.u8 0, Value.int IntKind.u8 0, Value.int IntKind.u8 0, Value.int IntKind.u8 0, Value.string ⟨#[]⟩, Value.int IntKind.u8 0, Value.int IntKind.u8 0, Value.int IntKind.u8 0, Value.int IntKind.u8 0, Value.int IntKind.u8 0, Value.int IntKind.u8 0, Value.int IntKind.u8 0, Value.int IntKind.u8 0, Value.int IntKind.u8 0, Value.int IntKind.u8 0, Value.int IntKind.u8 0, Value.int IntKind.u8 0, Value.int IntKind.u8 0, Value.int IntKind.u8 0, Value.int IntKind.u8 0, Value.int IntKind.u8 0, Value.int IntKind.u8 0, Value.int IntKind.u8 0, Value.int IntKind.u8 0, Value.int IntKind.u8 0, Value.int IntKind.u8 0, Value.int IntKind.u8 0, Value.int IntKind.u8 0, Value.int IntKind.u8 0, Value.int IntKind.u8 0, Value.int IntKind.i64 0] _ (by rw [sizRq, List.size_toArray, rqC_len]) (by rw [List.size_toArray, rqC_len]; rfl) (by rw [← Array.all_toList]; exact rqC_one _) (by simp [Act.eval]) rfl ?_))
 have HS0 : Hid (W1.heap.size = w.heap.size + 2) := HSz
 have HA : Hid ((W1.alloc (.cells (rqC (headQ r)).toArray 36)).heap[W1.heap.size]? = some (.cells (rqC (headQ r)).toArray 36 (0, 0))) := heap_alloc_new _ _
 have hbx := below_alloc1 W1 (.cells (rqC (headQ r)).toArray 36)
 have HG0' := Lib.hid ((hbx.block _ (lt_heap HG0.out)).trans HG0.out)
 have HG1' := Lib.hid ((hbx.block _ (lt_heap HG1.out)).trans HG1.out)
 have HB2 := Lib.hid (HB1.out.trans (hbx.mono HB1.out.size))
 clear c0 hbx HG0 HG1 HB1 HSz
 generalize W1.alloc (.cells (rqC (headQ r)).toArray 36) = W2 at *
 rw [HS0.out] at HA ⊢
 have hck : W2.cell? ⟨w.heap.size, 0, none⟩ = some (.int .i64 (k : Int)) := by rw [cell_blk HG0'.out, ← HKk.out]; rfl
 have KU : Hid (∀ W, Calls Tryz.prog 24 #[.int .i64 (k : Int)] W fun e w' => e = .returned (.string ⟨(usesV k).toArray⟩) ∧ W = w') := fun W => usesV_any k W
 go_wp2_with (go_at_call 24; (refine (KU.out _).mono ?_); rintro e w5 ⟨rfl, rfl⟩)
 have HL0 : Hid (BqSt w (W2.iter ⟨(usesV k).toArray⟩ 0) W2.heap.size r (headQ r) ⟨(usesV k).toArray⟩ 0) := by
   have hb3 : Below W2.heap.size W2 (W2.iter ⟨(usesV k).toArray⟩ 0) := (Below.refl _ _).alloc (Nat.le_refl _) _
   have h1 := lt_heap HA.out
   exact ⟨HB2.out.trans (hb3.mono HB2.out.size), (hb3.block _ (lt_heap HG0'.out)).trans HG0'.out, (hb3.block _ (lt_heap HG1'.out)).trans HG1'.out, (hb3.block _ h1).trans HA.out, World.iter_heap _ _ _, by omega⟩
 have HUI := Lib.hid (usesV_in k)
 clear HA HG0' HG1' HB2 KU hck
 generalize usesV k = u at *
 generalize W2.iter ⟨u.toArray⟩ 0 = W5 at *
 generalize W2.heap.size = it at *
 have hus : (⟨u.toArray⟩ : ByteArray).size = u.length := by show u.toArray.size = _; simp
 go_loopw [5] (fun _ wr => ∃ (pos : Nat) (y : RqD), pos ≤ u.length ∧ Hid (BqSt w wr it r y ⟨u.toArray⟩ pos) ∧ Hid (y = (u.take pos).foldl (setQ r) (headQ r))) (fun _ wr => u.length - wr.iterPos it)
 case atStart => exact ⟨0, _, Nat.zero_le _, HL0.out, rfl⟩
 case round =>
   obtain ⟨pos, y, hpos, HL1, HF1⟩ := hrel
   clear HL0
   by_cases hlt : pos < u.length
   · have hc : u[pos]? = some u[pos] := List.getElem?_eq_getElem hlt
     have hci := HUI.out _ (List.getElem_mem hlt)
     have HF2 : Hid (setQ r y u[pos] = (u.take (pos + 1)).foldl (setQ r) (headQ r)) := by show _ = _; rw [HF1.out]; exact (foldQ_take hc).symm
     generalize u[pos] = c at *
     have hnx := fun ty => runS_next (P := Tryz.prog) wr it ⟨u.toArray⟩ pos ty c HL1.out.it_ (by simpa using hc) (by rcases hci with h | h | h | h <;> (rw [h]; decide))
     have HL2 := Lib.hid (HL1.out.next (pos + 1))
     have HM : Hid (u.length - (pos + 1) < u.length - wr.iterPos it) := by show _ < _; rw [iterPos_at HL1.out.it_]; omega
     clear hc HF1 HL1
     generalize putB wr it (.stringIter ⟨u.toArray⟩ (pos + 1)) = W3 at *
     obtain rfl | rfl | rfl | rfl : c = 111 ∨ c = 112 ∨ c = 110 ∨ c = 115 := by rcases hci with h | h | h | h <;> simp [h]
     · have HRr := Lib.hid (rq_op (range_whole HL2.out.src))
       go_wp2_with (first
         | ((with_reducible refine gate_ld 30 _ rfl ?_); refine wl_ldr rfl 30 _ rfl w.heap.size 3 (opC r.op) _ Tryz.underlying30 rfl (by rw [sizOp, opC_len]) rfl HRr.out ?_)
         | (go_at_call 82; (refine (bareO_any r.op _ hk).mono ?_); rintro e W7 ⟨rfl, hb7⟩; have HL2b := Lib.hid (HL2.out.below hb7); clear hb7)
         | ((with_reducible refine gate_st 30 _ _ rfl ?_); refine wl_stR rfl 30 _ _ rfl (w.heap.size + 2) 3 (opC (bareO r.op)) (by rw [sizOp, opC_len]) rfl rfl (one_op _) (rqC y) _ HL2b.out.dst (by rw [rqC_len, opC_len]; omega) (fun W4 h1 h2 => ?_); have HL3 := Lib.hid (HL2b.out.step (y := setQ r y 111) (by rw [h1, row_op]; rfl) h2); clear h1 h2; try simp only [Act.put]))
       go_roundw
       case rel => exact ⟨pos + 1, _, by omega, HL3.out, HF2.out⟩
       case measure => rw [iterPos_at HL3.out.it_]; exact HM.out
     · have HRr := Lib.hid (rq_pre (range_whole HL2.out.src))
       go_wp2_with (first
         | ((with_reducible refine gate_ld 34 _ rfl ?_); refine wl_ldr rfl 34 _ rfl w.heap.size 33 (Kx.pC r.key r.depth) _ Tryz.underlying34 rfl (by rw [Kx.sizPre, Kx.pC_len r.lk]) rfl HRr.out ?_)
         | (go_at_call 83; (refine (rcut_any r.key r.depth _ r.lk).mono ?_); rintro e W7 ⟨rfl, hb7⟩; have HL2b := Lib.hid (HL2.out.below hb7); clear hb7)
         | ((with_reducible refine gate_st 34 _ _ rfl ?_); refine wl_stR rfl 34 _ _ rfl (w.heap.size + 2) 33 (Kx.pC (prefK (Kx.preB r.key r.depth)) r.depth) (by rw [Kx.sizPre, Kx.pC_len (prefK_len _)]) rfl rfl (one_pre _ _) (rqC y) _ HL2b.out.dst (by rw [rqC_len, Kx.pC_len (prefK_len _)]; omega) (fun W4 h1 h2 => ?_); have HL3 := Lib.hid (HL2b.out.step (y := setQ r y 112) (by rw [h1, row_pre _ _ _ (prefK_len _)]; rfl) h2); clear h1 h2; try simp only [Act.put]))
       go_roundw
       case rel => exact ⟨pos + 1, _, by omega, HL3.out, HF2.out⟩
       case measure => rw [iterPos_at HL3.out.it_]; exact HM.out
     · have hcs : W3.cell? ⟨w.heap.size, 2, none⟩ = some (.int .i64 r.n) := by rw [cell_blk HL2.out.src]; rfl
       go_wp2_with ((with_reducible refine gate_st 3 _ _ rfl ?_); refine wl_st1G rfl 3 sizI1 _ _ rfl (w.heap.size + 2) 2 (.int .i64 r.n) rfl rfl rfl (rqC y) (rqC (setQ r y 110)) _ HL2.out.dst (by rw [rqC_len]; omega) rfl (fun W4 h1 h2 => ?_); have HL3 := Lib.hid (HL2.out.step h1 h2); clear h1 h2; try simp only [Act.put])
       go_roundw
       case rel => exact ⟨pos + 1, _, by omega, HL3.out, HF2.out⟩
       case measure => rw [iterPos_at HL3.out.it_]; exact HM.out
     · have hcs : W3.cell? ⟨w.heap.size, 1, none⟩ = some (.int .i64 r.slot) := by rw [cell_blk HL2.out.src]; rfl
       go_wp2_with ((with_reducible refine gate_st 3 _ _ rfl ?_); refine wl_st1G rfl 3 sizI1 _ _ rfl (w.heap.size + 2) 1 (.int .i64 r.slot) rfl rfl rfl (rqC y) (rqC (setQ r y 115)) _ HL2.out.dst (by rw [rqC_len]; omega) rfl (fun W4 h1 h2 => ?_); have HL3 := Lib.hid (HL2.out.step h1 h2); clear h1 h2; try simp only [Act.put])
       go_roundw
       case rel => exact ⟨pos + 1, _, by omega, HL3.out, HF2.out⟩
       case measure => rw [iterPos_at HL3.out.it_]; exact HM.out
   · obtain rfl : pos = u.length := by omega
     have hnx := fun ty => runS_end (P := Tryz.prog) wr it ⟨u.toArray⟩ u.length ty HL1.out.it_ (by rw [hus]; omega)
     have HY : Hid (y = bareQ r) := by show _ = _; rw [HF1.out, List.take_of_length_le (Nat.le_refl _), HO.out]
     go_wp2_with (first
       | ((with_reducible refine gate_ld 36 _ rfl ?_); refine wl_ldr rfl 36 _ rfl (w.heap.size + 2) 0 (rqC y) _ Tryz.underlying36 rfl (by rw [sizRq, rqC_len]) rfl (range_whole HL1.out.dst) ?_)
       | ((with_reducible refine gate_st 36 _ _ rfl ?_); refine wl_str rfl 36 _ _ rfl (w.heap.size + 1) (rqC y).toArray (rqC zeroQ).toArray _ (by rw [sizRq, List.size_toArray, rqC_len]) (by rw [List.size_toArray, List.size_toArray, rqC_len, rqC_len]) (by rw [← Array.all_toList]; exact rqC_one _) rfl rfl HL1.out.res ?_))
     refine bodyPost_ret (res_rowc (P := Tryz.prog) (T := 36) (T' := 36) rfl _ _ (w.heap.size + 1) (rqC y).toArray (0, 0) rfl (setRow_at HL1.out.res) Tryz.underlying36 rfl (by rw [sizRq, List.size_toArray, rqC_len])) rfl ⟨by rw [HY.out], setRow_below HL1.out.bel (Nat.le_succ _) _⟩
end Go.Proofs.YtbfefdedjcppaaaGreatDoor

/- request.Bytes: at a request whose bare one is right. -/
namespace Go.Proofs.YtbfefdedjcppaaaGreatDoor
set_option maxRecDepth 100000
set_option maxHeartbeats 8000000
open Go.RowKit
theorem put_comm (a : Act) {i j : Nat} (h : i ≠ j) (v u : Value) : (a.put (some j) u).put (some i) v = (a.put (some i) v).put (some j) u := by
 simp only [Act.put]
 rw [Array.setIfInBounds_comm _ _ h]
theorem twoReady {P : Program} {md : Region.Mode} {ops : Array Oper} {Q : Exit → Act → World → Prop} {S : World → Prop} (i j : Nat) {fuel : Nat} {listed : Array Bool} {a : Act} {w : World} (hr : Region.ready md ops listed = [i, j])
   (h : wpOp P ops Q i (fun a' w' => S w' ∧ wpAnyH P md ops Q S fuel (listed.setIfInBounds i true) a' w') a w) (h' : wpOp P ops Q j (fun a' w' => S w' ∧ wpAnyH P md ops Q S fuel (listed.setIfInBounds j true) a' w') a w) : wpAnyH P md ops Q S (fuel + 1) listed a w :=
 wpAnyH_all hr (by simp) fun k hk => by
   simp only [List.mem_cons, List.not_mem_nil, or_false] at hk
   rcases hk with rfl | rfl
   · exact h
   · exact h'
theorem two_free {P : Program} {md : Region.Mode} {ops : Array Oper} {Q : Exit → Act → World → Prop} {S : World → Prop} (i j : Nat) {fuel : Nat} {L : Array Bool} {a : Act} {w : World} (di dj : Nat) (hd : di ≠ dj) (hij : i ≠ j)
   (r0 : Region.ready md ops L = [i, j]) (r1 : Region.ready md ops (L.setIfInBounds i true) = [j]) (r2 : Region.ready md ops (L.setIfInBounds j true) = [i])
   (R1 R2 : Value → World → Prop) (R : Value → Value → World → Prop)
   (A : ∀ K : Act → World → Prop, (∀ vi w', R1 vi w' → K (a.put (some di) vi) w') → wpOp P ops Q i K a w)
   (A' : ∀ vi w' (K : Act → World → Prop), R1 vi w' → (∀ vj w'', R vi vj w'' → K ((a.put (some di) vi).put (some dj) vj) w'') → wpOp P ops Q j K (a.put (some di) vi) w')
   (B : ∀ K : Act → World → Prop, (∀ vj w', R2 vj w' → K (a.put (some dj) vj) w') → wpOp P ops Q j K a w)
   (B' : ∀ vj w' (K : Act → World → Prop), R2 vj w' → (∀ vi w'', R vi vj w'' → K ((a.put (some dj) vj).put (some di) vi) w'') → wpOp P ops Q i K (a.put (some dj) vj) w')
   (hS1 : ∀ v w', R1 v w' → S w') (hS2 : ∀ v w', R2 v w' → S w') (hS : ∀ vi vj w', R vi vj w' → S w')
   (h : ∀ vi vj w', R vi vj w' → wpAnyH P md ops Q S fuel ((L.setIfInBounds i true).setIfInBounds j true) ((a.put (some di) vi).put (some dj) vj) w') : wpAnyH P md ops Q S (fuel + 1 + 1) L a w := by
 refine twoReady i j r0 ?_ ?_
 · exact A _ fun vi w' h1 => ⟨hS1 _ _ h1, oneH j r1 (A' vi w' _ h1 fun vj w'' hR => ⟨hS _ _ _ hR, h _ _ _ hR⟩)⟩
 · refine B _ fun vj w' h1 => ⟨hS2 _ _ h1, oneH i r2 (B' vj w' _ h1 fun vi w'' hR => ⟨hS _ _ _ hR, ?_⟩)⟩
   have := h _ _ _ hR
   rw [Array.setIfInBounds_comm _ _ hij] at this
   rw [put_comm _ hd]
   exact this
theorem exec_cvLow {o : Oper} {a : Act} {w : World} (x : Operand) (ho : o.op = .convert 3 5 x) (n : Int) (hx : a.eval x = .int .i64 n) : (execOp a.eval o).run Tryz.prog w = .ok (.value (.int .u8 ((lowB n).toNat : Int))) w := by
 unfold execOp
 simp only [ho, hx]
 simp [go_sem, Tryz.underlying5, Tryz.underlying3, wrap_low]
theorem exec_bs8 {o : Oper} {a : Act} {w : World} (x : Operand) (ho : o.op = .buildSlice 22 1 #[(0, x)]) (v : Value) (hv : v.oneCell' = true) (hx : a.eval x = v) : (execOp a.eval o).run Tryz.prog w = .ok (.value (.slice (some ⟨w.heap.size, 0, none⟩) 1 1)) (w.alloc (.cells #[v] 5)) := by
 have hb : (Instr.buildSlice 22 1 #[(0, v)]).run Tryz.prog w = .ok (.slice (some ⟨w.heap.size, 0, none⟩) 1 1) (w.alloc (.cells #[v] 5)) := by
   cases v <;> first | (cases hv; done) | simp [go_sem]
 unfold execOp
 simp only [ho, List.map_toArray, List.map_cons, List.map_nil, hx, Sem.run_bind, hb]
 rfl
theorem exec_fQ {o : Oper} {a : Act} {w : World} (x : Operand) (n k : Nat) (hk : (n = 0 ∧ k = 0) ∨ (n = 4 ∧ k = 33)) (ho : o.op = .fieldAddr 36 x n) (b f : Nat) (hx : a.eval x = .pointer (some ⟨b, f, none⟩)) : (execOp a.eval o).run Tryz.prog w = .ok (.value (.pointer (some ⟨b, f + k, none⟩))) w := by
 rcases hk with ⟨rfl, rfl⟩ | ⟨rfl, rfl⟩ <;>
 · unfold execOp
   simp only [ho, hx]
   simp [go_sem]
theorem exec_fP {o : Oper} {a : Act} {w : World} (x : Operand) (ho : o.op = .fieldAddr 34 x 1) (b f : Nat) (hx : a.eval x = .pointer (some ⟨b, f, none⟩)) : (execOp a.eval o).run Tryz.prog w = .ok (.value (.pointer (some ⟨b, f + 25, none⟩))) w := by
 unfold execOp
 simp only [ho, hx]
 simp [go_sem]
theorem exec_mvT {o : Oper} {a : Act} {w : World} {P : Program} (x : Operand) (ho : o.op = .move x) (v : Value) (hx : a.eval x = v) : (execOp a.eval o).run P w = .ok (.value v) w := by
 unfold execOp
 simp only [ho, hx]
 simp [go_sem]
theorem exec_asT {o : Oper} {a : Act} {w : World} {P : Program} (x : Operand) (ho : o.op = .assign x) (v : Value) (hx : a.eval x = v) : (execOp a.eval o).run P w = .ok (.value v) w := by
 unfold execOp
 simp only [ho, hx]
 simp [go_sem]
def fieldQ (r : RqD) (s : List UInt8 × Nat) (c : UInt8) : List UInt8 × Nat :=
 if c = 111 then wOrder 4096 s r.op else if c = 112 then wBytes 4096 (wBytes 4096 s [lowB r.depth]) (Kx.preB r.key r.depth) else if c = 110 then wBytes 4096 s [lowB r.n] else wBytes 4096 s [lowB r.slot]
def endW (s : List UInt8 × Nat) : List UInt8 := if s.2 = 0 then s.1 else []
def wReq (r : RqD) : List UInt8 × Nat := (usesV r.verb.toNat).foldl (fieldQ r) (wBytes 4096 ([], 0) [lowB r.verb])
theorem wOrder_le {room : Nat} {o : OpD} {s : List UInt8 × Nat} (h : s.1.length ≤ room) : (wOrder room s o).1.length ≤ room := by
 unfold wOrder
 have h1 : (wBytes room s [lowB o.n0, lowB o.n1, lowB o.n2]).1.length ≤ room := wBytes_le _ h
 generalize wBytes room s [lowB o.n0, lowB o.n1, lowB o.n2] = x at *
 generalize usesL o.n0.toNat = u
 induction u generalizing x with
 | nil => exact h1
 | cons c u ih => exact ih _ (wStep_le h1)
theorem fieldQ_le {r : RqD} {c : UInt8} {s : List UInt8 × Nat} (h : s.1.length ≤ 4096) : (fieldQ r s c).1.length ≤ 4096 := by
 unfold fieldQ
 repeat' split
 · exact wOrder_le h
 · exact wBytes_le _ (wBytes_le _ h)
 · exact wBytes_le _ h
 · exact wBytes_le _ h
theorem foldY_take {r : RqD} {x : List UInt8 × Nat} {u : List UInt8} {pos : Nat} {c : UInt8} (hc : u[pos]? = some c) : (u.take (pos + 1)).foldl (fieldQ r) x = fieldQ r ((u.take pos).foldl (fieldQ r) x) c := by
 have h := (List.getElem?_eq_some_iff.1 hc).1
 rw [List.take_succ_eq_append_getElem h, List.foldl_append, (List.getElem?_eq_some_iff.1 hc).2]; rfl
structure YbSt (w W : World) (bw bq it : Nat) (v : Value) (r : RqD) (u : ByteArray) (pos : Nat) (s : List UInt8 × Nat) : Prop where
 wr : WrAt W bw v s.1 s.2 4096
 bel : Below w.heap.size w W
 src : W.heap[bq]? = some (.cells (rqC r).toArray 36 (0, 0))
 it_ : W.heap[it]? = some (.stringIter u pos)
 le : s.1.length ≤ 4096
 mx : MX W
 ne : it ≠ bq
 bl : bw ≠ bq ∧ bw ≠ it
 up : w.heap.size ≤ it ∧ w.heap.size ≤ bw
 ow : v.ownBlock ≠ some bq ∧ v.ownBlock ≠ some it
 hg : 0 < bw
theorem wturn_below {B bw : Nat} {v v' : Value} {w w' : World} (ht : WTurn bw v v' w w') (h1 : B ≤ bw) (h2 : ∀ g, v.ownBlock = some g → B ≤ g) (h3 : B ≤ w.heap.size) : Below B w w' :=
 ⟨ht.os, ht.tape, ht.output, ht.size, fun k hk => ht.block k (by omega) (by omega) fun e => by have := h2 _ e; omega⟩
theorem YbSt.below {w W W' : World} {bw bq it pos : Nat} {v : Value} {r : RqD} {u : ByteArray} {s : List UInt8 × Nat} (h : YbSt w W bw bq it v r u pos s) (hb : Below W.heap.size W W') : YbSt w W' bw bq it v r u pos s :=
 ⟨h.wr.below hb, h.bel.trans (hb.mono h.bel.size), (hb.block _ (lt_heap h.src)).trans h.src, (hb.block _ (lt_heap h.it_)).trans h.it_, h.le, h.mx.below hb, h.ne, h.bl, h.up, h.ow, h.hg⟩
theorem YbSt.step {w W W' : World} {bw bq it pos : Nat} {v v' : Value} {r : RqD} {u : ByteArray} {s s' : List UInt8 × Nat} (h : YbSt w W bw bq it v r u pos s) (hw : WrAt W' bw v' s'.1 s'.2 4096) (ht : WTurn bw v v' W W') (hl : s'.1.length ≤ 4096) : YbSt w W' bw bq it v' r u pos s' := by
 have hk : ∀ k, k < W.heap.size → bw ≠ k → v.ownBlock ≠ some k → W'.heap[k]? = W.heap[k]? := fun k a b c => ht.block k a (Ne.symm b) c
 have hn : ∀ k, k < W.heap.size → v.ownBlock ≠ some k → v'.ownBlock ≠ some k := fun k hk hne e => by
   rcases ht.new with e' | e'
   · exact hne (e'.symm.trans e)
   · have := e' _ e; omega
 have hg := lt_heap h.src
 have hi := lt_heap h.it_
 have h2 := h.up.2
 exact ⟨hw, h.bel.trans (wturn_below ht h2 (fun g e => by have := h.wr.up g e; omega) h.bel.size), (hk _ hg h.bl.1 h.ow.1).trans h.src, (hk _ hi h.bl.2 h.ow.2).trans h.it_, hl, ht.mx h.mx h.hg h.wr.up, h.ne, h.bl, h.up, ⟨hn _ hg h.ow.1, hn _ hi h.ow.2⟩, h.hg⟩
theorem YbSt.next {w W : World} {bw bq it pos : Nat} {v : Value} {r : RqD} {u : ByteArray} {s : List UInt8 × Nat} (h : YbSt w W bw bq it v r u pos s) (p : Nat) : YbSt w (putB W it (.stringIter u p)) bw bq it v r u p s := by
 have hk : ∀ k, k ≠ it → (putB W it (.stringIter u p)).heap[k]? = W.heap[k]? := fun k hk => putB_other _ _ _ _ hk
 refine ⟨⟨(hk _ h.bl.2).trans h.wr.at_, h.wr.own.block fun k e => hk _ fun e' => h.ow.2 (e' ▸ e)⟩, putB_below h.bel _ _ h.up.1, (hk _ (Ne.symm h.ne)).trans h.src, putB_same _ _ _ _ h.it_, h.le, ?_, h.ne, h.bl, h.up, h.ow, h.hg⟩
 obtain ⟨m, hm⟩ := h.mx
 refine ⟨m, (cell_of (hk _ fun e => ?_) 0).trans hm⟩
 have := h.it_
 rw [← e] at this
 rw [World.cell?] at hm
 simp [this] at hm
theorem byteNew_any (bw : Nat) (v : Value) (s : List UInt8 × Nat) (n : Int) (w : World) (h : WrAt w bw v s.1 s.2 4096) (hl : s.1.length ≤ 4096) :
   Calls Tryz.prog 42 #[.pointer (some ⟨bw, 0, none⟩), .slice (some ⟨w.heap.size, 0, none⟩) 1 1] (w.alloc (.cells #[.int .u8 ((lowB n).toNat : Int)] 5)) fun e w' => e = .returned (.pointer (some ⟨bw, 0, none⟩)) ∧ ∃ v', WrAt w' bw v' (wBytes 4096 s [lowB n]).1 (wBytes 4096 s [lowB n]).2 4096 ∧ WTurn bw v v' w w' := by
 have hb := below_alloc1 w (.cells #[.int .u8 ((lowB n).toNat : Int)] 5)
 refine (wbyte_any bw 4096 v s.1 s.2 (some ⟨w.heap.size, 0, none⟩) [lowB n] 1 1 _ (h.below hb) hl (by omega) (slAt_new (heap_alloc_new w _)) rfl (fun a e => by
   cases e
   refine ⟨fun e => ?_, fun e => ?_⟩
   · have := lt_heap h.at_
     simp only at e; omega
   · have := (h.own.lt _ e).2
     simp only at this; omega) (by omega)).mono ?_
 rintro e w' ⟨h1, v', h2, h3⟩
 exact ⟨h1, v', h2, (WTurn.of_below hb).trans h3⟩
def TwoR (w : World) (n : Int) (vi vj : Value) (W : World) : Prop := ∃ bw bs : Nat, vi = .pointer (some ⟨bw, 0, none⟩) ∧ vj = .slice (some ⟨bs, 0, none⟩) 1 1 ∧ WrAt W bw (.slice none 0 0) [] 0 4096 ∧ W.heap[bs]? = some (.cells (bC [lowB n]) 5 (0, 0)) ∧ Below w.heap.size w W ∧ w.heap.size ≤ bw ∧ bs ≠ bw
theorem bytes_any (r : RqD) (w : World) (hv0 : 0 ≤ r.verb) (hk : 0 ≤ r.op.n0) (hok : OkQ (bareQ r)) (hn0 : 0 ≤ (bareQ r).op.n0) (ht : (bareQ r).op.text.size ≤ 1200) (hmx : MX w) : Calls Tryz.prog 11 #[.agg (rqC r).toArray] w fun e w' => ∃ v, e = .returned (.tuple #[v, .int .i64 ((wReq (bareQ r)).2 : Nat)]) ∧ OwnE byteC 5 1 w' w.heap.size v (endW (wReq (bareQ r))) ∧ Below w.heap.size w w' := by
 have HG := Lib.hid (heap_alloc_new w (.cells (rqC r).toArray 36))
 have HB := Lib.hid (below_alloc1 w (.cells (rqC r).toArray 36))
 have HM := Lib.hid (hmx.below HB.out)
 have HM0 : Hid (0 < w.heap.size) := by
   obtain ⟨m, hm⟩ := hmx
   exact World.block_lt_of_cell? _ _ hm
 have KBq : Hid (∀ W, Calls Tryz.prog 39 #[.agg (rqC r).toArray] W fun e w' => e = .returned (.agg (rqC (bareQ r)).toArray) ∧ Below W.heap.size W w') := fun W => bareQ_any r W hv0 hk
 clear hmx
 generalize hrq : bareQ r = q at *
 clear hrq
 obtain ⟨hv1, hv2⟩ := hok.v
 obtain ⟨k, hkk⟩ : ∃ k : Nat, q.verb = (k : Int) := ⟨q.verb.toNat, by omega⟩
 have hkn : q.verb.toNat = k := by omega
 have HO : Hid (wReq q = (usesV k).foldl (fieldQ q) (wBytes 4096 ([], 0) [lowB q.verb])) := by show _ = _; unfold wReq; rw [hkn]
 have HKk := Lib.hid hkk
 have HOk := Lib.hid hok
 clear hkk hkn hok hv1 hv2
 go_enter Tryz.func11, Tryz.ntmps11
 go_upto_region 1 with fail
 generalize w.alloc (.cells (rqC r).toArray 36) = W1 at *
 go_upto_region 2 with (first
   | ((with_reducible refine gate_ld 36 _ rfl ?_); refine wl_ldr rfl 36 _ rfl w.heap.size 0 (rqC r) _ Tryz.underlying36 rfl (by rw [sizRq, rqC_len]) rfl (range_whole HG.out) ?_)
   | (go_at_call 39; (refine (KBq.out _).mono ?_); rintro e W2 ⟨rfl, hb2⟩; have HB2 := Lib.hid hb2; clear hb2)
   | ((with_reducible refine gate_st 36 _ _ rfl ?_); refine wl_str rfl 36 _ _ rfl w.heap.size (rqC q).toArray (rqC r).toArray _ (by rw [sizRq, List.size_toArray, rqC_len]) (by rw [List.size_toArray, List.size_toArray, rqC_len, rqC_len]) (by rw [← Array.all_toList]; exact rqC_one _) rfl rfl ((HB2.out.block _ (lt_heap HG.out)).trans HG.out) ?_))
 have HG3 : Hid ((W2.setRow w.heap.size (rqC q).toArray).heap[w.heap.size]? = some (.cells (rqC q).toArray 36 (0, 0))) := setRow_at ((HB2.out.block _ (lt_heap HG.out)).trans HG.out)
 have HB3 : Hid (Below w.heap.size w (W2.setRow w.heap.size (rqC q).toArray)) := setRow_below (HB.out.trans (HB2.out.mono HB.out.size)) (Nat.le_refl _) _
 have HM3 : Hid (MX (W2.setRow w.heap.size (rqC q).toArray)) := by
   obtain ⟨m, hm⟩ := HM.out.below HB2.out
   exact ⟨m, (cell_of (setRow_other _ _ _ _ (Nat.ne_of_lt HM0.out)) 0).trans hm⟩
 clear HG HB HB2 HM KBq
 try simp only [Act.put]
 generalize W2.setRow w.heap.size (rqC q).toArray = W3 at *
 go_upto_region 5 with (first
   | ((with_reducible refine gate_ld 36 _ rfl ?_); refine wl_ldr rfl 36 _ rfl w.heap.size 0 (rqC q) _ Tryz.underlying36 rfl (by rw [sizRq, rqC_len]) rfl (range_whole HG3.out) ?_)
   | (go_at_call 40; (refine (chk_any q HOk.out _ HM3.out).mono ?_); rintro e W4 ⟨rfl, hb4⟩; have HB4 := Lib.hid hb4; clear hb4))
 have HG4 := Lib.hid ((HB4.out.block _ (lt_heap HG3.out)).trans HG3.out)
 have HM4 := Lib.hid (HM3.out.below HB4.out)
 have HB5 := Lib.hid (HB3.out.trans (HB4.out.mono HB3.out.size))
 clear HG3 HM3 HB3 HB4
 have hH : W4.heap[w.heap.size]? = W4.heap[w.heap.size]? := rfl
 refine wp_region_held_drew (S := fun W => W.heap[w.heap.size]? = W4.heap[w.heap.size]?) (by kernel_rfl) rfl (fun hH => ?_)
 show wpAnyH Tryz.prog Region.Mode.any _ _ _ 7 #[false, false, false, false, false, false, false] _ _
 refine takeR (i := 1) (v := .pointer (some ⟨w.heap.size, 0, none⟩)) 16 rfl rfl (by kernel_rfl) (by kernel_rfl) (by kernel_rfl) (fun _ _ _ h => h) (Or.inl ⟨rfl, fun w' hS => exec_fQ (.tmp 1) 0 0 (by simp) rfl w.heap.size 0 rfl⟩) hH ?_
 simp only [Act.put, wrT]
 refine takeR (i := 2) (v := .int .i64 q.verb) 17 rfl rfl (by kernel_rfl) (by kernel_rfl) (by kernel_rfl) (fun _ _ _ h => h) (Or.inl ⟨rfl, fun w' hS => exec_ld1G 3 ag3 _ rfl w.heap.size 0 _ rfl (by rw [cell_blk (hS.trans HG4.out)]; rfl)⟩) hH ?_
 simp only [Act.put, wrT]
 refine takeR (i := 3) (v := .int .u8 ((lowB q.verb).toNat : Int)) 18 rfl rfl (by kernel_rfl) (by kernel_rfl) (by kernel_rfl) (fun _ _ _ h => h) (Or.inl ⟨rfl, fun w' hS => exec_cvLow (.tmp 17) rfl q.verb rfl⟩) hH ?_
 simp only [Act.put, wrT]
 have hbd : Below W4.heap.size W4 W4.drew := ⟨rfl, rfl, rfl, Nat.le_refl _, fun _ _ => rfl⟩
 have hlt4 := lt_heap HG4.out
 have KS : ∀ W, Below W4.heap.size W4 W → W.heap[w.heap.size]? = W4.heap[w.heap.size]? := fun W hW => hW.block _ hlt4
 refine two_free 0 4 15 19 (by decide) (by decide) (by kernel_rfl) (by kernel_rfl) (by kernel_rfl)
   (fun vi W => vi = .pointer (some ⟨W4.heap.size, 0, none⟩) ∧ WrAt W W4.heap.size (.slice none 0 0) [] 0 4096 ∧ Below W4.heap.size W4 W)
   (fun vj W => vj = .slice (some ⟨W4.heap.size, 0, none⟩) 1 1 ∧ W.heap[W4.heap.size]? = some (.cells (bC [lowB q.verb]) 5 (0, 0)) ∧ Below W4.heap.size W4 W)
   (TwoR W4 q.verb) ?_ ?_ ?_ ?_ (fun v W h => KS W h.2.2) (fun v W h => KS W h.2.2) (fun vi vj W h => by obtain ⟨_, _, _, _, _, _, h5, _⟩ := h; exact KS W h5) ?_
 · intro K hK
   refine wpOp_call rfl rfl (exec_calls rfl (enters_of Tryz.func41 (by kernel_rfl) rfl) (vs := #[.int .i64 4096]) (by simp [Act.eval]) W4.drew) (newWriter_any 4096 W4.drew) (fun e w1 hR => ?_)
   obtain ⟨rfl, h1, h2⟩ := hR
   exact ⟨_, rfl, hK _ _ ⟨rfl, h1, hbd.trans h2⟩⟩
 · rintro vi w' K ⟨rfl, h1, h2⟩ hK
   refine wpOp_val rfl rfl (exec_bs8 (.tmp 18) rfl (.int .u8 ((lowB q.verb).toNat : Int)) rfl rfl) (hK _ _ ?_)
   have hb := below_alloc1 w' (.cells #[.int .u8 ((lowB q.verb).toNat : Int)] 5)
   have := lt_heap h1.at_
   exact ⟨W4.heap.size, w'.heap.size, rfl, rfl, h1.below hb, heap_alloc_new _ _, h2.trans (hb.mono h2.size), Nat.le_refl _, by omega⟩
 · intro K hK
   refine wpOp_val rfl rfl (exec_bs8 (.tmp 18) rfl (.int .u8 ((lowB q.verb).toNat : Int)) rfl rfl) (hK _ _ ⟨rfl, heap_alloc_new W4.drew _, hbd.trans (below_alloc1 W4.drew _)⟩)
 · rintro vj w' K ⟨rfl, h1, h2⟩ hK
   refine wpOp_call rfl rfl (exec_calls rfl (enters_of Tryz.func41 (by kernel_rfl) rfl) (vs := #[.int .i64 4096]) (by simp [Act.eval]) w') (newWriter_any 4096 w') (fun e w1 hR => ?_)
   obtain ⟨rfl, h3, h4⟩ := hR
   have := lt_heap h1
   exact ⟨_, rfl, hK _ _ ⟨w'.heap.size, W4.heap.size, rfl, rfl, h3, (h4.block _ this).trans h1, h2.trans (h4.mono h2.size), h2.size, by omega⟩⟩
 rintro vi vj W5 ⟨bw, bs, rfl, rfl, hw5, hs5, hb5, hbw, hbs⟩
 simp only [Act.put, wrT]
 have HW5 := Lib.hid hw5
 have HB5' := Lib.hid hb5
 refine oneH 5 (by kernel_rfl) (wpOp_call rfl rfl (exec_calls rfl (enters_of Tryz.func42 (by kernel_rfl) rfl) (vs := #[.pointer (some ⟨bw, 0, none⟩), .slice (some ⟨bs, 0, none⟩) 1 1]) (by simp [Act.eval]) W5) (wbyte_any bw 4096 (.slice none 0 0) [] 0 (some ⟨bs, 0, none⟩) [lowB q.verb] 1 1 W5 hw5 (by simp) (by omega) (slAt_new hs5) rfl (fun a e => by cases e; exact ⟨hbs, by simp [Value.ownBlock]⟩) (by omega)) (fun e w1 hR => ?_))
 obtain ⟨rfl, v1, hw1, ht1⟩ := hR
 have hbx : Below W4.heap.size W4 w1 := hb5.trans (wturn_below ht1 hbw (fun g e => by simp [Value.ownBlock] at e) hb5.size)
 refine ⟨_, rfl, KS _ hbx, ?_⟩
 simp only [Act.put, rdT, wrT]
 refine oneH 6 (by kernel_rfl) (wpOp_val rfl rfl (exec_asT (.tmp 20) rfl (.pointer (some ⟨bw, 0, none⟩)) rfl) ⟨KS _ hbx, ?_⟩)
 simp only [Act.put, rdT, wrT]
 refine wpAnyH_done (by kernel_rfl) ?_ _
 try simp only [Act.put, rdT, wrT]
 have HW6 := Lib.hid hw1
 have HG6 : Hid (w1.heap[w.heap.size]? = some (.cells (rqC q).toArray 36 (0, 0))) := (KS _ hbx).trans HG4.out
 have HM6 := Lib.hid (HM4.out.below hbx)
 have HB6 := Lib.hid (HB5.out.trans (hbx.mono HB5.out.size))
 have HOw : Hid (v1.ownBlock ≠ some w.heap.size) := fun e => by
   have h1 := hw1.up _ e
   have h2 := HB5.out.size
   omega
 have hwb : w.heap.size < bw := by have := HB5.out.size; have := lt_heap HG4.out; omega
 have hle0 : (wBytes 4096 ([], 0) [lowB q.verb]).1.length ≤ 4096 := wBytes_le _ (by simp)
 have HE0 : Hid (w1.heap.size ≤ w1.heap.size) := Nat.le_refl _
 clear hbx hw1 ht1 hw5 hs5 hb5 hbs HW5 HB5' HG4 HM4 HB5 KS hbd hlt4 hbw hH HE0
 generalize wBytes 4096 ([], 0) [lowB q.verb] = s0 at *
 have hck : w1.cell? ⟨w.heap.size, 0, none⟩ = some (.int .i64 (k : Int)) := by rw [cell_blk HG6.out, ← HKk.out]; rfl
 have KU : Hid (∀ W, Calls Tryz.prog 24 #[.int .i64 (k : Int)] W fun e w' => e = .returned (.string ⟨(usesV k).toArray⟩) ∧ W = w') := fun W => usesV_any k W
 go_wp2_with (go_at_call 24; (refine (KU.out _).mono ?_); rintro e w5 ⟨rfl, rfl⟩)
 have HL0 : Hid (YbSt w (w1.iter ⟨(usesV k).toArray⟩ 0) bw w.heap.size w1.heap.size v1 q ⟨(usesV k).toArray⟩ 0 s0) := by
   have hb3 : Below w1.heap.size w1 (w1.iter ⟨(usesV k).toArray⟩ 0) := (Below.refl _ _).alloc (Nat.le_refl _) _
   have h1 := lt_heap HG6.out
   have h2 := lt_heap HW6.out.at_
   exact ⟨HW6.out.below hb3, HB6.out.trans (hb3.mono HB6.out.size), (hb3.block _ h1).trans HG6.out, World.iter_heap _ _ _, hle0, HM6.out.below hb3, by omega, ⟨by omega, by omega⟩, ⟨HB6.out.size, by omega⟩, ⟨HOw.out, fun e => by have := (HW6.out.own.lt _ e).2; omega⟩, Nat.lt_trans HM0.out hwb⟩
 have HUI := Lib.hid (usesV_in k)
 clear HG6 HM6 HB6 HW6 HOw KU hck hle0
 generalize usesV k = u at *
 generalize w1.iter ⟨u.toArray⟩ 0 = W7 at *
 generalize w1.heap.size = it at *
 have hus : (⟨u.toArray⟩ : ByteArray).size = u.length := by show u.toArray.size = _; simp
 go_loopw [7] (fun _ wr => ∃ (pos : Nat) (v : Value) (y : List UInt8 × Nat), pos ≤ u.length ∧ Hid (YbSt w wr bw w.heap.size it v q ⟨u.toArray⟩ pos y) ∧ Hid (y = (u.take pos).foldl (fieldQ q) s0)) (fun _ wr => u.length - wr.iterPos it)
 case atStart => exact ⟨0, _, _, Nat.zero_le _, HL0.out, rfl⟩
 case round =>
   obtain ⟨pos, v2, y, hpos, HL1, HF1⟩ := hrel
   clear HL0
   by_cases hlt : pos < u.length
   · have hc : u[pos]? = some u[pos] := List.getElem?_eq_getElem hlt
     have hci := HUI.out _ (List.getElem_mem hlt)
     have HF2 : Hid (fieldQ q y u[pos] = (u.take (pos + 1)).foldl (fieldQ q) s0) := by show _ = _; rw [HF1.out]; exact (foldY_take hc).symm
     generalize u[pos] = c at *
     have hnx := fun ty => runS_next (P := Tryz.prog) wr it ⟨u.toArray⟩ pos ty c HL1.out.it_ (by simpa using hc) (by rcases hci with h | h | h | h <;> (rw [h]; decide))
     have HL2 := Lib.hid (HL1.out.next (pos + 1))
     have HM : Hid (u.length - (pos + 1) < u.length - wr.iterPos it) := by show _ < _; rw [iterPos_at HL1.out.it_]; omega
     clear hc HF1 HL1
     generalize putB wr it (.stringIter ⟨u.toArray⟩ (pos + 1)) = W3 at *
     obtain rfl | rfl | rfl | rfl : c = 111 ∨ c = 112 ∨ c = 110 ∨ c = 115 := by rcases hci with h | h | h | h <;> simp [h]
     · have HRr := Lib.hid (rq_op (range_whole HL2.out.src))
       have KO := Lib.hid (worder_any bw 4096 v2 y q.op _ HL2.out.wr HL2.out.le (by omega) (by omega) hn0 HL2.out.mx HL2.out.hg)
       go_wp2_with (first
         | ((with_reducible refine gate_ld 30 _ rfl ?_); refine wl_ldr rfl 30 _ rfl w.heap.size 3 (opC q.op) _ Tryz.underlying30 rfl (by rw [sizOp, opC_len]) rfl HRr.out ?_)
         | (go_at_call 43; (refine KO.out.mono ?_); rintro e W7 ⟨rfl, v3, hw3, ht3⟩; have HL3 := Lib.hid (HL2.out.step (s' := fieldQ q y 111) hw3 ht3 (fieldQ_le HL2.out.le)); clear hw3 ht3))
       go_roundw
       case rel => exact ⟨pos + 1, v3, _, by omega, HL3.out, HF2.out⟩
       case measure => rw [iterPos_at HL3.out.it_]; exact HM.out
     · have HDp : W3.cell? ⟨w.heap.size, 58, none⟩ = some (.int .i64 q.depth) := by rw [cell_blk HL2.out.src, List.getElem?_toArray]; exact rqC_depth q
       have HRp := Lib.hid (rq_pre (range_whole HL2.out.src))
       have hlb := lt_heap HL2.out.src
       go_upto_region 13 with fail
       have hH : W3.heap[w.heap.size]? = W3.heap[w.heap.size]? := rfl
       refine wp_region_held_drew (S := fun W => W.heap[w.heap.size]? = W3.heap[w.heap.size]?) (by kernel_rfl) rfl (fun hH => ?_)
       show wpAnyH Tryz.prog Region.Mode.any _ _ _ 11 #[false, false, false, false, false, false, false, false, false, false, false] _ _
       refine takeR (i := 0) (v := .pointer (some ⟨bw, 0, none⟩)) 37 rfl rfl (by kernel_rfl) (by kernel_rfl) (by kernel_rfl) (fun _ _ _ h => h) (Or.inl ⟨rfl, fun w' hS => exec_mvT (.tmp 5) rfl _ rfl⟩) hH ?_
       simp only [Act.put, wrT]
       refine takeR (i := 1) (v := .pointer (some ⟨w.heap.size, 33, none⟩)) 38 rfl rfl (by kernel_rfl) (by kernel_rfl) (by kernel_rfl) (fun _ _ _ h => h) (Or.inl ⟨rfl, fun w' hS => exec_fQ (.tmp 1) 4 33 (by simp) rfl w.heap.size 0 rfl⟩) hH ?_
       simp only [Act.put, wrT]
       refine takeR (i := 2) (v := .pointer (some ⟨w.heap.size, 58, none⟩)) 39 rfl rfl (by kernel_rfl) (by kernel_rfl) (by kernel_rfl) (fun _ _ _ h => h) (Or.inl ⟨rfl, fun w' hS => exec_fP (.tmp 38) rfl w.heap.size 33 rfl⟩) hH ?_
       simp only [Act.put, wrT]
       refine takeR (i := 3) (v := .int .i64 q.depth) 40 rfl rfl (by kernel_rfl) (by kernel_rfl) (by kernel_rfl) (fun _ _ _ h => h) (Or.inl ⟨rfl, fun w' hS => exec_ld1G 3 ag3 _ rfl w.heap.size 58 _ rfl ((cell_of hS 58).trans HDp)⟩) hH ?_
       simp only [Act.put, wrT]
       refine takeR (i := 4) (v := .int .u8 ((lowB q.depth).toNat : Int)) 41 rfl rfl (by kernel_rfl) (by kernel_rfl) (by kernel_rfl) (fun _ _ _ h => h) (Or.inl ⟨rfl, fun w' hS => exec_cvLow (.tmp 40) rfl q.depth rfl⟩) hH ?_
       simp only [Act.put, wrT]
       refine takeR (i := 7) (v := .pointer (some ⟨w.heap.size, 33, none⟩)) 44 rfl rfl (by kernel_rfl) (by kernel_rfl) (by kernel_rfl) (fun _ _ _ h => h) (Or.inl ⟨rfl, fun w' hS => exec_fQ (.tmp 1) 4 33 (by simp) rfl w.heap.size 0 rfl⟩) hH ?_
       simp only [Act.put, wrT]
       refine takeR (i := 8) (v := .agg (Kx.pC q.key q.depth).toArray) 45 rfl rfl (by kernel_rfl) (by kernel_rfl) (by kernel_rfl) (fun _ _ _ h => h) (Or.inl ⟨rfl, fun w' hS => exec_ldr 34 (.tmp 44) rfl w.heap.size 33 (Kx.pC q.key q.depth) _ Tryz.underlying34 rfl (by rw [Kx.sizPre, Kx.pC_len q.lk]) rfl (range_of_block HRp.out hS)⟩) hH ?_
       simp only [Act.put, wrT]
       have HL4 := Lib.hid (HL2.out.below (W' := W3.drew) ⟨rfl, rfl, rfl, Nat.le_refl _, fun _ _ => rfl⟩)
       refine oneH 5 (by kernel_rfl) (wpOp_val rfl rfl (exec_bs8 (.tmp 41) rfl (.int .u8 ((lowB q.depth).toNat : Int)) rfl rfl) ⟨(below_alloc1 W3.drew _).block _ hlb, ?_⟩)
       simp only [Act.put, rdT, wrT]
       refine oneH 6 (by kernel_rfl) (wpOp_call rfl rfl (exec_calls rfl (enters_of Tryz.func42 (by kernel_rfl) rfl) (vs := #[.pointer (some ⟨bw, 0, none⟩), .slice (some ⟨W3.drew.heap.size, 0, none⟩) 1 1]) (by simp [Act.eval]) _) (byteNew_any bw v2 y q.depth W3.drew HL4.out.wr HL4.out.le) (fun e w8 hR => ?_))
       obtain ⟨rfl, v3, hw3, ht3⟩ := hR
       have HL5 := Lib.hid (HL4.out.step (s' := wBytes 4096 y [lowB q.depth]) hw3 ht3 (wBytes_le _ HL2.out.le))
       have hk5 : w8.heap[w.heap.size]? = W3.heap[w.heap.size]? := HL5.out.src.trans HL2.out.src.symm
       refine ⟨_, rfl, hk5, ?_⟩
       simp only [Act.put, rdT, wrT]
       clear hw3 ht3
       refine oneH 9 (by kernel_rfl) (wpOp_call rfl rfl (exec_calls rfl (enters_of Tryz.func44 (by kernel_rfl) rfl) (vs := #[.agg (Kx.pC q.key q.depth).toArray]) (by simp [Act.eval]) _) (Kx.pbytes_any q.key q.depth w8 q.lk) (fun e w9 hR => ?_))
       obtain ⟨v9, rfl, ho9, hb9⟩ := hR
       have HL6 := Lib.hid (HL5.out.below hb9)
       obtain ⟨q9, c9, rfl⟩ := ho9.slice
       refine ⟨_, rfl, (hb9.block _ (lt_heap HL5.out.src)).trans hk5, ?_⟩
       simp only [Act.put, rdT, wrT]
       refine oneH 10 (by kernel_rfl) (wpOp_call rfl rfl (exec_calls rfl (enters_of Tryz.func42 (by kernel_rfl) rfl) (vs := #[.pointer (some ⟨bw, 0, none⟩), .slice q9 (Kx.preB q.key q.depth).length c9]) (by simp [Act.eval]) _) (wbyte_any bw 4096 v3 _ _ q9 (Kx.preB q.key q.depth) _ c9 w9 HL6.out.wr HL6.out.le (by omega) (ho9.slat byteC_len) rfl (fun a e => by
         have h1 := (ho9.lt a.block (by rw [e]; rfl)).1
         have h2 := lt_heap HL5.out.wr.at_
         refine ⟨by omega, fun e' => ?_⟩
         have := (HL5.out.wr.own.lt _ e').2
         omega) (by have := Kx.preB_len q.key q.depth q.lk; omega)) (fun e w10 hR => ?_))
       obtain ⟨rfl, v10, hw10, ht10⟩ := hR
       have HL3 := Lib.hid (HL6.out.step (s' := fieldQ q y 112) hw10 ht10 (fieldQ_le HL2.out.le))
       refine ⟨_, rfl, HL3.out.src.trans HL2.out.src.symm, ?_⟩
       simp only [Act.put, rdT, wrT]
       refine wpAnyH_done (by kernel_rfl) ?_ _
       try simp only [Act.put, rdT, wrT]
       clear hw10 ht10 hH ho9 hb9 hk5 HL4 HL5 HL6 HL2 HRp HDp hlb
       go_wp2_with fail
       go_roundw
       case rel => exact ⟨pos + 1, v10, _, by omega, HL3.out, HF2.out⟩
       case measure => rw [iterPos_at HL3.out.it_]; exact HM.out
     · have hcs : W3.cell? ⟨w.heap.size, 2, none⟩ = some (.int .i64 q.n) := by rw [cell_blk HL2.out.src]; rfl
       have KW := Lib.hid (byteNew_any bw v2 y q.n W3 HL2.out.wr HL2.out.le)
       rw [lowB_eq] at KW
       go_wp2_with (go_at_call 42; (refine KW.out.mono ?_); rintro e w8 ⟨rfl, v3, hw3, ht3⟩; have HL3 := Lib.hid (HL2.out.step (s' := fieldQ q y 110) hw3 ht3 (fieldQ_le HL2.out.le)); clear hw3 ht3)
       go_roundw
       case rel => exact ⟨pos + 1, v3, _, by omega, HL3.out, HF2.out⟩
       case measure => rw [iterPos_at HL3.out.it_]; exact HM.out
     · have hcs : W3.cell? ⟨w.heap.size, 1, none⟩ = some (.int .i64 q.slot) := by rw [cell_blk HL2.out.src]; rfl
       have KW := Lib.hid (byteNew_any bw v2 y q.slot W3 HL2.out.wr HL2.out.le)
       rw [lowB_eq] at KW
       go_wp2_with (go_at_call 42; (refine KW.out.mono ?_); rintro e w8 ⟨rfl, v3, hw3, ht3⟩; have HL3 := Lib.hid (HL2.out.step (s' := fieldQ q y 115) hw3 ht3 (fieldQ_le HL2.out.le)); clear hw3 ht3)
       go_roundw
       case rel => exact ⟨pos + 1, v3, _, by omega, HL3.out, HF2.out⟩
       case measure => rw [iterPos_at HL3.out.it_]; exact HM.out
   · obtain rfl : pos = u.length := by omega
     have hnx := fun ty => runS_end (P := Tryz.prog) wr it ⟨u.toArray⟩ u.length ty HL1.out.it_ (by rw [hus]; omega)
     have HY : Hid (y = wReq q) := by show _ = _; rw [HF1.out, List.take_of_length_le (Nat.le_refl _), HO.out]
     have KB := Lib.hid (wbytes_any bw 4096 v2 y.1 y.2 wr HL1.out.wr (by have := HL1.out.le; omega))
     go_wp2_with (go_at_call 45; (refine KB.out.mono ?_); rintro e W9 ⟨v9, rfl, ho9, hb9⟩; have HO9 := Lib.hid ho9; have HB9 := Lib.hid hb9; clear ho9 hb9)
     refine bodyPost_ret (results_tmp2 rfl _ _ _) rfl ?_
     refine ⟨v9, by rw [← HY.out]; rfl, ?_, HL1.out.bel.trans (HB9.out.mono HL1.out.bel.size)⟩
     rw [← HY.out]
     exact HO9.out.base HL1.out.bel.size
end Go.Proofs.YtbfefdedjcppaaaGreatDoor
