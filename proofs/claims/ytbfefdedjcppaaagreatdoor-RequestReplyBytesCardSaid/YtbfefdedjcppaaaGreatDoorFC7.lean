/- vulgateref03.Bytes: a field's bytes (a byte, a number, a text). -/
import Derived.Test.YtbfefdedjcppaaaGreatDoorFB7
import Derived.Test.YtbfefdedjcppaaaGreatDoorSS6
import Derived.Lib.ConvBytes
namespace Go.Proofs.YtbfefdedjcppaaaGreatDoor
set_option maxRecDepth 100000
set_option maxHeartbeats 8000000
open Go.RowKit
def fdB (x : Fd) : List UInt8 := if x.k = 0 then [UInt8.ofNat x.n] else if x.k = 3 then small x.n else small x.s.size ++ x.s.data.toList
structure OkF (x : Fd) : Prop where
 k : x.k = 0 ∨ x.k = 3 ∨ x.k = 4
 n : x.n < 2 ^ 64
 s : x.s.size ≤ 10000
theorem exec_fFd {o : Oper} {a : Act} {w : World} (x : Operand) (n : Nat) (hn : n = 0 ∨ n = 1 ∨ n = 2) (ho : o.op = .fieldAddr 134 x n) (b f : Nat) (hx : a.eval x = .pointer (some ⟨b, f, none⟩)) : (execOp a.eval o).run Tryz.prog w = .ok (.value (.pointer (some ⟨b, f + n, none⟩))) w := by
 rcases hn with rfl | rfl | rfl <;>
 · unfold execOp
   simp only [ho, hx]
   simp [go_sem]
theorem exec_cvSB {o : Oper} {a : Act} {w : World} (x : Operand) (ho : o.op = .convert 9 22 x) (s : ByteArray) (hx : a.eval x = .string s) : (execOp a.eval o).run Tryz.prog w = .ok (.value (.slice (some ⟨w.heap.size, 0, none⟩) s.size (grownCap w s.size 0 5))) (Lib.bytesWorld w 5 s) := by
 have h := Lib.run_convert_string_bytes (P := Tryz.prog) w 9 22 5 s Tryz.underlying9 Tryz.underlying22 Tryz.underlying5
 unfold execOp
 simp only [ho, hx, Sem.run_bind, h, Result.andThen_ok, Sem.run_pure]
theorem bytesWorld_below (w : World) (s : ByteArray) : Below w.heap.size w (Lib.bytesWorld w 5 s) :=
 ⟨rfl, rfl, rfl, by rw [Lib.bytesWorld_size]; omega, fun k hk => Lib.bytesWorld_at_old w _ s k hk⟩
theorem bytesWorld_slat (w : World) (s : ByteArray) : SlAt byteC 1 (Lib.bytesWorld w 5 s) (some ⟨w.heap.size, 0, none⟩) s.data.toList := fun i hi => by
 refine ⟨w.heap.size, 0, rfl, by rw [Lib.bytesWorld_size]; omega, ?_⟩
 intro j u hu
 match j, hu with
 | 0, hu =>
   have hu : some (Value.int .u8 (s.data.toList[i].toNat : Int)) = some u := hu
   cases hu
   have := Lib.bytesWorld_cell w 5 s i (by simpa using hi)
   rw [show 0 + i * 1 + 0 = i by omega, this]
   congr 3
   rw [List.getD_eq_getElem?_getD, List.getElem?_eq_getElem hi]; rfl
 | j + 1, hu => cases hu
theorem fldB0_any (n : Nat) (s : ByteArray) (w : World) (hn : n < 2 ^ 64) : Calls Tryz.prog 115 #[.agg (fdC ⟨0, n, s⟩).toArray] w fun e w' => ∃ v, e = .returned v ∧ OwnE byteC 5 1 w' w.heap.size v [UInt8.ofNat n] ∧ Below w.heap.size w w' := by
 have HG := Lib.hid (heap_alloc_new w (.cells (fdC ⟨0, n, s⟩).toArray 134))
 have HB := Lib.hid (below_alloc1 w (.cells (fdC ⟨0, n, s⟩).toArray 134))
 have HS : Hid ((w.alloc (.cells (fdC ⟨0, n, s⟩).toArray 134)).heap.size = w.heap.size + 1) := by show _ = _; simp
 go_enter Tryz.func115, Tryz.ntmps115
 go_upto_region 1 with fail
 generalize w.alloc (.cells (fdC ⟨0, n, s⟩).toArray 134) = W1 at *
 have c0 : W1.cell? ⟨w.heap.size, 0, none⟩ = some (.int .i64 0) := by rw [cell_blk HG.out]; rfl
 have c1 : W1.cell? ⟨w.heap.size, 1, none⟩ = some (.int .u64 (n : Int)) := by rw [cell_blk HG.out]; rfl
 have hm : IntKind.u8.wrap ((n : Int) % 256) = ((UInt8.ofNat n).toNat : Int) := by
   rw [IntKind.wrap_u8, UInt8.toNat_ofNat']; omega
 go_wp2_with fail
 have hx : (n : Int) % 256 = ((UInt8.ofNat n).toNat : Int) := by rw [UInt8.toNat_ofNat']; omega
 have ho : OwnE byteC 5 1 (W1.alloc (.cells #[.int .u8 ((n : Int) % 256)] 5)) w.heap.size (.slice (some ⟨W1.heap.size, 0, none⟩) 1 1) [UInt8.ofNat n] := by
   rw [hx]
   exact own_bytes W1 [UInt8.ofNat n] 1 w.heap.size rfl HB.out.size (by decide)
 go_ret
 exact ⟨_, rfl, ho, HB.out.trans ((below_alloc1 W1 _).mono HB.out.size)⟩
theorem fldB3_any (n : Nat) (s : ByteArray) (w : World) (hn : n < 2 ^ 64) : Calls Tryz.prog 115 #[.agg (fdC ⟨3, n, s⟩).toArray] w fun e w' => ∃ v, e = .returned v ∧ OwnE byteC 5 1 w' w.heap.size v (small n) ∧ Below w.heap.size w w' := by
 have HG := Lib.hid (heap_alloc_new w (.cells (fdC ⟨3, n, s⟩).toArray 134))
 have HB := Lib.hid (below_alloc1 w (.cells (fdC ⟨3, n, s⟩).toArray 134))
 have KS : Hid (∀ W, Calls Tryz.prog 143 #[.int .u64 (n : Int)] W fun e w' => ∃ v, e = .returned v ∧ OwnE byteC 5 1 w' W.heap.size v (small n) ∧ Below W.heap.size W w') := fun W => refSmall_any n W hn
 go_enter Tryz.func115, Tryz.ntmps115
 go_upto_region 1 with fail
 generalize w.alloc (.cells (fdC ⟨3, n, s⟩).toArray 134) = W1 at *
 have c0 : W1.cell? ⟨w.heap.size, 0, none⟩ = some (.int .i64 3) := by rw [cell_blk HG.out]; rfl
 have c1 : W1.cell? ⟨w.heap.size, 1, none⟩ = some (.int .u64 (n : Int)) := by rw [cell_blk HG.out]; rfl
 go_wp2_with (go_at_call 143; (refine (KS.out _).mono ?_); rintro e W2 ⟨v, rfl, ho, hb⟩; have HO := Lib.hid ho; have HB2 := Lib.hid hb; clear ho hb)
 go_ret
 exact ⟨v, rfl, HO.out.base HB.out.size, HB.out.trans (HB2.out.mono HB.out.size)⟩
theorem fldB4_any (n : Nat) (s : ByteArray) (w : World) (hs : s.size ≤ 10000) : Calls Tryz.prog 115 #[.agg (fdC ⟨4, n, s⟩).toArray] w fun e w' => ∃ v, e = .returned v ∧ OwnE byteC 5 1 w' w.heap.size v (small s.size ++ s.data.toList) ∧ Below w.heap.size w w' := by
 have HG := Lib.hid (heap_alloc_new w (.cells (fdC ⟨4, n, s⟩).toArray 134))
 have HB := Lib.hid (below_alloc1 w (.cells (fdC ⟨4, n, s⟩).toArray 134))
 have hlb := lt_heap HG.out
 go_enter Tryz.func115, Tryz.ntmps115
 go_upto_region 1 with fail
 generalize w.alloc (.cells (fdC ⟨4, n, s⟩).toArray 134) = W1 at *
 have c0 : W1.cell? ⟨w.heap.size, 0, none⟩ = some (.int .i64 4) := by rw [cell_blk HG.out]; rfl
 go_upto_region 10 with fail
 refine wp_region_held_drew (S := fun W => W.heap[w.heap.size]? = W1.heap[w.heap.size]?) (by kernel_rfl) rfl (fun hH => ?_)
 show wpAnyH Tryz.prog Region.Mode.any _ _ _ 10 #[false, false, false, false, false, false, false, false, false, false] _ _
 refine takeR (i := 0) (v := .pointer (some ⟨w.heap.size, 2, none⟩)) 28 rfl rfl (by kernel_rfl) (by kernel_rfl) (by kernel_rfl) (fun _ _ _ h => h) (Or.inl ⟨rfl, fun w' hS => exec_fFd _ 2 (by omega) rfl _ 0 rfl⟩) hH ?_
 simp only [Act.put, wrT]
 refine takeR (i := 5) (v := .pointer (some ⟨w.heap.size, 2, none⟩)) 33 rfl rfl (by kernel_rfl) (by kernel_rfl) (by kernel_rfl) (fun _ _ _ h => h) (Or.inl ⟨rfl, fun w' hS => exec_fFd _ 2 (by omega) rfl _ 0 rfl⟩) hH ?_
 simp only [Act.put, wrT]
 refine takeR (i := 1) (v := .string s) 29 rfl rfl (by kernel_rfl) (by kernel_rfl) (by kernel_rfl) (fun _ _ _ h => h) (Or.inl ⟨rfl, fun w' hS => exec_ld1G 9 ag9 _ rfl w.heap.size 2 _ rfl (by rw [cell_blk (hS.trans HG.out)]; rfl)⟩) hH ?_
 simp only [Act.put, wrT]
 refine takeR (i := 6) (v := .string s) 34 rfl rfl (by kernel_rfl) (by kernel_rfl) (by kernel_rfl) (fun _ _ _ h => h) (Or.inl ⟨rfl, fun w' hS => exec_ld1G 9 ag9 _ rfl w.heap.size 2 _ rfl (by rw [cell_blk (hS.trans HG.out)]; rfl)⟩) hH ?_
 simp only [Act.put, wrT]
 refine takeR (i := 2) (v := .int .i64 (s.size : Int)) 30 rfl rfl (by kernel_rfl) (by kernel_rfl) (by kernel_rfl) (fun _ _ _ h => h) (Or.inl ⟨rfl, fun w' hS => exec_lenS (.tmp 29) rfl s rfl⟩) hH ?_
 simp only [Act.put, wrT]
 refine takeR (i := 3) (v := .int .u64 (s.size : Int)) 31 rfl rfl (by kernel_rfl) (by kernel_rfl) (by kernel_rfl) (fun _ _ _ h => h) (Or.inl ⟨rfl, fun w' hS => exec_cvIU (.tmp 30) rfl s.size (by omega) rfl⟩) hH ?_
 simp only [Act.put, wrT]
 have HS2 : ∀ w' : World, Below W1.heap.size W1 w' → w'.heap[w.heap.size]? = W1.heap[w.heap.size]? := fun w' h => h.block _ hlb
 have hdr : Below W1.heap.size W1 W1.drew := ⟨rfl, rfl, rfl, Nat.le_refl _, fun _ _ => rfl⟩
 have KS : ∀ W, Calls Tryz.prog 143 #[.int .u64 (s.size : Int)] W fun e w' => ∃ v, e = .returned v ∧ OwnE byteC 5 1 w' W.heap.size v (small s.size) ∧ Below W.heap.size W w' := fun W => refSmall_any s.size W (by omega)
 have hsl := small_le2 hs
 have hdl : s.data.toList.length = s.size := by simp
 refine wpAnyH_all (rs := [4, 7]) (by kernel_rfl) (by simp) fun j hj => ?_
 have hj : j = 4 ∨ j = 7 := by simpa using hj
 rcases hj with rfl | rfl
 · refine wpOp_call rfl rfl (exec_calls rfl (enters_of Tryz.func143 (by kernel_rfl) rfl) (vs := #[.int .u64 (s.size : Int)]) (by simp [Act.eval]) _) (KS _) (fun e w2 hR => ?_)
   obtain ⟨v2, rfl, hv2, hb2⟩ := hR
   have hB2 : Below W1.heap.size W1 w2 := hdr.trans (hb2.mono hdr.size)
   refine ⟨_, rfl, HS2 _ hB2, ?_⟩
   simp only [Act.put, rdT, wrT]
   have hb3 := bytesWorld_below w2 s
   have hB3 : Below W1.heap.size W1 (Lib.bytesWorld w2 5 s) := hB2.trans (hb3.mono hB2.size)
   refine oneH 7 (by kernel_rfl) (wpOp_val rfl rfl (exec_cvSB (.tmp 34) rfl s rfl) ?_)
   refine ⟨HS2 _ hB3, ?_⟩
   simp only [Act.put, rdT, wrT]
   refine oneH 8 (by kernel_rfl) (wpOp_wp rfl rfl (op_app 22 5 1 (.int .u8 0) Tryz.underlying22 infoU8 rfl (by omega) byteC_len byteC_one (.tmp 32) (.tmp 35) rfl W1.heap.size v2 (small s.size) rfl ((hv2.below hb3).base (Nat.le_refl _)) (some ⟨w2.heap.size, 0, none⟩) s.size _ s.data.toList rfl hdl (bytesWorld_slat w2 s) (fun e => by cases e) (by omega) (by unfold maxLen; omega) hB3.size ?_))
   intro v4 w4 ho4 hg4 _
   have hB4 : Below W1.heap.size W1 w4 := hB3.trans (grown_below hg4 (fun g hg => (hv2.lt g hg).1) hB3.size)
   refine ⟨HS2 _ hB4, ?_⟩
   simp only [Act.put, rdT, wrT]
   refine oneH 9 (by kernel_rfl) (wpOp_as rfl rfl (.tmp 36) rfl v4 rfl ?_)
   refine ⟨HS2 _ hB4, ?_⟩
   simp only [Act.put, rdT, wrT]
   refine wpAnyH_done (by kernel_rfl) ?_ _
   go_wp2_with fail
   go_ret
   exact ⟨v4, rfl, ho4.base HB.out.size, HB.out.trans (hB4.mono HB.out.size)⟩
 · have hb3 := bytesWorld_below W1.drew s
   have hB3 : Below W1.heap.size W1 (Lib.bytesWorld W1.drew 5 s) := hdr.trans (hb3.mono hdr.size)
   have hsl3 := bytesWorld_slat W1.drew s
   refine wpOp_val rfl rfl (exec_cvSB (.tmp 34) rfl s rfl) ?_
   refine ⟨HS2 _ hB3, ?_⟩
   simp only [Act.put, rdT, wrT]
   refine oneH 4 (by kernel_rfl) (wpOp_call rfl rfl (exec_calls rfl (enters_of Tryz.func143 (by kernel_rfl) rfl) (vs := #[.int .u64 (s.size : Int)]) (by simp [Act.eval]) _) (KS _) (fun e w2 hR => ?_))
   obtain ⟨v2, rfl, hv2, hb2⟩ := hR
   have hB2 : Below W1.heap.size W1 w2 := hB3.trans (hb2.mono hB3.size)
   refine ⟨_, rfl, HS2 _ hB2, ?_⟩
   simp only [Act.put, rdT, wrT]
   refine oneH 8 (by kernel_rfl) (wpOp_wp rfl rfl (op_app 22 5 1 (.int .u8 0) Tryz.underlying22 infoU8 rfl (by omega) byteC_len byteC_one (.tmp 32) (.tmp 35) rfl W1.heap.size v2 (small s.size) rfl (hv2.base hB3.size) (some ⟨W1.drew.heap.size, 0, none⟩) s.size _ s.data.toList rfl hdl (hsl3.below hb2) (fun e => by cases e) (by omega) (by unfold maxLen; omega) hB2.size ?_))
   intro v4 w4 ho4 hg4 _
   have hB4 : Below W1.heap.size W1 w4 := hB2.trans (grown_below hg4 (fun g hg => Nat.le_trans hB3.size (hv2.lt g hg).1) hB2.size)
   refine ⟨HS2 _ hB4, ?_⟩
   simp only [Act.put, rdT, wrT]
   refine oneH 9 (by kernel_rfl) (wpOp_as rfl rfl (.tmp 36) rfl v4 rfl ?_)
   refine ⟨HS2 _ hB4, ?_⟩
   simp only [Act.put, rdT, wrT]
   refine wpAnyH_done (by kernel_rfl) ?_ _
   go_wp2_with fail
   go_ret
   exact ⟨v4, rfl, ho4.base HB.out.size, HB.out.trans (hB4.mono HB.out.size)⟩
end Go.Proofs.YtbfefdedjcppaaaGreatDoor
