/- Texts joined: RG. -/
import Derived.Test.YtbfefdedjcppaaaGreatDoorRF
import Derived.Test.YtbfefdedjcppaaaGreatDoorEL6
/- The document's in: tag. -/
namespace Go.Proofs.YtbfefdedjcppaaaGreatDoor
open Go.RowKit Go.Deep
structure TgSt (w W : World) (a : List Value) : Prop where
 bel : Below w.heap.size w W
 x : W.heap[w.heap.size]? = some (.cells a.toArray 103 (0, 0))
 r : W.heap[w.heap.size + 1]? = some (.cells #[.slice none 0 0, .int .i64 0] 103 (0, 0))
 t : W.heap[w.heap.size + 1 + 1]? = some (.cells (bC tag0) 40 (0, 0))
theorem TgSt.below {w W W' : World} {a : List Value} (h : TgSt w W a) (hb : Below W.heap.size W W') : TgSt w W' a :=
 ⟨h.bel.trans (hb.mono h.bel.size), (hb.block _ (lt_heap h.x)).trans h.x, (hb.block _ (lt_heap h.r)).trans h.r, (hb.block _ (lt_heap h.t)).trans h.t⟩
theorem TgSt.set {w W : World} {a a' : List Value} (h : TgSt w W a) : TgSt w (W.setRow w.heap.size a'.toArray) a' :=
 ⟨setRow_below h.bel (Nat.le_refl _) _, setRow_at h.x, (setRow_other _ _ _ _ (by omega)).trans h.r, (setRow_other _ _ _ _ (by omega)).trans h.t⟩
theorem TgSt.start (w : World) (a : List Value) : TgSt w (((w.alloc (.cells a.toArray 103)).alloc (.cells #[.slice none 0 0, .int .i64 0] 103)).alloc (.cells (bC tag0) 40)) a := by
 refine ⟨(below_alloc2 _ _ _).alloc (by simp; omega) _, ?_, ?_, ?_⟩
 · rw [heap_alloc_old _ _ (by simp; omega)]; exact heap_alloc2_old _ _ _
 · rw [heap_alloc_old _ _ (by simp)]; exact heap_alloc2_new _ _ _
 · have := heap_alloc_new ((w.alloc (.cells a.toArray 103)).alloc (.cells #[.slice none 0 0, .int .i64 0] 103)) (.cells (bC tag0) 40); simpa using this
structure TgSt2 (w W : World) (a v : Array Value) : Prop where
 bel : Below w.heap.size w W
 r : W.heap[w.heap.size + 1]? = some (.cells a 103 (0, 0))
 t : W.heap[w.heap.size + 1 + 1]? = some (.cells v 40 (0, 0))
def TgC (w : World) (x : List Value) (bt : List UInt8) (g : Nat) (t : T3) : Nat → World → Prop
 | 0, W => TgSt2 w W #[.slice none 0 0, .int .i64 0] (bC tag0) ∧ W.heap[w.heap.size]? = some (.cells x.toArray 103 (0, 0)) ∧ W.heap[g]? = some (.cells (tC t) 181 (0, 0))
 | 1, W => TgSt2 w W #[.slice none 0 0, .int .i64 0] (bC tag0) ∧ W.heap[w.heap.size]? = some (.cells x.toArray 103 (0, 0)) ∧ W.heap[g]? = some (.cells (tC t) 181 (0, 0))
 | 2, W => TgSt2 w W x.toArray (bC tag0) ∧ W.heap[w.heap.size]? = some (.cells x.toArray 103 (0, 0)) ∧ W.heap[g]? = some (.cells (tC t) 181 (0, 0))
 | _, W => TgSt2 w W x.toArray (bC bt) ∧ W.heap[w.heap.size]? = some (.cells x.toArray 103 (0, 0)) ∧ W.heap[g]? = some (.cells (tC t) 181 (0, 0))
theorem TgC.rest {w W : World} {x : List Value} {bt : List UInt8} {g k : Nat} {t : T3} (h : TgC w x bt g t k W) : W.heap[w.heap.size]? = some (.cells x.toArray 103 (0, 0)) ∧ W.heap[g]? = some (.cells (tC t) 181 (0, 0)) := by
 match k, h with
 | 0, h => exact h.2
 | 1, h => exact h.2
 | 2, h => exact h.2
 | k + 3, h => exact h.2
end Go.Proofs.YtbfefdedjcppaaaGreatDoor

/- vulgateref02: Less, Same at bytes that are alike. -/
namespace Go.Proofs.YtbfefdedjcppaaaGreatDoor
set_option maxRecDepth 100000
set_option maxHeartbeats 4000000
open Go.RowKit
theorem sizU8 : (Tryz.prog.info? 5).map (·.size) = some 1 := by kernel_rfl
theorem ag5u (w : World) : (isAgg 5).run Tryz.prog w = .ok false w := by simp [isAgg, run_underlying Tryz.underlying5]
theorem exec_ixU {o : Oper} {a : Act} {w : World} (x y : Operand) (ho : o.op = .indexAddr 22 x y) (b f : Nat) (n c j : Nat) (hx : a.eval x = .slice (some ⟨b, f, none⟩) n c) (hy : a.eval y = .int .i64 (j : Int)) (hj : j < n) : (execOp a.eval o).run Tryz.prog w = .ok (.value (.pointer (some ⟨b, f + j * 1, none⟩))) w := by
 have hq := sizU8
 cases hq2 : Tryz.prog.info? 5 with
 | none => simp [hq2] at hq
 | some i =>
   have hs : i.size = 1 := by simpa [hq2] using hq
   unfold execOp
   simp only [ho, hx, hy]
   simp [go_sem, Tryz.underlying22, sizeOf, typeInfo, hq2, hs, hj]
theorem exec_neU {o : Oper} {a : Act} {w : World} (x y : Operand) (ho : o.op = .binOp .neq 5 x y 5) (u : UInt8) (hx : a.eval x = .int .u8 (u.toNat : Int)) (hy : a.eval y = .int .u8 (u.toNat : Int)) : (execOp a.eval o).run Tryz.prog w = .ok (.value (.bool false)) w := by
 unfold execOp
 simp only [ho, hx, hy]
 simp [go_sem]
theorem lessSelf_any (q q' : Option Addr) (n c c' : Nat) (xs : List UInt8) (w : World) (hn : xs.length = n) (hq : SlAt byteC 1 w q xs) (hq' : SlAt byteC 1 w q' xs) (hsz : n ≤ 1000000) : Calls Tryz.prog 46 #[.slice q n c, .slice q' n c'] w fun e w' => e = .returned (.bool false) ∧ Below w.heap.size w w' := by
 have HN := Lib.hid hn
 have HQ := Lib.hid hq
 have HQ' := Lib.hid hq'
 clear hn hq hq'
 go_enter Tryz.func46, Tryz.ntmps46
 go_wp2_with fail
 go_loopw [5] (fun i wr => ∃ k : Nat, k ≤ n ∧ i = .int .i64 (k : Int) ∧ Hid (Below w.heap.size w wr)) (fun i _ => n - (intOf i).toNat)
 case atStart => exact ⟨0, Nat.zero_le _, rfl, Below.refl _ _⟩
 case round =>
   obtain ⟨k, hk, rfl, HB⟩ := hrel
   by_cases hlt : k < n
   · have hlx : k < xs.length := by rw [HN.out]; exact hlt
     have hlt' : (k : Int) < (n : Int) := by omega
     have hge : ¬ (n : Int) ≤ (k : Int) := by omega
     obtain ⟨b0, o0, rfl, hb0, hr0⟩ := (HQ.out.below HB.out) k hlx
     obtain ⟨b1, o1, rfl, hb1, hr1⟩ := (HQ'.out.below HB.out) k hlx
     have hx0 := hr0 0 (.int .u8 ((xs[k]).toNat : Int)) rfl
     have hx1 := hr1 0 (.int .u8 ((xs[k]).toNat : Int)) rfl
     rw [Nat.add_zero] at hx0 hx1
     generalize xs[k] = x at *
     have HX0 := Lib.hid hx0
     have HX1 := Lib.hid hx1
     clear hr0 hr1 hb0 hb1 hx0 hx1
     go_upto_region 6 with fail
     have hS : wr.drew.cell? ⟨b0, o0 + k * 1, none⟩ = some (.int .u8 (x.toNat : Int)) ∧ wr.drew.cell? ⟨b1, o1 + k * 1, none⟩ = some (.int .u8 (x.toNat : Int)) := ⟨HX0.out, HX1.out⟩
     refine wp_region_held_drew (S := fun W => W.cell? ⟨b0, o0 + k * 1, none⟩ = some (.int .u8 (x.toNat : Int)) ∧ W.cell? ⟨b1, o1 + k * 1, none⟩ = some (.int .u8 (x.toNat : Int))) (by kernel_rfl) hS (fun hH => ?_)
     · show wpAnyH Tryz.prog Region.Mode.any _ _ _ 9 #[false, false, false, false, false, false, false, false, false] _ _
       refine takeR (i := 0) (v := .slice (some ⟨b0, o0, none⟩) n c) 16 rfl rfl (by kernel_rfl) (by kernel_rfl) (by kernel_rfl) (fun _ _ _ h => h) (Or.inl ⟨rfl, fun w' hS => exec_mvT (.tmp 0) rfl _ rfl⟩) hH ?_
       simp only [Act.put, wrT]
       refine takeR (i := 1) (v := .int .i64 (k : Int)) 17 rfl rfl (by kernel_rfl) (by kernel_rfl) (by kernel_rfl) (fun _ _ _ h => h) (Or.inl ⟨rfl, fun w' hS => exec_mvT (.tmp 5) rfl _ rfl⟩) hH ?_
       simp only [Act.put, wrT]
       refine takeR (i := 2) (v := .pointer (some ⟨b0, o0 + k * 1, none⟩)) 18 rfl rfl (by kernel_rfl) (by kernel_rfl) (by kernel_rfl) (fun _ _ _ h => h) (Or.inl ⟨rfl, fun w' hS => exec_ixU (.tmp 16) (.tmp 17) rfl b0 o0 n _ k rfl rfl hlt⟩) hH ?_
       simp only [Act.put, wrT]
       refine takeR (i := 3) (v := .int .u8 (x.toNat : Int)) 19 rfl rfl (by kernel_rfl) (by kernel_rfl) (by kernel_rfl) (fun _ _ _ h => h) (Or.inl ⟨rfl, fun w' hS => exec_ld1G 5 ag5u _ rfl b0 (o0 + k * 1) _ rfl hS.1⟩) hH ?_
       simp only [Act.put, wrT]
       refine takeR (i := 4) (v := .slice (some ⟨b1, o1, none⟩) n c') 20 rfl rfl (by kernel_rfl) (by kernel_rfl) (by kernel_rfl) (fun _ _ _ h => h) (Or.inl ⟨rfl, fun w' hS => exec_mvT (.tmp 1) rfl _ rfl⟩) hH ?_
       simp only [Act.put, wrT]
       refine takeR (i := 5) (v := .int .i64 (k : Int)) 21 rfl rfl (by kernel_rfl) (by kernel_rfl) (by kernel_rfl) (fun _ _ _ h => h) (Or.inl ⟨rfl, fun w' hS => exec_mvT (.tmp 5) rfl _ rfl⟩) hH ?_
       simp only [Act.put, wrT]
       refine takeR (i := 6) (v := .pointer (some ⟨b1, o1 + k * 1, none⟩)) 22 rfl rfl (by kernel_rfl) (by kernel_rfl) (by kernel_rfl) (fun _ _ _ h => h) (Or.inl ⟨rfl, fun w' hS => exec_ixU (.tmp 20) (.tmp 21) rfl b1 o1 n _ k rfl rfl hlt⟩) hH ?_
       simp only [Act.put, wrT]
       refine takeR (i := 7) (v := .int .u8 (x.toNat : Int)) 23 rfl rfl (by kernel_rfl) (by kernel_rfl) (by kernel_rfl) (fun _ _ _ h => h) (Or.inl ⟨rfl, fun w' hS => exec_ld1G 5 ag5u _ rfl b1 (o1 + k * 1) _ rfl hS.2⟩) hH ?_
       simp only [Act.put, wrT]
       refine takeR (i := 8) (v := .bool false) 24 rfl rfl (by kernel_rfl) (by kernel_rfl) (by kernel_rfl) (fun _ _ _ h => h) (Or.inl ⟨rfl, fun w' hS => exec_neU (.tmp 19) (.tmp 23) rfl x rfl rfl⟩) hH ?_
       simp only [Act.put, wrT]
       refine wpAnyH_done (by kernel_rfl) ?_ _
       try simp only [Act.put, rdT, wrT]
       have HBd : Hid (Below w.heap.size w wr.drew) := HB.out.drew
       clear hS hH
       go_wp2_with fail
       go_roundw
       case rel => exact ⟨k + 1, by omega, by simp, HBd.out⟩
       case measure => simp [intOf]; omega
   · obtain rfl : k = n := by omega
     go_wp2_with fail
     go_ret
     exact ⟨rfl, HB.out⟩
theorem sameSelf_any (q q' : Option Addr) (n c c' : Nat) (xs : List UInt8) (w : World) (hn : xs.length = n) (hq : SlAt byteC 1 w q xs) (hq' : SlAt byteC 1 w q' xs) (hsz : n ≤ 1000000) : Calls Tryz.prog 12 #[.slice q n c, .slice q' n c'] w fun e w' => e = .returned (.bool true) ∧ Below w.heap.size w w' := by
 have K1 := Lib.hid (lessSelf_any q q' n c c' xs w hn hq hq' hsz)
 have K2 : Hid (∀ W, Below w.heap.size w W → Calls Tryz.prog 46 #[.slice q' n c', .slice q n c] W fun e w' => e = .returned (.bool false) ∧ Below W.heap.size W w') := fun W hW => lessSelf_any q' q n c' c xs W hn (hq'.below hW) (hq.below hW) hsz
 clear hq hq' hn
 go_enter Tryz.func12, Tryz.ntmps12
 go_wp2_with (first
   | (go_at_call 46; (with_reducible refine (K2.out _ HB1.out).mono ?_); rintro e W2 ⟨rfl, hb⟩; have HB2 := Lib.hid (HB1.out.trans (hb.mono HB1.out.size)); clear hb)
   | (go_at_call 46; (with_reducible refine K1.out.mono ?_); rintro e W1 ⟨rfl, hb⟩; have HB1 := Lib.hid hb; clear hb))
 go_ret
 exact ⟨rfl, HB2.out⟩
end Go.Proofs.YtbfefdedjcppaaaGreatDoor

/- vulgateref06.Read: the parts of 25 bytes. -/
namespace Go.Proofs.YtbfefdedjcppaaaGreatDoor
open Go.RowKit
def rkH (b : List UInt8) : List Value := [.int .i64 ((b.getD 0 0).toNat : Int), .int .i64 ((b.getD 1 0).toNat : Int), .int .i64 ((b.getD 2 0).toNat : Int)]
def rkM (b : List UInt8) (m : Nat) : List Value := rkH b ++ (bC ((b.drop 3).take m ++ List.replicate (22 - m) 0)).toList
def rkR (b : List UInt8) : List Value := rkH b ++ (bC (b.drop 3)).toList
theorem rkM_len (b : List UInt8) (hb : b.length = 25) (m : Nat) (hm : m ≤ 22) : (rkM b m).length = 25 := by
 simp [rkM, rkH, bC, hb]; omega
theorem rkM_all (b : List UInt8) (hb : b.length = 25) : rkM b 22 = rkR b := by
 unfold rkM rkR
 rw [List.take_of_length_le (by rw [List.length_drop]; omega)]
 simp
theorem rkR_len (b : List UInt8) (hb : b.length = 25) : (rkR b).length = 25 := by rw [← rkM_all b hb]; exact rkM_len b hb 22 (Nat.le_refl _)
theorem rkR_one (b : List UInt8) : (rkR b).all (·.oneCell') = true := by
 simp only [rkR, List.all_append, bC_all, Bool.and_true]; rfl
theorem sizR44 : (Tryz.prog.info? 44).map (·.size) = some 25 := by kernel_rfl
structure RkSt (w W : World) (b : List UInt8) (m : Nat) : Prop where
 bel : Below w.heap.size w W
 src : W.heap[w.heap.size]? = some (.cells (bC b) 108 (0, 0))
 res : W.heap[w.heap.size + 1]? = some (.cells #[Value.int .i64 0, .int .i64 0, .int .i64 0, .int .u8 0, .int .u8 0, .int .u8 0, .int .u8 0, .int .u8 0, .int .u8 0, .int .u8 0, .int .u8 0, .int .u8 0, .int .u8 0, .int .u8 0, .int .u8 0, .int .u8 0, .int .u8 0, .int .u8 0, .int .u8 0, .int .u8 0, .int .u8 0, .int .u8 0, .int .u8 0, .int .u8 0, .int .u8 0] 44 (0, 0))
 dst : W.heap[w.heap.size + 1 + 1]? = some (.cells (rkM b m).toArray 44 (0, 0))
theorem RkSt.step {w W W' : World} {b : List UInt8} {m m' : Nat} (h : RkSt w W b m) (hd : W'.heap[w.heap.size + 1 + 1]? = some (.cells (rkM b m').toArray 44 (0, 0))) (ht : Turn [w.heap.size + 1 + 1] W W') : RkSt w W' b m' := by
 have hk : ∀ k, k < W.heap.size → k ≠ w.heap.size + 1 + 1 → W'.heap[k]? = W.heap[k]? := fun k a b => ht.block k a (by simpa using b)
 exact ⟨h.bel.trans (ht.below (fun k hk => by simp at hk; omega) h.bel.size), (hk _ (lt_heap h.src) (by omega)).trans h.src, (hk _ (lt_heap h.res) (by omega)).trans h.res, hd⟩
end Go.Proofs.YtbfefdedjcppaaaGreatDoor
