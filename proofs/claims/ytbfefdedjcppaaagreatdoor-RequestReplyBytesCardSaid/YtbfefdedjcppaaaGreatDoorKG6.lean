/- key.Right, key.Read. -/
import Derived.Test.YtbfefdedjcppaaaGreatDoorKO6
import Derived.Test.YtbfefdedjcppaaaGreatDoorBB5
namespace Go.Proofs.YtbfefdedjcppaaaGreatDoor
set_option maxRecDepth 100000
set_option maxHeartbeats 8000000
open Go.RowKit
theorem u8_i64 (b : UInt8) : IntKind.i64.wrap (b.toNat : Int) = (b.toNat : Int) := by
 have := b.toNat_lt
 rw [IntKind.wrap_i64]; omega
def rightP (b0 b1 b2 : UInt8) (nm tg : List UInt8) : Bool := decide (errK b0 b1 b2 nm tg = 0) && (ofK b0 b1 b2 nm tg == kL b0 b1 b2 nm tg)
def rightK (k : List UInt8) : Bool := rightP (k.getD 0 0) (k.getD 1 0) (k.getD 2 0) ((k.drop 3).take 12) (k.drop 15)
theorem rightK_kL {b0 b1 b2 : UInt8} {nm tg : List UInt8} (hn : nm.length = 12) : rightK (kL b0 b1 b2 nm tg) = rightP b0 b1 b2 nm tg := by
 unfold rightK kL
 have e1 : ((b0 :: b1 :: b2 :: (nm ++ tg)).drop 3).take 12 = nm := by
   show (nm ++ tg).take 12 = nm
   exact List.take_left' hn
 have e2 : (b0 :: b1 :: b2 :: (nm ++ tg)).drop 15 = tg := by
   show (nm ++ tg).drop 12 = tg
   exact List.drop_left' hn
 rw [e1, e2]; rfl
theorem kL_ex (k : List UInt8) (hk : k.length = 25) : ∃ b0 b1 b2 nm tg, k = kL b0 b1 b2 nm tg ∧ nm.length = 12 ∧ tg.length = 10 := Kx.key_parts k hk
theorem ofK_len (b0 b1 b2 : UInt8) {nm tg : List UInt8} (hn : nm.length = 12) (ht : tg.length = 10) : (ofK b0 b1 b2 nm tg).length = 25 := by
 unfold ofK
 split
 · refine kL_len ?_ ?_
   · split
     · exact hn
     · rfl
   · split
     · exact ht
     · rfl
 · rfl
theorem kL_sub {W : World} {g : Nat} {b0 b1 b2 : UInt8} {nm tg : List UInt8} {T : TypeId} (hn : nm.length = 12) (h : W.heap[g]? = some (.cells (bC (kL b0 b1 b2 nm tg)) T (0, 0))) :
   W.cell? ⟨g, 0, none⟩ = some (.int .u8 (b0.toNat : Int)) ∧ W.cell? ⟨g, 1, none⟩ = some (.int .u8 (b1.toNat : Int)) ∧ W.cell? ⟨g, 2, none⟩ = some (.int .u8 (b2.toNat : Int)) ∧ W.rangeAt g 3 (bC nm).toList ∧ W.rangeAt g 15 (bC tg).toList := by
 refine ⟨by rw [cell_blk h]; rfl, by rw [cell_blk h]; rfl, by rw [cell_blk h]; rfl, ?_⟩
 have e : (bC (kL b0 b1 b2 nm tg)).toList = [Value.int .u8 (b0.toNat : Int), .int .u8 (b1.toNat : Int), .int .u8 (b2.toNat : Int)] ++ ((bC nm).toList ++ (bC tg).toList) := by simp [kL, bC]
 have h2 : W.rangeAt g 0 (bC (kL b0 b1 b2 nm tg)).toList := range_whole (by simpa using h)
 rw [e] at h2
 have h3 := range_app_right h2 3 rfl
 rw [Nat.zero_add] at h3
 exact ⟨range_app_left h3, range_app_right h3 12 (by simp [bC, hn])⟩
theorem keyRight_any (k : List UInt8) (w : World) (hk : k.length = 25) (hmx : MX w) : Calls Tryz.prog 112 #[.agg (bC k)] w fun e w' => e = .returned (.bool (rightK k)) ∧ Below w.heap.size w w' := by
 obtain ⟨b0, b1, b2, nm, tg, rfl, hn, ht⟩ := kL_ex k hk
 have HG0 := Lib.hid (heap_alloc_new w (.cells (bC (kL b0 b1 b2 nm tg)) 32))
 have HB0 := Lib.hid (below_alloc1 w (.cells (bC (kL b0 b1 b2 nm tg)) 32))
 have KO := Lib.hid (fun W (hW : Below w.heap.size w W) => keyOf_any b0 b1 b2 nm tg W hn ht (hmx.below hW))
 have HR : Hid (rightK (kL b0 b1 b2 nm tg) = (decide (errK b0 b1 b2 nm tg = 0) && (ofK b0 b1 b2 nm tg == kL b0 b1 b2 nm tg))) := rightK_kL hn
 have HEq : Hid (∀ W, (binOp .eql 32 (.agg (bC (ofK b0 b1 b2 nm tg))) (.agg (bC (kL b0 b1 b2 nm tg)))).run Tryz.prog W = .ok (.bool (ofK b0 b1 b2 nm tg == kL b0 b1 b2 nm tg)) W) := fun W => eqlKk W _ _ (ofK_len b0 b1 b2 hn ht) hk
 have HLo := Lib.hid (ofK_len b0 b1 b2 hn ht)
 have HLk := Lib.hid hk
 have HL12 := Lib.hid hn
 have HL10 := Lib.hid ht
 have hw0 := u8_i64 b0
 have hw1 := u8_i64 b1
 have hw2 := u8_i64 b2
 go_enter Tryz.func112, Tryz.ntmps112
 go_upto_region 1 with fail
 generalize w.alloc (.cells (bC (kL b0 b1 b2 nm tg)) 32) = W1 at *
 obtain ⟨hc0, hc1, hc2, hrn, hrt⟩ := kL_sub hn HG0.out
 have HRn := Lib.hid hrn
 have HRt := Lib.hid hrt
 clear hrn hrt hmx hn ht hk
 generalize ofK b0 b1 b2 nm tg = ok at *
 generalize errK b0 b1 b2 nm tg = ek at *
 go_upto_region 2 with (first
   | ((with_reducible refine gate_ld 24 _ rfl ?_); refine wl_ldr rfl 24 _ rfl w.heap.size 3 (bC nm).toList _ Tryz.underlying24 rfl (by rw [sizNm]; simp [bC, HL12.out]) rfl HRn.out ?_)
   | ((with_reducible refine gate_ld 28 _ rfl ?_); refine wl_ldr rfl 28 _ rfl w.heap.size 15 (bC tg).toList _ Tryz.underlying28 rfl (by rw [sizTag19]; simp [bC, HL10.out]) rfl HRt.out ?_)
   | (go_at_call 140; (with_reducible refine (KO.out _ HB0.out).mono ?_); rintro e W2 ⟨rfl, hb2⟩; have HB2 := Lib.hid (HB0.out.trans (hb2.mono HB0.out.size)); have HG2 := Lib.hid ((hb2.block _ (lt_heap HG0.out)).trans HG0.out); clear hb2)
   | ((with_reducible refine gate_st 32 _ _ rfl ?_); refine wl_strn rfl _ _ _ rfl (bC ok) #[Value.int IntKind.u8 0, Value.int IntKind.u8 0, Value.int IntKind.u8 0, Value.int IntKind.u8 0, Value.int IntKind.u8 0, Value.int IntKind.u8 0, Value.int IntKind.u8 0, Value.int IntKind.u8 0, Value.int IntKind.u8 0, Value.int IntKind.u8 0, Value.int IntKind.u8 0, Value.int IntKind.u8 0, Value.int IntKind.u8 0, Value.int IntKind.u8 0, Value.int IntKind.u8 0, Value.int IntKind.u8 0, Value.int IntKind.u8 0, Value.int IntKind.u8 0, Value.int IntKind.u8 0, Value.int IntKind.u8 0, Value.int IntKind.u8 0, Value.int IntKind.u8 0, Value.int IntKind.u8 0, Value.int IntKind.u8 0, Value.int IntKind.u8 0] _ (by rw [sizKey, bC_size, HLo.out]) (by rw [bC_size, HLo.out]; rfl) (bC_one _) (by simp [Act.eval]) rfl ?_))
 have HB3 := Lib.hid (HB2.out.alloc HB2.out.size (.cells (bC ok) 32))
 have HG3 : Hid ((W2.alloc (.cells (bC ok) 32)).heap[w.heap.size]? = some (.cells (bC (kL b0 b1 b2 nm tg)) 32 (0, 0))) := (heap_alloc_old _ _ (lt_heap HG2.out)).trans HG2.out
 have HX3 := Lib.hid (heap_alloc_new W2 (.cells (bC ok) 32))
 generalize W2.alloc (.cells (bC ok) 32) = W3 at *
 generalize W2.heap.size = g at *
 clear HB2 HG2 HG0 HB0 hc0 hc1 hc2 HRn HRt KO
 obtain ⟨r, hr⟩ : ∃ r : Bool, (ok == kL b0 b1 b2 nm tg) = r := ⟨_, rfl⟩
 rw [hr] at HR HEq
 clear hr
 by_cases he : ek = 0
 · subst he
   go_wp2_with (first
     | ((with_reducible refine gate_ld 32 (.tmp 3) rfl ?_); refine wl_ldr rfl 32 _ rfl g 0 (bC ok).toList _ Tryz.underlying32 rfl (by rw [sizKey]; simp [bC, HLo.out]) rfl (range_whole (by simpa using HX3.out)) ?_)
     | ((with_reducible refine gate_ld 32 (.tmp 1) rfl ?_); refine wl_ldr rfl 32 _ rfl w.heap.size 0 (bC (kL b0 b1 b2 nm tg)).toList _ Tryz.underlying32 rfl (by rw [sizKey]; simp [bC, HLk.out]) rfl (range_whole (by simpa using HG3.out)) ?_)
     | ((with_reducible refine gate_op (.binOp .eql 32 (.tmp 25) (.tmp 26) 32) rfl ?_); refine wl_val rfl (.bool r) (exec_eqlG _ 32 (.tmp 25) (.tmp 26) rfl (bC ok) (bC (kL b0 b1 b2 nm tg)) _ rfl rfl (run_eqGuard_agg _ .eql 32 _ _ _ _ (by kernel_rfl)) (HEq.out _)) ?_))
   go_ret
   exact ⟨by rw [HR.out]; rfl, HB3.out⟩
 · have heI : ((ek : Int) == 0) = false := by simp; omega
   have HR2 : Hid (rightK (kL b0 b1 b2 nm tg) = false) := by show _ = _; rw [HR.out, decide_eq_false he]; rfl
   clear he HR
   go_wp2_with fail
   go_ret
   exact ⟨by rw [HR2.out]; rfl, HB3.out⟩
theorem rightT_z : rightT z10k = true := by decide +kernel
theorem rightP_tag {b0 b1 b2 : UInt8} {nm tg : List UInt8} (hn : nm.length = 12) (ht : tg.length = 10) (h : rightT tg = false) : rightP b0 b1 b2 nm tg = false := by
 unfold rightP
 by_cases he : errK b0 b1 b2 nm tg = 0
 · rw [he, decide_eq_true rfl, Bool.true_and]
   unfold ofK
   rw [if_pos he]
   cases hu : (usK6 b0.toNat).2.2 with
   | true =>
     exfalso
     unfold errK at he
     rw [hu, h] at he
     simp at he
     split at he
     · cases he
     split at he
     · cases he
     split at he
     · cases he
     · cases he
   | false =>
     have hne : tg ≠ z10k := fun e => by rw [e, rightT_z] at h; cases h
     have : ¬ (kL b0 b1 (if 0 < (usK6 b0.toNat).1 then b2 else 0) (if (usK6 b0.toNat).2.1 = true then nm else z12k) (if false = true then tg else z10k) = kL b0 b1 b2 nm tg) := fun e => by
       unfold kL at e
       simp only [List.cons.injEq] at e
       have e2 := e.2.2.2
       have hl : (if (usK6 b0.toNat).2.1 = true then nm else z12k).length = nm.length := by
         split
         · rfl
         · rw [hn]; rfl
       have := (List.append_inj e2 hl).2
       simp at this
       exact hne this.symm
     simpa using this
 · rw [decide_eq_false he, Bool.false_and]
structure KrSt (w W : World) (k x t : List UInt8) : Prop where
 bel : Below w.heap.size w W
 src : W.heap[w.heap.size]? = some (.cells (bC k) 108 (0, 0))
 res : W.heap[w.heap.size + 1]? = some (.cells (bC (kL 0 0 0 z12k z10k)) 32 (0, 0))
 key : W.heap[w.heap.size + 2]? = some (.cells (bC x) 32 (0, 0))
 tag : W.heap[w.heap.size + 3]? = some (.cells (bC t) 40 (0, 0))
theorem KrSt.drew {w W : World} {k x t : List UInt8} (h : KrSt w W k x t) : KrSt w W.drew k x t := ⟨h.bel.drew, h.src, h.res, h.key, h.tag⟩
theorem KrSt.below {w W W' : World} {k x t : List UInt8} (h : KrSt w W k x t) (hb : Below W.heap.size W W') : KrSt w W' k x t :=
 ⟨h.bel.trans (hb.mono h.bel.size), (hb.block _ (lt_heap h.src)).trans h.src, (hb.block _ (lt_heap h.res)).trans h.res, (hb.block _ (lt_heap h.key)).trans h.key, (hb.block _ (lt_heap h.tag)).trans h.tag⟩
theorem KrSt.setK {w W : World} {k x t : List UInt8} (h : KrSt w W k x t) (y : List UInt8) : KrSt w (W.setRow (w.heap.size + 2) (bC y)) k y t :=
 ⟨setRow_below h.bel (by omega) _, by rw [setRow_other _ _ _ _ (by omega)]; exact h.src, by rw [setRow_other _ _ _ _ (by omega)]; exact h.res, setRow_at h.key, by rw [setRow_other _ _ _ _ (by omega)]; exact h.tag⟩
theorem KrSt.setT {w W : World} {k x t : List UInt8} (h : KrSt w W k x t) (y : List UInt8) : KrSt w (W.setRow (w.heap.size + 3) (bC y)) k x y :=
 ⟨setRow_below h.bel (by omega) _, by rw [setRow_other _ _ _ _ (by omega)]; exact h.src, by rw [setRow_other _ _ _ _ (by omega)]; exact h.res, by rw [setRow_other _ _ _ _ (by omega)]; exact h.key, setRow_at h.tag⟩
theorem KrSt.turn {w W W' : World} {k x t y : List UInt8} (h : KrSt w W k x t) (hk : W'.heap[w.heap.size + 2]? = some (.cells (bC y) 32 (0, 0))) (ht : Turn [w.heap.size + 2] W W') : KrSt w W' k y t := by
 have hk2 : ∀ j, j < W.heap.size → j ≠ w.heap.size + 2 → W'.heap[j]? = W.heap[j]? := fun j a b => ht.block j a (by simpa using b)
 exact ⟨h.bel.trans (ht.below (fun k hk => by simp at hk; omega) h.bel.size), (hk2 _ (lt_heap h.src) (by omega)).trans h.src, (hk2 _ (lt_heap h.res) (by omega)).trans h.res, hk, (hk2 _ (lt_heap h.tag) (by omega)).trans h.tag⟩
theorem kL0_len : (kL 0 0 0 z12k z10k).length = 25 := rfl
def rdK (k : List UInt8) : List UInt8 := if rightK k = true then k else kL 0 0 0 z12k z10k
def rdKe (k : List UInt8) : Nat := if rightK k = true then 0 else 3
theorem bldK3 (x y z : UInt8) : Tryz.prog.built 32 [(0, .int .u8 (x.toNat : Int)), (1, .int .u8 (y.toNat : Int)), (2, .int .u8 (z.toNat : Int))] = some (bC (kL x y z z12k z10k)) := by kernel_rfl
theorem ovlK_nm (x0 x1 x2 : UInt8) {nm : List UInt8} (hn : nm.length = 12) : ovl (kL x0 x1 x2 z12k z10k) 3 nm = kL x0 x1 x2 nm z10k := by
 have e : (kL x0 x1 x2 z12k z10k).drop 15 = z10k := rfl
 unfold ovl
 rw [hn, show 3 + 12 = 15 from rfl, e]; rfl
theorem ovlT {tg : List UInt8} (ht : tg.length = 10) : ovl z10k 0 tg = tg := by
 unfold ovl
 rw [ht]; simp [z10k]
theorem keyRead_any (k : List UInt8) (w : World) (hk : k.length = 25) (hmx : MX w) : Calls Tryz.prog 101 #[.agg (bC k)] w fun e w' => e = .returned (.tuple #[.agg (bC (rdK k)), .int .i64 (rdKe k : Nat)]) ∧ Below w.heap.size w w' := by
 have HRK : Hid (∀ W, Below w.heap.size w W → Calls Tryz.prog 112 #[.agg (bC k)] W fun e w' => e = .returned (.bool (rightK k)) ∧ Below W.heap.size W w') := fun W hW => keyRight_any k W hk (hmx.below hW)
 obtain ⟨b0, b1, b2, nm, tg, hkk, hn, ht⟩ := kL_ex k hk
 have HTO : Hid (∀ W, Below w.heap.size w W → Calls Tryz.prog 130 #[.agg (bC tg)] W fun e w' => e = .returned (.tuple #[.agg (bC (ofR tg)), .int .i64 (ofE tg)]) ∧ Below W.heap.size W w') := fun W hW => tagOf_any tg W ht (hmx.below hW)
 have HRP : Hid (rightK k = rightP b0 b1 b2 nm tg) := by show _ = _; rw [hkk]; exact rightK_kL hn
 have HS0 : Hid (KrSt w ((((w.alloc (.cells (bC k) 108)).alloc (.cells (bC (kL 0 0 0 z12k z10k)) 32)).alloc (.cells (bC (kL b0 b1 b2 z12k z10k)) 32)).alloc (.cells (bC z10k) 40)) k (kL b0 b1 b2 z12k z10k) z10k) := by
   have e1 := heap_alloc2_old w (.cells (bC k) 108) (.cells (bC (kL 0 0 0 z12k z10k)) 32)
   have e2 := heap_alloc2_new w (.cells (bC k) 108) (.cells (bC (kL 0 0 0 z12k z10k)) 32)
   have e0 := below_alloc2 w (.cells (bC k) 108) (.cells (bC (kL 0 0 0 z12k z10k)) 32)
   have es : ((w.alloc (.cells (bC k) 108)).alloc (.cells (bC (kL 0 0 0 z12k z10k)) 32)).heap.size = w.heap.size + 2 := by simp
   generalize (w.alloc (.cells (bC k) 108)).alloc (.cells (bC (kL 0 0 0 z12k z10k)) 32) = V at *
   refine ⟨(e0.alloc (by omega) _).alloc (by simp; omega) _, ?_, ?_, ?_, ?_⟩
   · rw [heap_alloc_old _ _ (by simp; omega), heap_alloc_old _ _ (by omega)]; exact e1
   · rw [heap_alloc_old _ _ (by simp; omega), heap_alloc_old _ _ (by omega)]; exact e2
   · rw [heap_alloc_old _ _ (by simp; omega), ← es]; exact heap_alloc_new _ _
   · have := heap_alloc_new (V.alloc (.cells (bC (kL b0 b1 b2 z12k z10k)) 32)) (.cells (bC z10k) 40)
     rwa [World.size_alloc, es] at this
 have hz0 : (w.alloc (.cells (bC k) 108)).heap[w.heap.size]? = some (.cells (bC k) 108 (0, 0)) := heap_alloc_new _ _
 have hz : ((w.alloc (.cells (bC k) 108)).alloc (.cells #[Value.int .u8 0, .int .u8 0, .int .u8 0, .int .u8 0, .int .u8 0, .int .u8 0, .int .u8 0, .int .u8 0, .int .u8 0, .int .u8 0, .int .u8 0, .int .u8 0, .int .u8 0, .int .u8 0, .int .u8 0, .int .u8 0, .int .u8 0, .int .u8 0, .int .u8 0, .int .u8 0, .int .u8 0, .int .u8 0, .int .u8 0, .int .u8 0, .int .u8 0] 32)).heap[w.heap.size]? = some (.cells (bC k) 108 (0, 0)) := heap_alloc2_old _ _ _
 rw [hkk] at hz
 obtain ⟨hc0, hc1, hc2, _, _⟩ := kL_sub hn hz
 rw [← hkk] at hc0 hc1 hc2
 have HKL := Lib.hid hkk
 have HLk := Lib.hid hk
 have HL12 := Lib.hid hn
 have HL10 := Lib.hid ht
 have HD : Hid ((k.drop 15).take 10 = tg ∧ (k.drop 3).take 12 = nm) := by
   rw [hkk]
   refine ⟨?_, ?_⟩
   · show ((nm ++ tg).drop 12).take 10 = tg
     rw [List.drop_left' hn, List.take_of_length_le (by omega)]
   · show (nm ++ tg).take 12 = nm
     exact List.take_left' hn
 clear hz hz0 hkk hk hn ht hmx
 go_enter Tryz.func101, Tryz.ntmps101
 go_upto_region 3 with (first
   | ((with_reducible refine gate_bd 32 _ rfl ?_); refine wl_bd rfl _ [(0, .tmp 9), (1, .tmp 11), (2, .tmp 13)] rfl [(0, .int .u8 (b0.toNat : Int)), (1, .int .u8 (b1.toNat : Int)), (2, .int .u8 (b2.toNat : Int))] rfl (bC (kL b0 b1 b2 z12k z10k)) (bldK3 b0 b1 b2) ?_)
   | ((with_reducible refine gate_st 32 _ _ rfl ?_); refine wl_strn rfl _ _ _ rfl (bC (kL b0 b1 b2 z12k z10k)) #[Value.int IntKind.u8 0, Value.int IntKind.u8 0, Value.int IntKind.u8 0, Value.int IntKind.u8 0, Value.int IntKind.u8 0, Value.int IntKind.u8 0, Value.int IntKind.u8 0, Value.int IntKind.u8 0, Value.int IntKind.u8 0, Value.int IntKind.u8 0, Value.int IntKind.u8 0, Value.int IntKind.u8 0, Value.int IntKind.u8 0, Value.int IntKind.u8 0, Value.int IntKind.u8 0, Value.int IntKind.u8 0, Value.int IntKind.u8 0, Value.int IntKind.u8 0, Value.int IntKind.u8 0, Value.int IntKind.u8 0, Value.int IntKind.u8 0, Value.int IntKind.u8 0, Value.int IntKind.u8 0, Value.int IntKind.u8 0, Value.int IntKind.u8 0] _ (by rw [sizKey]; rfl) rfl (bC_one _) (by simp [Act.eval]) rfl ?_))
 rw [show (Obj.cells #[Value.int .u8 0, .int .u8 0, .int .u8 0, .int .u8 0, .int .u8 0, .int .u8 0, .int .u8 0, .int .u8 0, .int .u8 0, .int .u8 0, .int .u8 0, .int .u8 0, .int .u8 0, .int .u8 0, .int .u8 0, .int .u8 0, .int .u8 0, .int .u8 0, .int .u8 0, .int .u8 0, .int .u8 0, .int .u8 0, .int .u8 0, .int .u8 0, .int .u8 0] 32) = Obj.cells (bC (kL 0 0 0 z12k z10k)) 32 from rfl, show (Obj.cells #[Value.int .u8 0, .int .u8 0, .int .u8 0, .int .u8 0, .int .u8 0, .int .u8 0, .int .u8 0, .int .u8 0, .int .u8 0, .int .u8 0] 40) = Obj.cells (bC z10k) 40 from rfl]
 simp only [Nat.add_assoc, Nat.reduceAdd]
 clear hc0 hc1 hc2
 generalize ((((w.alloc (.cells (bC k) 108)).alloc (.cells (bC (kL 0 0 0 z12k z10k)) 32)).alloc (.cells (bC (kL b0 b1 b2 z12k z10k)) 32)).alloc (.cells (bC z10k) 40)) = W1 at *
 go_still_tail 3, (by kernel_rfl)
 refine cp_bytes (w := W1.drew) rfl (.tmp 16) (.tmp 17) rfl (w.heap.size + 2) 3 12 12 w.heap.size 3 12 22 rfl rfl (kL b0 b1 b2 z12k z10k) _ HS0.out.drew.key ((k.drop 3).take 12) (by rw [HD.out.2, HL12.out]; rfl) (by have := range_sub (range_whole (w := W1.drew) (g := w.heap.size) (vs := (bC k).toList) (by simpa using HS0.out.drew.src)) 3 12; simpa using this) (by rw [HD.out.2, HL12.out]; simp [kL, z12k, z10k]) ?_
 rw [HD.out.2, ovlK_nm _ _ _ HL12.out]
 have HS1 := Lib.hid (HS0.out.drew.setK (kL b0 b1 b2 nm z10k))
 generalize W1.drew.setRow (w.heap.size + 2) (bC (kL b0 b1 b2 nm z10k)) = W2 at *
 clear HS0
 go_wp2_with fail
 go_still_tail 2, (by kernel_rfl)
 refine cp_bytes (w := W2.drew) rfl (.tmp 19) (.tmp 20) rfl (w.heap.size + 3) 0 10 10 w.heap.size 15 10 10 rfl rfl z10k _ HS1.out.drew.tag ((k.drop 15).take 10) (by rw [HD.out.1, HL10.out]; rfl) (by have := range_sub (range_whole (w := W2.drew) (g := w.heap.size) (vs := (bC k).toList) (by simpa using HS1.out.drew.src)) 15 10; simpa using this) (by rw [HD.out.1, HL10.out]; decide) ?_
 rw [HD.out.1, ovlT HL10.out]
 have HS2 := Lib.hid (HS1.out.drew.setT tg)
 generalize W2.drew.setRow (w.heap.size + 3) (bC tg) = W3 at *
 clear HS1 HD
 have hRi : rightT tg = false → rightK k = false := fun h => by rw [HRP.out]; exact rightP_tag HL12.out HL10.out h
 have HRi := Lib.hid hRi
 clear hRi
 have HO : Hid (ofR tg = (if rightT tg then tg else tag0) ∧ ofE tg = if rightT tg then 0 else 14) := ⟨rfl, rfl⟩
 cases hrt : rightT tg
 · rw [hrt] at HO
   have e1 : ofR tg = tag0 := HO.out.1
   have e2 : ofE tg = 14 := HO.out.2
   rw [e1, e2] at HTO
   have HRF := Lib.hid (HRi.out hrt)
   clear e1 e2 HO HRi hrt
   go_wp2_with (first
     | ((with_reducible refine gate_ld 40 _ rfl ?_); refine wl_ldr rfl 40 _ rfl (w.heap.size + 3) 0 (bC tg).toList _ Tryz.underlying40 rfl (by rw [siz10A]; simp [bC, HL10.out]) rfl (range_whole (by simpa using HS2.out.tag)) ?_)
     | (go_at_call 130; (with_reducible refine (HTO.out _ HS2.out.bel).mono ?_); rintro e W4 ⟨rfl, hb⟩; have HS3 := Lib.hid ((HS2.out.below hb).below (below_alloc1 W4 (.cells (bC tag0) 28))); have HGt : Hid ((W4.alloc (.cells (bC tag0) 28)).heap[W4.heap.size]? = some (.cells (bC tag0) 28 (0, 0))) := heap_alloc_new _ _; clear hb)
     | ((with_reducible refine gate_st 28 (.tmp 6) _ rfl ?_); refine wl_strn rfl _ _ _ rfl (bC tag0) #[Value.int IntKind.u8 0, Value.int IntKind.u8 0, Value.int IntKind.u8 0, Value.int IntKind.u8 0, Value.int IntKind.u8 0, Value.int IntKind.u8 0, Value.int IntKind.u8 0, Value.int IntKind.u8 0, Value.int IntKind.u8 0, Value.int IntKind.u8 0] _ (by rw [sizTag19]; rfl) rfl (bC_one _) (by simp [Act.eval]) rfl ?_)
     | ((with_reducible refine gate_ld 28 (.tmp 6) rfl ?_); refine wl_ldr rfl 28 _ rfl W4.heap.size 0 (bC tag0).toList _ Tryz.underlying28 rfl (by rw [sizTag19]; rfl) rfl (range_whole (by simpa using HGt.out)) ?_)
     | ((with_reducible refine gate_st 28 (.tmp 28) _ rfl ?_); refine wl_stR rfl 28 _ _ rfl (w.heap.size + 2) 15 (bC tag0).toList (by rw [sizTag19]; rfl) rfl (by simp [Act.eval]) (fun v hv => List.all_eq_true.1 (by have := bC_one tag0; rwa [← Array.all_toList] at this) v hv) (bC (kL b0 b1 b2 nm z10k)).toList 32 HS3.out.key (by simp [kL, bC, tag0, z10k, HL12.out]) (fun W7 h1 h2 => ?_); have HS4 : Hid (KrSt w W7 k (kL b0 b1 b2 nm tag0) tg) := HS3.out.turn (by rw [rowK_tg _ _ _ HL12.out rfl rfl] at h1; exact h1) h2; clear h1 h2; try simp only [Act.put])
     | ((with_reducible refine gate_bd 32 _ rfl ?_); refine wl_bd rfl _ [] rfl [] rfl (bC (kL 0 0 0 z12k z10k)) bldK0 ?_)
     | ((with_reducible refine gate_st 32 _ _ rfl ?_); refine wl_strG rfl 32 _ _ rfl (w.heap.size + 1) (bC (kL 0 0 0 z12k z10k)) (bC (kL 0 0 0 z12k z10k)) 32 (by rw [sizKey]; rfl) rfl (bC_one _) rfl (by first | rfl | simp [Act.eval, Act.put]) HS4.out.res (fun W8 h1 h2 => ?_); have HGr := Lib.hid h1; have HBr := Lib.hid (HS4.out.bel.trans (h2.below (B := w.heap.size) (fun k hk => by simp at hk; omega) HS4.out.bel.size)); clear h1 h2; try simp only [Act.put]))
   refine bodyPost_ret (res_rowc_tmp (P := Tryz.prog) rfl _ _ (w.heap.size + 1) (bC (kL 0 0 0 z12k z10k)) (0, 0) rfl HGr.out Tryz.underlying32 rfl (by rw [sizKey]; rfl)) rfl ⟨?_, HBr.out⟩
   unfold rdK rdKe
   rw [HRF.out]; rfl
 · rw [hrt] at HO
   have e1 : ofR tg = tg := HO.out.1
   have e2 : ofE tg = 0 := HO.out.2
   rw [e1, e2] at HTO
   clear e1 e2 HO HRi hrt HRP
   obtain ⟨rr, hrr⟩ : ∃ r : Bool, rightK k = r := ⟨_, rfl⟩
   have HRR := Lib.hid hrr
   rw [hrr] at HRK
   clear hrr
   rw [HKL.out] at HRK
   cases rr
   · go_wp2_with (first
       | ((with_reducible refine gate_ld 40 _ rfl ?_); refine wl_ldr rfl 40 _ rfl (w.heap.size + 3) 0 (bC tg).toList _ Tryz.underlying40 rfl (by rw [siz10A]; simp [bC, HL10.out]) rfl (range_whole (by simpa using HS2.out.tag)) ?_)
       | (go_at_call 130; (with_reducible refine (HTO.out _ HS2.out.bel).mono ?_); rintro e W4 ⟨rfl, hb⟩; have HS3 := Lib.hid ((HS2.out.below hb).below (below_alloc1 W4 (.cells (bC tg) 28))); have HGt : Hid ((W4.alloc (.cells (bC tg) 28)).heap[W4.heap.size]? = some (.cells (bC tg) 28 (0, 0))) := heap_alloc_new _ _; clear hb)
       | ((with_reducible refine gate_st 28 (.tmp 6) _ rfl ?_); refine wl_strn rfl _ _ _ rfl (bC tg) #[Value.int IntKind.u8 0, Value.int IntKind.u8 0, Value.int IntKind.u8 0, Value.int IntKind.u8 0, Value.int IntKind.u8 0, Value.int IntKind.u8 0, Value.int IntKind.u8 0, Value.int IntKind.u8 0, Value.int IntKind.u8 0, Value.int IntKind.u8 0] _ (by rw [sizTag19, bC_size, HL10.out]) (by rw [bC_size, HL10.out]; rfl) (bC_one _) (by simp [Act.eval]) rfl ?_)
       | ((with_reducible refine gate_ld 28 (.tmp 6) rfl ?_); refine wl_ldr rfl 28 _ rfl W4.heap.size 0 (bC tg).toList _ Tryz.underlying28 rfl (by rw [sizTag19]; simp [bC, HL10.out]) rfl (range_whole (by simpa using HGt.out)) ?_)
       | ((with_reducible refine gate_st 28 (.tmp 28) _ rfl ?_); refine wl_stR rfl 28 _ _ rfl (w.heap.size + 2) 15 (bC tg).toList (by rw [sizTag19]; simp [bC, HL10.out]) rfl (by simp [Act.eval]) (fun v hv => List.all_eq_true.1 (by have := bC_one tg; rwa [← Array.all_toList] at this) v hv) (bC (kL b0 b1 b2 nm z10k)).toList 32 HS3.out.key (by simp [kL, bC, z10k, HL12.out, HL10.out]) (fun W7 h1 h2 => ?_); have HS4 : Hid (KrSt w W7 k (kL b0 b1 b2 nm tg) tg) := HS3.out.turn (by rw [rowK_tg _ _ _ HL12.out rfl HL10.out] at h1; exact h1) h2; clear h1 h2; try simp only [Act.put])
       | ((with_reducible refine gate_ld 32 _ rfl ?_); first | (refine wl_ldr rfl 32 _ rfl (w.heap.size + 2) 0 (bC (kL b0 b1 b2 nm tg)).toList _ Tryz.underlying32 rfl (by rw [sizKey]; simp [bC, kL, HL12.out, HL10.out]) rfl (range_whole (by simpa using HS5.out.key)) ?_) | (refine wl_ldr rfl 32 _ rfl (w.heap.size + 2) 0 (bC (kL b0 b1 b2 nm tg)).toList _ Tryz.underlying32 rfl (by rw [sizKey]; simp [bC, kL, HL12.out, HL10.out]) rfl (range_whole (by simpa using HS4.out.key)) ?_))
       | (go_at_call 112; (refine (HRK.out _ HS4.out.bel).mono ?_); rintro e W9 ⟨rfl, hb⟩; have HS5 := Lib.hid (HS4.out.below hb); clear hb)
       | ((with_reducible refine gate_bd 32 _ rfl ?_); refine wl_bd rfl _ [] rfl [] rfl (bC (kL 0 0 0 z12k z10k)) bldK0 ?_)
       | ((with_reducible refine gate_st 32 _ _ rfl ?_); refine wl_strG rfl 32 _ _ rfl (w.heap.size + 1) (bC (kL 0 0 0 z12k z10k)) (bC (kL 0 0 0 z12k z10k)) 32 (by rw [sizKey, bC_size, kL0_len]) rfl (bC_one _) rfl (by first | rfl | simp [Act.eval, Act.put]) HS5.out.res (fun W8 h1 h2 => ?_); have HGr := Lib.hid h1; have HBr := Lib.hid (HS5.out.bel.trans (h2.below (B := w.heap.size) (fun k hk => by simp at hk; omega) HS5.out.bel.size)); clear h1 h2; try simp only [Act.put]))
     refine bodyPost_ret (res_rowc_tmp (P := Tryz.prog) rfl _ _ (w.heap.size + 1) (bC (kL 0 0 0 z12k z10k)) (0, 0) rfl HGr.out Tryz.underlying32 rfl (by rw [sizKey, bC_size, kL0_len])) rfl ⟨?_, HBr.out⟩
     unfold rdK rdKe
     rw [HRR.out]; rfl
   · go_wp2_with (first
       | ((with_reducible refine gate_ld 40 _ rfl ?_); refine wl_ldr rfl 40 _ rfl (w.heap.size + 3) 0 (bC tg).toList _ Tryz.underlying40 rfl (by rw [siz10A]; simp [bC, HL10.out]) rfl (range_whole (by simpa using HS2.out.tag)) ?_)
       | (go_at_call 130; (with_reducible refine (HTO.out _ HS2.out.bel).mono ?_); rintro e W4 ⟨rfl, hb⟩; have HS3 := Lib.hid ((HS2.out.below hb).below (below_alloc1 W4 (.cells (bC tg) 28))); have HGt : Hid ((W4.alloc (.cells (bC tg) 28)).heap[W4.heap.size]? = some (.cells (bC tg) 28 (0, 0))) := heap_alloc_new _ _; clear hb)
       | ((with_reducible refine gate_st 28 (.tmp 6) _ rfl ?_); refine wl_strn rfl _ _ _ rfl (bC tg) #[Value.int IntKind.u8 0, Value.int IntKind.u8 0, Value.int IntKind.u8 0, Value.int IntKind.u8 0, Value.int IntKind.u8 0, Value.int IntKind.u8 0, Value.int IntKind.u8 0, Value.int IntKind.u8 0, Value.int IntKind.u8 0, Value.int IntKind.u8 0] _ (by rw [sizTag19, bC_size, HL10.out]) (by rw [bC_size, HL10.out]; rfl) (bC_one _) (by simp [Act.eval]) rfl ?_)
       | ((with_reducible refine gate_ld 28 (.tmp 6) rfl ?_); refine wl_ldr rfl 28 _ rfl W4.heap.size 0 (bC tg).toList _ Tryz.underlying28 rfl (by rw [sizTag19]; simp [bC, HL10.out]) rfl (range_whole (by simpa using HGt.out)) ?_)
       | ((with_reducible refine gate_st 28 (.tmp 28) _ rfl ?_); refine wl_stR rfl 28 _ _ rfl (w.heap.size + 2) 15 (bC tg).toList (by rw [sizTag19]; simp [bC, HL10.out]) rfl (by simp [Act.eval]) (fun v hv => List.all_eq_true.1 (by have := bC_one tg; rwa [← Array.all_toList] at this) v hv) (bC (kL b0 b1 b2 nm z10k)).toList 32 HS3.out.key (by simp [kL, bC, z10k, HL12.out, HL10.out]) (fun W7 h1 h2 => ?_); have HS4 : Hid (KrSt w W7 k (kL b0 b1 b2 nm tg) tg) := HS3.out.turn (by rw [rowK_tg _ _ _ HL12.out rfl HL10.out] at h1; exact h1) h2; clear h1 h2; try simp only [Act.put])
       | ((with_reducible refine gate_ld 32 _ rfl ?_); first | (refine wl_ldr rfl 32 _ rfl (w.heap.size + 2) 0 (bC (kL b0 b1 b2 nm tg)).toList _ Tryz.underlying32 rfl (by rw [sizKey]; simp [bC, kL, HL12.out, HL10.out]) rfl (range_whole (by simpa using HS5.out.key)) ?_) | (refine wl_ldr rfl 32 _ rfl (w.heap.size + 2) 0 (bC (kL b0 b1 b2 nm tg)).toList _ Tryz.underlying32 rfl (by rw [sizKey]; simp [bC, kL, HL12.out, HL10.out]) rfl (range_whole (by simpa using HS4.out.key)) ?_))
       | (go_at_call 112; (refine (HRK.out _ HS4.out.bel).mono ?_); rintro e W9 ⟨rfl, hb⟩; have HS5 := Lib.hid (HS4.out.below hb); clear hb)
       | ((with_reducible refine gate_bd 32 _ rfl ?_); refine wl_bd rfl _ [] rfl [] rfl (bC (kL 0 0 0 z12k z10k)) bldK0 ?_)
       | ((with_reducible refine gate_st 32 _ _ rfl ?_); refine wl_strG rfl 32 _ _ rfl (w.heap.size + 1) (bC (kL b0 b1 b2 nm tg)) (bC (kL 0 0 0 z12k z10k)) 32 (by rw [sizKey, bC_size, kL_len HL12.out HL10.out]) (by rw [bC_size, kL_len HL12.out HL10.out]; rfl) (bC_one _) rfl (by first | rfl | simp [Act.eval, Act.put]) HS5.out.res (fun W8 h1 h2 => ?_); have HGr := Lib.hid h1; have HBr := Lib.hid (HS5.out.bel.trans (h2.below (B := w.heap.size) (fun k hk => by simp at hk; omega) HS5.out.bel.size)); clear h1 h2; try simp only [Act.put]))
     refine bodyPost_ret (res_rowc_tmp (P := Tryz.prog) rfl _ _ (w.heap.size + 1) (bC (kL b0 b1 b2 nm tg)) (0, 0) rfl HGr.out Tryz.underlying32 rfl (by rw [sizKey, bC_size, kL_len HL12.out HL10.out])) rfl ⟨?_, HBr.out⟩
     unfold rdK rdKe
     rw [HRR.out, if_pos rfl, if_pos rfl, ← HKL.out]
     rfl
end Go.Proofs.YtbfefdedjcppaaaGreatDoor
