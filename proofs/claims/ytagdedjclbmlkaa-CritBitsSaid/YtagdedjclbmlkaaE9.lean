/- A key out of the document's: the law's To. -/
import Derived.Test.YtagdedjclbmlkaaTG3
import Derived.Test.YtagdedjclbmlkaaE4
import Derived.Test.YtagdedjclbmlkaaC11
namespace Go.Proofs.Ytagdedjclbmlkaa
open Go.RowKit

theorem exec_conv8 {o : Oper} {a : Act} {w : World} (x : Operand) (ho : o.op = .convert 3 5 x) (c : UInt8) (hx : a.eval x = .int .i64 (c.toNat : Int)) : (execOp a.eval o).run Try.prog w = .ok (.value (.int .u8 (c.toNat : Int))) w := by
  unfold execOp
  simp only [ho, hx]
  simp [go_sem]
  exact wrap_small _ (.inr (.inr rfl)) _ (UInt8.toNat_lt c)
theorem toSmall {b : List UInt8} (hb : b.length = 10) (h : Tg.oB b = true) : (Tg.oR b).lang.length ≤ 3 ∧ (Tg.oR b).script.length ≤ 4 ∧ (Tg.oR b).region.length ≤ 3 := by
  unfold Tg.oB at h
  unfold Tg.oR
  cases ho : Tg.ofT b with
  | none => rw [ho] at h; cases h
  | some t => rw [Tg.of_some hb ho]; exact Tg.fT_small hb
theorem builtTo (c0 c1 c2 : UInt8) (n : List UInt8) (hn : n.length = 12) : Try.prog.built 30 [(0, .int .u8 (c0.toNat : Int)), (1, .int .u8 (c1.toNat : Int)), (2, .int .u8 (c2.toNat : Int)), (3, .agg (bC n))] = some (bC ([c0, c1, c2] ++ n ++ List.replicate 10 0)) := by
  match n, hn with
  | [a0, a1, a2, a3, a4, a5, a6, a7, a8, a9, a10, a11], _ =>
    show Try.prog.built 30 [(0, .int .u8 (c0.toNat : Int)), (1, .int .u8 (c1.toNat : Int)), (2, .int .u8 (c2.toNat : Int)), (3, .agg (bC [a0, a1, a2, a3, a4, a5, a6, a7, a8, a9, a10, a11]))] = some (bC ([c0, c1, c2] ++ [a0, a1, a2, a3, a4, a5, a6, a7, a8, a9, a10, a11] ++ List.replicate 10 0))
    kernel_rfl
theorem tC_sz (t : Tg.T3) : (Tg.tC t).size = 3 := rfl
theorem siz3T : (Try.prog.info? 102).map (·.size) = some 3 := by kernel_rfl
theorem sizTg : (Try.prog.info? 28).map (·.size) = some 10 := by kernel_rfl
def tZ3 : Array Value := #[Value.string ⟨#[]⟩, Value.string ⟨#[]⟩, Value.string ⟨#[]⟩]
set_option maxRecDepth 100000 in
set_option maxHeartbeats 8000000 in
theorem to06_any (k : List UInt8) (w : World) (hk : k.length = 25) :
    Calls Try.prog 21 #[.agg (rkC k).toArray] w fun e w' => ∃ k' : List UInt8, k'.length = 25 ∧ e = .returned (.agg (bC k')) ∧ Below w.heap.size w w' := by
  have HB0 := Lib.hid (below_alloc2 w (.cells (rkC k).toArray 40) (.cells (bC z25) 30))
  have HX0 := Lib.hid (heap_alloc2_old w (.cells (rkC k).toArray 40) (.cells (bC z25) 30))
  have HR0 := Lib.hid (heap_alloc2_new w (.cells (rkC k).toArray 40) (.cells (bC z25) 30))
  have HK := Lib.hid hk
  clear hk
  go_enter Try.func21, Try.ntmps21
  go_upto_region 1 with fail
  show Code.wp _ _ _ _ ((w.alloc (.cells (rkC k).toArray 40)).alloc (.cells (bC z25) 30))
  generalize ((w.alloc (.cells (rkC k).toArray 40)).alloc (.cells (bC z25) 30)) = W0 at *
  have hr : W0.rangeAt w.heap.size 0 (rkC k) := range_whole (by simpa using HX0.out)
  have c0 := rk_c0 hr
  have c1 := rk_c1 hr
  have c2 := rk_c2 hr
  have HNm := Lib.hid (rk_n hr)
  have HTg := Lib.hid (rk_t HK.out hr)
  have hL3 : ((k.drop 3).take 12).length = 12 := by simp [HK.out]
  have hL4 : (k.drop 15).length = 10 := by simp [HK.out]
  have L3 := Lib.hid hL3
  have L4 := Lib.hid hL4
  have HB : Hid (Try.prog.built 30 [(0, .int .u8 ((k.getD 0 0).toNat : Int)), (1, .int .u8 ((k.getD 1 0).toNat : Int)), (2, .int .u8 ((k.getD 2 0).toNat : Int)), (3, .agg (bC ((k.drop 3).take 12)))] = some (bC ([k.getD 0 0, k.getD 1 0, k.getD 2 0] ++ (k.drop 3).take 12 ++ List.replicate 10 0))) := builtTo _ _ _ _ hL3
  have hL : ([k.getD 0 0, k.getD 1 0, k.getD 2 0] ++ (k.drop 3).take 12 ++ List.replicate 10 0).length = 25 := by simp [HK.out]
  have HLn := Lib.hid hL
  clear hr hL3 hL4 hL
  generalize k.getD 0 0 = k0 at *
  generalize k.getD 1 0 = k1 at *
  generalize k.getD 2 0 = k2 at *
  generalize (k.drop 3).take 12 = k3 at *
  generalize k.drop 15 = k4 at *
  generalize [k0, k1, k2] ++ k3 ++ List.replicate 10 0 = kk at *
  go_upto_region 2 with (first
    | ((with_reducible refine gate_op (.convert 3 5 (.tmp 7)) rfl ?_); refine wl_valG rfl (.int .u8 (k0.toNat : Int)) (exec_conv8 (.tmp 7) rfl k0 rfl) ?_)
    | ((with_reducible refine gate_op (.convert 3 5 (.tmp 10)) rfl ?_); refine wl_valG rfl (.int .u8 (k1.toNat : Int)) (exec_conv8 (.tmp 10) rfl k1 rfl) ?_)
    | ((with_reducible refine gate_op (.convert 3 5 (.tmp 13)) rfl ?_); refine wl_valG rfl (.int .u8 (k2.toNat : Int)) (exec_conv8 (.tmp 13) rfl k2 rfl) ?_)
    | ((with_reducible refine gate_ld 23 (.tmp 15) rfl ?_); refine wl_ldr rfl 23 _ rfl w.heap.size 3 (bC k3).toList _ Try.underlying23 rfl (by rw [siz12B]; simp [bC, L3.out]) rfl HNm.out ?_)
    | ((with_reducible refine gate_bd 30 _ rfl ?_); refine wl_bd rfl 30 [(0, .tmp 8), (1, .tmp 11), (2, .tmp 14), (3, .tmp 16)] rfl [(0, .int .u8 (k0.toNat : Int)), (1, .int .u8 (k1.toNat : Int)), (2, .int .u8 (k2.toNat : Int)), (3, .agg (bC k3))] rfl (bC kk) HB.out ?_)
    | ((with_reducible refine gate_st 30 (.tmp 3) _ rfl ?_); refine wl_strn rfl _ _ _ rfl (bC kk) z25A _ (by rw [sizKey, bC_size, HLn.out]) (by rw [bC_size, HLn.out]; rfl) (bC_one kk) (by simp [Act.eval]) rfl ?_))
  have HK1 : Hid ((W0.alloc (.cells (bC kk) 30)).heap[W0.heap.size]? = some (.cells (bC kk) 30 (0, 0))) := heap_alloc_new _ _
  have hb1 := below_alloc1 W0 (.cells (bC kk) 30)
  have HT1 := Lib.hid (range_of_block HTg.out (hb1.block _ (lt_heap HX0.out)))
  have HR1 := Lib.hid ((hb1.block _ (lt_heap HR0.out)).trans HR0.out)
  have HB1 := Lib.hid (HB0.out.trans (hb1.mono HB0.out.size))
  have hgs := lt_heap HR0.out
  obtain ⟨g, hg⟩ : ∃ g, g = W0.heap.size := ⟨_, rfl⟩
  rw [← hg] at HK1 ⊢
  have hgr : w.heap.size + 1 < g := by rw [hg]; exact hgs
  generalize W0.alloc (.cells (bC kk) 30) = W1 at *
  clear hg hgs hb1 HTg HR0 HB0 HX0 c0 c1 c2 HNm
  have KO := Lib.hid (fun W => Tg.refOf5_any k4 W L4.out)
  have HSm := Lib.hid (toSmall (b := k4) L4.out)
  generalize Tg.oR k4 = tt at *
  generalize Tg.oB k4 = tb at *
  go_upto_region 3 with (first
    | ((with_reducible refine gate_ld 38 (.tmp 19) rfl ?_); refine wl_ldr rfl 38 _ rfl w.heap.size 15 (bC k4).toList _ Try.underlying38 rfl (by rw [siz10B]; simp [bC, L4.out]) rfl HT1.out ?_)
    | (go_at_call 43; (refine (KO.out W1).mono ?_); rintro e W2 ⟨rfl, hb2⟩; have HB2 := Lib.hid hb2; clear hb2)
    | ((with_reducible refine gate_st 102 (.tmp 4) _ rfl ?_); refine wl_strn rfl _ _ _ rfl (Tg.tC tt) tZ3 _ (by rw [siz3T, tC_sz]) rfl (Tg.tC_one tt) (by simp [Act.eval]) rfl ?_))
  have HT3 : Hid ((W2.alloc (.cells (Tg.tC tt) 102)).heap[W2.heap.size]? = some (.cells (Tg.tC tt) 102 (0, 0))) := heap_alloc_new _ _
  have hb3 : Below W1.heap.size W1 (W2.alloc (.cells (Tg.tC tt) 102)) := HB2.out.alloc HB2.out.size _
  have HK3 := Lib.hid ((hb3.block _ (lt_heap HK1.out)).trans HK1.out)
  have HR3 := Lib.hid ((hb3.block _ (lt_heap HR1.out)).trans HR1.out)
  have HB3 := Lib.hid (HB1.out.trans (hb3.mono HB1.out.size))
  obtain ⟨g4, hg4⟩ : ∃ g, g = W2.heap.size := ⟨_, rfl⟩
  rw [← hg4] at HT3 ⊢
  generalize W2.alloc (.cells (Tg.tC tt) 102) = W3 at *
  clear hg4 hb3 HB2 KO HK1 HR1 HB1 HT1
  cases tb with
  | false =>
    go_wp2_with (first
      | ((with_reducible refine gate_ld 30 (.tmp 3) rfl ?_); refine wl_ldr rfl 30 _ rfl g 0 (bC kk).toList _ Try.underlying30 rfl (by rw [sizKey]; simp [bC, HLn.out]) rfl (range_whole (by simpa using HK3.out)) ?_)
      | ((with_reducible refine gate_st 30 (.tmp 2) _ rfl ?_); refine wl_str rfl 30 (.tmp 2) (.tmp 28) rfl (w.heap.size + 1) (bC kk) (bC z25) 30 (by rw [sizKey, bC_size, HLn.out]) (by rw [bC_size, bC_size, HLn.out]; rfl) (bC_one kk) rfl rfl HR3.out ?_))
    refine bodyPost_ret (res_rowc rfl _ _ (w.heap.size + 1) (bC kk) (0, 0) rfl (setRow_at HR3.out) Try.underlying30 rfl (by rw [sizKey, bC_size, HLn.out])) rfl ?_
    exact ⟨kk, HLn.out, rfl, setRow_below HB3.out (by omega) _⟩
  | true =>
    obtain ⟨h1, h2, h3⟩ := HSm.out rfl
    have KT := Lib.hid (fun W => Tg.to_any tt W h1 h2 h3)
    have HTl : Hid ((Tg.bytT tt).length = 10) := by show (Tg.bytT tt).length = 10; rw [Tg.bytT, List.length_append, List.length_append, Tg.padTo_len h1, Tg.padTo_len h2, Tg.padTo_len h3]
    generalize Tg.bytT tt = tl at *
    have HOl : Hid ((ovl kk 15 tl).length = 25) := by show _ = _; rw [ovl_len (by rw [HTl.out, HLn.out]; omega), HLn.out]
    clear h1 h2 h3
    go_upto_region 5 with (first
      | ((with_reducible refine gate_ld 102 (.tmp 4) rfl ?_); refine wl_ldr rfl 102 _ rfl g4 0 (Tg.tC tt).toList _ Try.underlying102 rfl (by rw [siz3T]; rfl) rfl (range_whole (by simpa using HT3.out)) ?_)
      | (go_at_call 44; (refine (KT.out W3).mono ?_); rintro e W4 ⟨rfl, hb4⟩; have HK4 := Lib.hid ((hb4.block _ (lt_heap HK3.out)).trans HK3.out); have HR4 := Lib.hid ((hb4.block _ (lt_heap HR3.out)).trans HR3.out); have HB4 := Lib.hid (HB3.out.trans (hb4.mono HB3.out.size)); clear hb4)
      | ((with_reducible refine gate_st 28 _ _ rfl ?_); refine st_mid rfl 28 (.tmp 27) (.tmp 26) rfl g 15 kk tl 30 HK4.out rfl rfl (by rw [sizTg, HTl.out]) (by rw [HTl.out, HLn.out]; omega) ?_))
    have HK5 := Lib.hid (setRow_at (cs := bC (ovl kk 15 tl)) HK4.out)
    have HR5 : Hid ((W4.setRow g (bC (ovl kk 15 tl))).heap[w.heap.size + 1]? = some (.cells (bC z25) 30 (0, 0))) := (setRow_other _ _ _ _ (by omega)).trans HR4.out
    have HB5 : Hid (Below w.heap.size w (W4.setRow g (bC (ovl kk 15 tl)))) := setRow_below HB4.out (by omega) _
    generalize W4.setRow g (bC (ovl kk 15 tl)) = W5 at *
    generalize ovl kk 15 tl = k9 at *
    clear HK3 HR3 HB3 HK4 HR4 HB4 KT
    go_wp2_with (first
      | ((with_reducible refine gate_ld 30 (.tmp 3) rfl ?_); refine wl_ldr rfl 30 _ rfl g 0 (bC k9).toList _ Try.underlying30 rfl (by rw [sizKey]; simp [bC, HOl.out]) rfl (range_whole (by simpa using HK5.out)) ?_)
      | ((with_reducible refine gate_st 30 (.tmp 2) _ rfl ?_); refine wl_str rfl 30 (.tmp 2) (.tmp 28) rfl (w.heap.size + 1) (bC k9) (bC z25) 30 (by rw [sizKey, bC_size, HOl.out]) (by rw [bC_size, bC_size, HOl.out]; rfl) (bC_one k9) rfl rfl HR5.out ?_))
    refine bodyPost_ret (res_rowc rfl _ _ (w.heap.size + 1) (bC k9) (0, 0) rfl (setRow_at HR5.out) Try.underlying30 rfl (by rw [sizKey, bC_size, HOl.out])) rfl ?_
    exact ⟨k9, HOl.out, rfl, setRow_below HB5.out (by omega) _⟩
end Go.Proofs.Ytagdedjclbmlkaa
