/- The document's key: Uses, Of, Right. -/
import Derived.Test.YtbfefdedjcppaaaGreatDoorKG6
import Derived.Test.YtbfefdedjcppaaaGreatDoorRG
import Derived.Test.YtbfefdedjcppaaaGreatDoorGX
namespace Go.Proofs.YtbfefdedjcppaaaGreatDoor
set_option maxRecDepth 100000
set_option maxHeartbeats 16000000
open Go.RowKit
theorem textL_empty (l : List UInt8) : (textL l).isEmpty = !rightB l := by
 unfold textL
 cases h : rightB l with
 | false => rfl
 | true =>
   rw [if_pos rfl]
   cases hf : front l with
   | nil =>
     unfold rightB at h
     rw [hf, show isName [] = false from by decide] at h
     cases h
   | cons a b => rfl
theorem lang_empty {b : List UInt8} (hb : b.length = 10) (h : oB b = true) : (oR b).lang.isEmpty = decide (b = z10k) := by
 unfold oB at h
 unfold oR
 cases ho : ofT b with
 | none => rw [ho] at h; cases h
 | some t =>
   have ht := of_some hb ho
   subst ht
   show (fT b).lang.isEmpty = _
   by_cases hz : b = z10k
   · rw [decide_eq_true hz, hz]; decide +kernel
   · rw [decide_eq_false hz]
     cases hl : (fT b).lang with
     | nil =>
       exfalso
       unfold ofT at ho
       rw [if_pos hl] at ho
       split at ho
       · rename_i he; exact hz (fT_empty hb he)
       · cases ho
     | cons a r => rfl
def rL (x0 x1 x2 : UInt8) (n t : List UInt8) : List Value := [.int .i64 (x0.toNat : Int), .int .i64 (x1.toNat : Int), .int .i64 (x2.toNat : Int)] ++ ((bC n).toList ++ (bC t).toList)
theorem rkR_kL (x0 x1 x2 : UInt8) (n t : List UInt8) : rkR (kL x0 x1 x2 n t) = rL x0 x1 x2 n t := by simp [rkR, rkH, kL, rL, bC]
theorem rL_len {x0 x1 x2 : UInt8} {n t : List UInt8} (hn : n.length = 12) (ht : t.length = 10) : (rL x0 x1 x2 n t).length = 25 := by simp [rL, bC, hn, ht]
theorem rL_one (x0 x1 x2 : UInt8) (n t : List UInt8) : (rL x0 x1 x2 n t).all (·.oneCell') = true := by
 have h1 := bC_one n
 have h2 := bC_one t
 rw [← Array.all_toList] at h1 h2
 simp only [rL, List.all_append, h1, h2, Bool.and_true]
 rfl
theorem rL_nm (x0 x1 x2 : UInt8) {n n' : List UInt8} (t : List UInt8) (h : n.length = 12) (h' : n'.length = 12) : RowIn (rL x0 x1 x2 n t) 3 (bC n').toList = rL x0 x1 x2 n' t := by
 have h1 : (bC n).toList.length = 12 := by simp [bC, h]
 have h2 : (bC n').toList.length = 12 := by simp [bC, h']
 unfold RowIn rL
 rw [h2, List.take_left' (by rfl), show 3 + 12 = 12 + 1 + 1 + 1 from rfl]
 simp only [List.cons_append, List.nil_append, List.drop_succ_cons]
 rw [List.drop_left' h1]
theorem rL_tg (x0 x1 x2 : UInt8) {n t t' : List UInt8} (h : n.length = 12) (ht : t.length = 10) (ht' : t'.length = 10) : RowIn (rL x0 x1 x2 n t) 15 (bC t').toList = rL x0 x1 x2 n t' := by
 have h1 : (bC n).toList.length = 12 := by simp [bC, h]
 have h2 : (bC t).toList.length = 10 := by simp [bC, ht]
 have h3 : (bC t').toList.length = 10 := by simp [bC, ht']
 unfold RowIn rL
 rw [h3, show (15 : Nat) = 12 + 1 + 1 + 1 from rfl, show 12 + 1 + 1 + 1 + 10 = (12 + 10) + 1 + 1 + 1 from rfl]
 simp only [List.cons_append, List.nil_append, List.take_succ_cons, List.drop_succ_cons]
 rw [List.take_left' h1, List.drop_eq_nil_of_le (by simp [h1, h2])]
 simp
theorem rL_sub {W : World} {g : Nat} {x0 x1 x2 : UInt8} {n t : List UInt8} {T : TypeId} (hn : n.length = 12) (h : W.heap[g]? = some (.cells (rL x0 x1 x2 n t).toArray T (0, 0))) :
   W.cell? ⟨g, 0, none⟩ = some (.int .i64 (x0.toNat : Int)) ∧ W.cell? ⟨g, 1, none⟩ = some (.int .i64 (x1.toNat : Int)) ∧ W.cell? ⟨g, 2, none⟩ = some (.int .i64 (x2.toNat : Int)) ∧ W.rangeAt g 3 (bC n).toList ∧ W.rangeAt g 15 (bC t).toList := by
 refine ⟨by rw [cell_blk h]; rfl, by rw [cell_blk h]; rfl, by rw [cell_blk h]; rfl, ?_⟩
 have h2 : W.rangeAt g 0 (rL x0 x1 x2 n t) := range_whole h
 unfold rL at h2
 have h3 := range_app_right h2 3 rfl
 rw [Nat.zero_add] at h3
 exact ⟨range_app_left h3, range_app_right h3 12 (by simp [bC, hn])⟩
theorem refUses_any (k : Nat) (w : World) : Calls Tryz.prog 135 #[.int .i64 (k : Int)] w fun e w' => e = .returned (.tuple #[.int .i64 ((usK6 k).1 : Int), .bool (usK6 k).2.1, .bool (usK6 k).2.2]) ∧ w = w' := by
 obtain h | h | h | h | h | ⟨h2, h3, h4, h5, h6⟩ : k = 2 ∨ k = 3 ∨ k = 4 ∨ k = 5 ∨ k = 6 ∨ (k ≠ 2 ∧ k ≠ 3 ∧ k ≠ 4 ∧ k ≠ 5 ∧ k ≠ 6) := by omega
 · subst h
   go_enter Tryz.func135, Tryz.ntmps135
   go_wp2_with fail
   refine bodyPost_ret (results_tmp3 rfl _ _ _) rfl ?_
   exact ⟨rfl, rfl⟩
 · subst h
   go_enter Tryz.func135, Tryz.ntmps135
   go_wp2_with fail
   refine bodyPost_ret (results_tmp3 rfl _ _ _) rfl ?_
   exact ⟨rfl, rfl⟩
 · subst h
   go_enter Tryz.func135, Tryz.ntmps135
   go_wp2_with fail
   refine bodyPost_ret (results_tmp3 rfl _ _ _) rfl ?_
   exact ⟨rfl, rfl⟩
 · subst h
   go_enter Tryz.func135, Tryz.ntmps135
   go_wp2_with fail
   refine bodyPost_ret (results_tmp3 rfl _ _ _) rfl ?_
   exact ⟨rfl, rfl⟩
 · subst h
   go_enter Tryz.func135, Tryz.ntmps135
   go_wp2_with fail
   refine bodyPost_ret (results_tmp3 rfl _ _ _) rfl ?_
   exact ⟨rfl, rfl⟩
 · have HU : Hid (usK6 k = (0, false, false)) := by show _ = _; unfold usK6; rw [if_neg h2, if_neg h3, if_neg h4, if_neg h5, if_neg h6]
   have e2 : ((k : Int) == 2) = false := by simp; omega
   have e3 : ((k : Int) == 3) = false := by simp; omega
   have e4 : ((k : Int) == 4) = false := by simp; omega
   have e5 : ((k : Int) == 5) = false := by simp; omega
   have e6 : ((k : Int) == 6) = false := by simp; omega
   clear h2 h3 h4 h5 h6
   go_enter Tryz.func135, Tryz.ntmps135
   go_wp2_with fail
   refine bodyPost_ret (results_tmp3 rfl _ _ _) rfl ?_
   exact ⟨by rw [HU.out]; rfl, rfl⟩
structure DkSt (w W : World) (k : List Value) : Prop where
 bel : Below w.heap.size w W
 a : W.heap[w.heap.size]? = some (.cells k.toArray 44 (0, 0))
 r : W.heap[w.heap.size + 1]? = some (.cells (rL 0 0 0 z12k z10k).toArray 44 (0, 0))
theorem DkSt.below {w W W' : World} {k : List Value} (h : DkSt w W k) (hb : Below W.heap.size W W') : DkSt w W' k :=
 ⟨h.bel.trans (hb.mono h.bel.size), (hb.block _ (lt_heap h.a)).trans h.a, (hb.block _ (lt_heap h.r)).trans h.r⟩
theorem DkSt.set {w W W' : World} {k k' : List Value} (h : DkSt w W k) (hk : W'.heap[w.heap.size]? = some (.cells k'.toArray 44 (0, 0))) (ht : Turn [w.heap.size] W W') : DkSt w W' k' :=
 ⟨h.bel.trans (ht.below (fun k hk => by simp at hk; omega) h.bel.size), hk, (ht.block _ (lt_heap h.r) (by simp)).trans h.r⟩
theorem bldRK0 : Tryz.prog.built 44 [] = some (rL 0 0 0 z12k z10k).toArray := by kernel_rfl
theorem bldN12 : Tryz.prog.built 23 [] = some (bC z12k) := by kernel_rfl
theorem bldT10 : Tryz.prog.built 40 [] = some (bC z10k) := by kernel_rfl
theorem siz12A : (Tryz.prog.info? 23).map (·.size) = some 12 := by kernel_rfl
theorem refKeyOf_any (b0 b1 b2 : UInt8) (nm tg : List UInt8) (w : World) (hn : nm.length = 12) (ht : tg.length = 10) :
   Calls Tryz.prog 107 #[.agg (rL b0 b1 b2 nm tg).toArray] w fun e w' => e = .returned (.tuple #[.agg (rkR (ofK b0 b1 b2 nm tg)).toArray, .int .i64 (errK b0 b1 b2 nm tg : Nat)]) ∧ Below w.heap.size w w' := by
 have HSc : Hid (DkSt w ((w.alloc (.cells (rL b0 b1 b2 nm tg).toArray 44)).alloc (.cells (rL 0 0 0 z12k z10k).toArray 44)) (rL b0 b1 b2 nm tg)) := ⟨below_alloc2 _ _ _, heap_alloc2_old _ _ _, heap_alloc2_new _ _ _⟩
 have HNT : Hid (∀ W, Calls Tryz.prog 136 #[.agg (bC nm)] W fun e w' => e = .returned (.string ⟨(textL nm).toArray⟩) ∧ Below W.heap.size W w') := fun W => refText_any nm W hn
 have HTO : Hid (∀ W, Calls Tryz.prog 114 #[.agg (bC tg)] W fun e w' => e = .returned (.tuple #[.agg (tC (oR tg)), .bool (oB tg)]) ∧ Below W.heap.size W w') := fun W => refOf5_any tg W ht
 have hne := textL_empty nm
 have hrB : rightT tg = oB tg := right_of ht
 have HLe : Hid (oB tg = true → (oR tg).lang.isEmpty = decide (tg = z10k)) := fun h => lang_empty ht h
 have HL12 := Lib.hid hn
 have HL10 := Lib.hid ht
 obtain ⟨ua, ub, uc, HU⟩ : ∃ (ua : Nat) (ub uc : Bool), Hid (usK6 b0.toNat = (ua, ub, uc)) := ⟨_, _, _, rfl⟩
 have HUb : Hid (¬ 0 < ua → ub = false) := fun h => usK6_nm HU.out h
 have KU : Hid (∀ W, Calls Tryz.prog 135 #[.int .i64 (b0.toNat : Int)] W fun e w' => e = .returned (.tuple #[.int .i64 (ua : Int), .bool ub, .bool uc]) ∧ W = w') := fun W => by
   have := refUses_any b0.toNat W
   rwa [HU.out] at this
 have e1 := fun W => eqE5 (textL nm) W
 have m1 := emp5 (textL nm)
 have e2 := fun W => eqE5 (oR tg).lang W
 have m2 := emp5 (oR tg).lang
 clear hn ht
 go_enter Tryz.func107, Tryz.ntmps107
 go_upto_region 1 with fail
 rw [show (Obj.cells #[Value.int .i64 0, .int .i64 0, .int .i64 0, .int .u8 0, .int .u8 0, .int .u8 0, .int .u8 0, .int .u8 0, .int .u8 0, .int .u8 0, .int .u8 0, .int .u8 0, .int .u8 0, .int .u8 0, .int .u8 0, .int .u8 0, .int .u8 0, .int .u8 0, .int .u8 0, .int .u8 0, .int .u8 0, .int .u8 0, .int .u8 0, .int .u8 0, .int .u8 0] 44) = Obj.cells (rL 0 0 0 z12k z10k).toArray 44 from rfl]
 generalize (w.alloc (.cells (rL b0 b1 b2 nm tg).toArray 44)).alloc (.cells (rL 0 0 0 z12k z10k).toArray 44) = W1 at *
 obtain ⟨hc0, hc1, hc2, hRn, hRt⟩ := rL_sub HL12.out HSc.out.a
 have HRn := Lib.hid hRn
 have HRt := Lib.hid hRt
 clear hRn hRt
 go_upto_region 2 with (go_at_call 135; (refine (KU.out _).mono ?_); rintro e W2 ⟨rfl, rfl⟩)
 have h00 : ¬ (b1.toNat : Int) < 0 := by omega
 have h02 : ¬ (b2.toNat : Int) < 0 := by omega
 clear KU
 by_cases h1 : b0.toNat < 1 ∨ 6 < b0.toNat
 · by_cases h1a : (b0.toNat : Int) < 1
   · skip
     have HE : Hid (errK b0 b1 b2 nm tg = 16) := by
       show _ = _
       unfold errK
       rw [HU.out]
       simp only
       rw [if_pos h1]
     go_wp2_with (first
       | ((with_reducible refine gate_bd 44 _ rfl ?_); refine wl_bd rfl _ [] rfl [] rfl (rL 0 0 0 z12k z10k).toArray bldRK0 ?_)
       | ((with_reducible refine gate_st 44 _ _ rfl ?_); refine wl_strG rfl 44 _ _ rfl (w.heap.size + 1) (rL 0 0 0 z12k z10k).toArray (rL 0 0 0 z12k z10k).toArray 44 (by rw [sizR44]; rfl) rfl (by rw [← Array.all_toList]; exact rL_one _ _ _ _ _) rfl (by first | rfl | simp [Act.eval, Act.put]) HSc.out.r (fun W8 h1 h2 => ?_); have HGr := Lib.hid h1; have HBr := Lib.hid (HSc.out.bel.trans (h2.below (B := w.heap.size) (fun k hk => by simp at hk; omega) HSc.out.bel.size)); clear h1 h2; try simp only [Act.put]))
     refine bodyPost_ret (res_rowc_tmp (P := Tryz.prog) rfl _ _ (w.heap.size + 1) (rL 0 0 0 z12k z10k).toArray (0, 0) rfl HGr.out Tryz.underlying44 rfl (by rw [sizR44]; rfl)) rfl ⟨?_, HBr.out⟩
     unfold ofK
     rw [HE.out, if_neg (by decide), rkR_kL]
     rfl
   · have h1b : (6 : Int) < (b0.toNat : Int) := by omega
     have HE : Hid (errK b0 b1 b2 nm tg = 16) := by
       show _ = _
       unfold errK
       rw [HU.out]
       simp only
       rw [if_pos h1]
     go_wp2_with (first
       | ((with_reducible refine gate_bd 44 _ rfl ?_); refine wl_bd rfl _ [] rfl [] rfl (rL 0 0 0 z12k z10k).toArray bldRK0 ?_)
       | ((with_reducible refine gate_st 44 _ _ rfl ?_); refine wl_strG rfl 44 _ _ rfl (w.heap.size + 1) (rL 0 0 0 z12k z10k).toArray (rL 0 0 0 z12k z10k).toArray 44 (by rw [sizR44]; rfl) rfl (by rw [← Array.all_toList]; exact rL_one _ _ _ _ _) rfl (by first | rfl | simp [Act.eval, Act.put]) HSc.out.r (fun W8 h1 h2 => ?_); have HGr := Lib.hid h1; have HBr := Lib.hid (HSc.out.bel.trans (h2.below (B := w.heap.size) (fun k hk => by simp at hk; omega) HSc.out.bel.size)); clear h1 h2; try simp only [Act.put]))
     refine bodyPost_ret (res_rowc_tmp (P := Tryz.prog) rfl _ _ (w.heap.size + 1) (rL 0 0 0 z12k z10k).toArray (0, 0) rfl HGr.out Tryz.underlying44 rfl (by rw [sizR44]; rfl)) rfl ⟨?_, HBr.out⟩
     unfold ofK
     rw [HE.out, if_neg (by decide), rkR_kL]
     rfl
 · have h1a : ¬ (b0.toNat : Int) < 1 := by omega
   have h1b : ¬ (6 : Int) < (b0.toNat : Int) := by omega
   by_cases h4 : (3 : Int) < (b1.toNat : Int)
   · skip
     have HE : Hid (errK b0 b1 b2 nm tg = 5) := by
       show _ = _
       unfold errK
       rw [HU.out]
       simp only
       rw [if_neg h1, if_pos (.inl (by omega))]
     go_wp2_with (first
       | ((with_reducible refine gate_bd 44 _ rfl ?_); refine wl_bd rfl _ [] rfl [] rfl (rL 0 0 0 z12k z10k).toArray bldRK0 ?_)
       | ((with_reducible refine gate_st 44 _ _ rfl ?_); refine wl_strG rfl 44 _ _ rfl (w.heap.size + 1) (rL 0 0 0 z12k z10k).toArray (rL 0 0 0 z12k z10k).toArray 44 (by rw [sizR44]; rfl) rfl (by rw [← Array.all_toList]; exact rL_one _ _ _ _ _) rfl (by first | rfl | simp [Act.eval, Act.put]) HSc.out.r (fun W8 h1 h2 => ?_); have HGr := Lib.hid h1; have HBr := Lib.hid (HSc.out.bel.trans (h2.below (B := w.heap.size) (fun k hk => by simp at hk; omega) HSc.out.bel.size)); clear h1 h2; try simp only [Act.put]))
     refine bodyPost_ret (res_rowc_tmp (P := Tryz.prog) rfl _ _ (w.heap.size + 1) (rL 0 0 0 z12k z10k).toArray (0, 0) rfl HGr.out Tryz.underlying44 rfl (by rw [sizR44]; rfl)) rfl ⟨?_, HBr.out⟩
     unfold ofK
     rw [HE.out, if_neg (by decide), rkR_kL]
     rfl
   · by_cases hup : 0 < ua
     · have hupI : (0 : Int) < (ua : Int) := by omega
       have hupE : ((ua : Int) == 0) = false := by simp; omega
       by_cases h5 : (ua : Int) ≤ (b2.toNat : Int)
       · skip
         have HE : Hid (errK b0 b1 b2 nm tg = 5) := by
           show _ = _
           unfold errK
           rw [HU.out]
           simp only
           rw [if_neg h1, if_pos (.inr ⟨hup, by omega⟩)]
         go_wp2_with (first
           | ((with_reducible refine gate_bd 44 _ rfl ?_); refine wl_bd rfl _ [] rfl [] rfl (rL 0 0 0 z12k z10k).toArray bldRK0 ?_)
           | ((with_reducible refine gate_st 44 _ _ rfl ?_); refine wl_strG rfl 44 _ _ rfl (w.heap.size + 1) (rL 0 0 0 z12k z10k).toArray (rL 0 0 0 z12k z10k).toArray 44 (by rw [sizR44]; rfl) rfl (by rw [← Array.all_toList]; exact rL_one _ _ _ _ _) rfl (by first | rfl | simp [Act.eval, Act.put]) HSc.out.r (fun W8 h1 h2 => ?_); have HGr := Lib.hid h1; have HBr := Lib.hid (HSc.out.bel.trans (h2.below (B := w.heap.size) (fun k hk => by simp at hk; omega) HSc.out.bel.size)); clear h1 h2; try simp only [Act.put]))
         refine bodyPost_ret (res_rowc_tmp (P := Tryz.prog) rfl _ _ (w.heap.size + 1) (rL 0 0 0 z12k z10k).toArray (0, 0) rfl HGr.out Tryz.underlying44 rfl (by rw [sizR44]; rfl)) rfl ⟨?_, HBr.out⟩
         unfold ofK
         rw [HE.out, if_neg (by decide), rkR_kL]
         rfl
       · skip
         cases ub with
         | false =>
           cases uc with
           | false =>
             have HE : Hid (errK b0 b1 b2 nm tg = 0) := by
               show _ = _
               unfold errK
               rw [HU.out]
               simp only
               rw [if_neg h1, if_neg (by rintro (h | ⟨_, h⟩) <;> omega), if_neg (by simp), if_neg (by simp)]
             have HO : Hid (ofK b0 b1 b2 nm tg = kL b0 b1 b2 z12k z10k) := by
               show _ = _
               unfold ofK
               rw [HE.out, HU.out, if_pos rfl]
               simp only
               rw [if_pos hup]
               rfl
             go_upto_region 11 with (first
               | ((with_reducible refine gate_ld 40 _ rfl ?_); refine wl_ldr rfl 40 _ rfl w.heap.size 15 (bC tg).toList _ Tryz.underlying40 rfl (by rw [siz10A]; simp [bC, HL10.out]) rfl HRt.out ?_)
               | (go_at_call 114; (refine (HTO.out _).mono ?_); rintro e W5 ⟨rfl, hb5⟩; have HSc := Lib.hid ((HSc.out.below hb5).below (below_alloc1 W5 (.cells (tC (oR tg)) 181))); have HGt : Hid ((W5.alloc (.cells (tC (oR tg)) 181)).heap[W5.heap.size]? = some (.cells (tC (oR tg)) 181 (0, 0))) := heap_alloc_new _ _; have hct : (W5.alloc (.cells (tC (oR tg)) 181)).cell? ⟨W5.heap.size, 0, none⟩ = some (.string ⟨(oR tg).lang.toArray⟩) := (by rw [cell_blk HGt.out]; rfl); (obtain ⟨hc0, hc1, hc2, hRn, hRt⟩ := rL_sub HL12.out HSc.out.a); have HRn := Lib.hid hRn; have HRt := Lib.hid hRt; clear hRn hRt; clear hb5)
               | ((with_reducible refine gate_st 181 _ _ rfl ?_); refine wl_strn rfl _ _ _ rfl (tC (oR tg)) #[Value.string ⟨#[]⟩, Value.string ⟨#[]⟩, Value.string ⟨#[]⟩] _ (by kernel_rfl) rfl (tC_one _) (by simp [Act.eval]) rfl ?_))
             clear hc0 hc1 hc2 HRn HRt
             go_wp2_with (first
               | ((with_reducible refine gate_bd 23 _ rfl ?_); refine wl_bd rfl _ [] rfl [] rfl (bC z12k) bldN12 ?_)
               | ((with_reducible refine gate_st 23 _ _ rfl ?_); refine wl_stR rfl 23 _ _ rfl w.heap.size 3 (bC z12k).toList (by rw [siz12A]; rfl) rfl (by first | rfl | simp [Act.eval, Act.put]) (bC_oneL z12k) (rL b0 b1 b2 nm tg) 44 HSc.out.a (by rw [rL_len HL12.out HL10.out]; decide) (fun W7 h1 h2 => ?_); have HSc : Hid (DkSt w W7 (rL b0 b1 b2 z12k tg)) := HSc.out.set (by rw [rL_nm _ _ _ _ HL12.out rfl] at h1; exact h1) h2; clear h1 h2; try simp only [Act.put])
               | ((with_reducible refine gate_bd 40 _ rfl ?_); refine wl_bd rfl _ [] rfl [] rfl (bC z10k) bldT10 ?_)
               | ((with_reducible refine gate_st 40 _ _ rfl ?_); refine wl_stR rfl 40 _ _ rfl w.heap.size 15 (bC z10k).toList (by rw [siz10A]; rfl) rfl (by first | rfl | simp [Act.eval, Act.put]) (bC_oneL z10k) (rL b0 b1 b2 z12k tg) 44 HSc.out.a (by rw [rL_len (rfl : z12k.length = 12) HL10.out]; decide) (fun W7 h1 h2 => ?_); have HSc : Hid (DkSt w W7 (rL b0 b1 b2 z12k z10k)) := HSc.out.set (by rw [rL_tg _ _ _ (rfl : z12k.length = 12) HL10.out rfl] at h1; exact h1) h2; clear h1 h2; try simp only [Act.put])
               | ((with_reducible refine gate_ld 44 _ rfl ?_); refine wl_ldr rfl 44 _ rfl w.heap.size 0 (rL b0 b1 b2 z12k z10k) _ Tryz.underlying44 rfl (by rw [sizR44, rL_len (rfl : z12k.length = 12) (rfl : z10k.length = 10)]) rfl (range_whole HSc.out.a) ?_)
               | ((with_reducible refine gate_st 44 _ _ rfl ?_); refine wl_strG rfl 44 _ _ rfl (w.heap.size + 1) (rL b0 b1 b2 z12k z10k).toArray (rL 0 0 0 z12k z10k).toArray 44 (by rw [sizR44, List.size_toArray, rL_len (rfl : z12k.length = 12) (rfl : z10k.length = 10)]) (by rw [List.size_toArray, rL_len (rfl : z12k.length = 12) (rfl : z10k.length = 10)]; rfl) (by rw [← Array.all_toList]; exact rL_one _ _ _ _ _) rfl (by first | rfl | simp [Act.eval, Act.put]) HSc.out.r (fun W8 h1 h2 => ?_); have HGr := Lib.hid h1; have HBr := Lib.hid (HSc.out.bel.trans (h2.below (B := w.heap.size) (fun k hk => by simp at hk; omega) HSc.out.bel.size)); clear h1 h2; try simp only [Act.put]))
             refine bodyPost_ret (res_rowc_tmp (P := Tryz.prog) rfl _ _ (w.heap.size + 1) (rL b0 b1 b2 z12k z10k).toArray (0, 0) rfl HGr.out Tryz.underlying44 rfl (by rw [sizR44, List.size_toArray, rL_len (rfl : z12k.length = 12) (rfl : z10k.length = 10)])) rfl ⟨?_, HBr.out⟩
             rw [HO.out, HE.out, rkR_kL]
             rfl
           | true =>
             cases hob : oB tg with
             | false =>
               rw [hob] at HTO
               have hrt : rightT tg = false := by rw [hrB, hob]
               have HE : Hid (errK b0 b1 b2 nm tg = 14) := by
                 show _ = _
                 unfold errK
                 rw [HU.out]
                 simp only
                 rw [if_neg h1, if_neg (by rintro (h | ⟨_, h⟩) <;> omega), if_neg (by simp), if_pos (by simp [hrt])]
               clear hrB HLe hob
               go_wp2_with (first
                 | ((with_reducible refine gate_ld 40 _ rfl ?_); refine wl_ldr rfl 40 _ rfl w.heap.size 15 (bC tg).toList _ Tryz.underlying40 rfl (by rw [siz10A]; simp [bC, HL10.out]) rfl HRt.out ?_)
                 | (go_at_call 114; (refine (HTO.out _).mono ?_); rintro e W5 ⟨rfl, hb5⟩; have HSc := Lib.hid ((HSc.out.below hb5).below (below_alloc1 W5 (.cells (tC (oR tg)) 181))); have HGt : Hid ((W5.alloc (.cells (tC (oR tg)) 181)).heap[W5.heap.size]? = some (.cells (tC (oR tg)) 181 (0, 0))) := heap_alloc_new _ _; have hct : (W5.alloc (.cells (tC (oR tg)) 181)).cell? ⟨W5.heap.size, 0, none⟩ = some (.string ⟨(oR tg).lang.toArray⟩) := (by rw [cell_blk HGt.out]; rfl); (obtain ⟨hc0, hc1, hc2, hRn, hRt⟩ := rL_sub HL12.out HSc.out.a); have HRn := Lib.hid hRn; have HRt := Lib.hid hRt; clear hRn hRt; clear hb5)
                 | ((with_reducible refine gate_st 181 _ _ rfl ?_); refine wl_strn rfl _ _ _ rfl (tC (oR tg)) #[Value.string ⟨#[]⟩, Value.string ⟨#[]⟩, Value.string ⟨#[]⟩] _ (by kernel_rfl) rfl (tC_one _) (by simp [Act.eval]) rfl ?_)
                 | ((with_reducible refine gate_bd 44 _ rfl ?_); refine wl_bd rfl _ [] rfl [] rfl (rL 0 0 0 z12k z10k).toArray bldRK0 ?_)
                 | ((with_reducible refine gate_st 44 _ _ rfl ?_); refine wl_strG rfl 44 _ _ rfl (w.heap.size + 1) (rL 0 0 0 z12k z10k).toArray (rL 0 0 0 z12k z10k).toArray 44 (by rw [sizR44]; rfl) rfl (by rw [← Array.all_toList]; exact rL_one _ _ _ _ _) rfl (by first | rfl | simp [Act.eval, Act.put]) HSc.out.r (fun W8 h1 h2 => ?_); have HGr := Lib.hid h1; have HBr := Lib.hid (HSc.out.bel.trans (h2.below (B := w.heap.size) (fun k hk => by simp at hk; omega) HSc.out.bel.size)); clear h1 h2; try simp only [Act.put]))
               refine bodyPost_ret (res_rowc_tmp (P := Tryz.prog) rfl _ _ (w.heap.size + 1) (rL 0 0 0 z12k z10k).toArray (0, 0) rfl HGr.out Tryz.underlying44 rfl (by rw [sizR44]; rfl)) rfl ⟨?_, HBr.out⟩
               unfold ofK
               rw [HE.out, if_neg (by decide), rkR_kL]
               rfl
             | true =>
               rw [hob] at HTO
               have hrt : rightT tg = true := by rw [hrB, hob]
               have hle := HLe.out hob
               by_cases htz : tg = z10k
               · rw [decide_eq_true htz] at hle
                 have HE : Hid (errK b0 b1 b2 nm tg = 14) := by
                   show _ = _
                   unfold errK
                   rw [HU.out]
                   simp only
                   rw [if_neg h1, if_neg (by rintro (h | ⟨_, h⟩) <;> omega), if_neg (by simp), if_pos (by simp [htz])]
                 clear htz
                 clear hrB HLe hob
                 go_wp2_with (first
                   | ((with_reducible refine gate_ld 40 _ rfl ?_); refine wl_ldr rfl 40 _ rfl w.heap.size 15 (bC tg).toList _ Tryz.underlying40 rfl (by rw [siz10A]; simp [bC, HL10.out]) rfl HRt.out ?_)
                   | (go_at_call 114; (refine (HTO.out _).mono ?_); rintro e W5 ⟨rfl, hb5⟩; have HSc := Lib.hid ((HSc.out.below hb5).below (below_alloc1 W5 (.cells (tC (oR tg)) 181))); have HGt : Hid ((W5.alloc (.cells (tC (oR tg)) 181)).heap[W5.heap.size]? = some (.cells (tC (oR tg)) 181 (0, 0))) := heap_alloc_new _ _; have hct : (W5.alloc (.cells (tC (oR tg)) 181)).cell? ⟨W5.heap.size, 0, none⟩ = some (.string ⟨(oR tg).lang.toArray⟩) := (by rw [cell_blk HGt.out]; rfl); (obtain ⟨hc0, hc1, hc2, hRn, hRt⟩ := rL_sub HL12.out HSc.out.a); have HRn := Lib.hid hRn; have HRt := Lib.hid hRt; clear hRn hRt; clear hb5)
                   | ((with_reducible refine gate_st 181 _ _ rfl ?_); refine wl_strn rfl _ _ _ rfl (tC (oR tg)) #[Value.string ⟨#[]⟩, Value.string ⟨#[]⟩, Value.string ⟨#[]⟩] _ (by kernel_rfl) rfl (tC_one _) (by simp [Act.eval]) rfl ?_)
                   | ((with_reducible refine gate_bd 44 _ rfl ?_); refine wl_bd rfl _ [] rfl [] rfl (rL 0 0 0 z12k z10k).toArray bldRK0 ?_)
                   | ((with_reducible refine gate_st 44 _ _ rfl ?_); refine wl_strG rfl 44 _ _ rfl (w.heap.size + 1) (rL 0 0 0 z12k z10k).toArray (rL 0 0 0 z12k z10k).toArray 44 (by rw [sizR44]; rfl) rfl (by rw [← Array.all_toList]; exact rL_one _ _ _ _ _) rfl (by first | rfl | simp [Act.eval, Act.put]) HSc.out.r (fun W8 h1 h2 => ?_); have HGr := Lib.hid h1; have HBr := Lib.hid (HSc.out.bel.trans (h2.below (B := w.heap.size) (fun k hk => by simp at hk; omega) HSc.out.bel.size)); clear h1 h2; try simp only [Act.put]))
                 refine bodyPost_ret (res_rowc_tmp (P := Tryz.prog) rfl _ _ (w.heap.size + 1) (rL 0 0 0 z12k z10k).toArray (0, 0) rfl HGr.out Tryz.underlying44 rfl (by rw [sizR44]; rfl)) rfl ⟨?_, HBr.out⟩
                 unfold ofK
                 rw [HE.out, if_neg (by decide), rkR_kL]
                 rfl
               · rw [decide_eq_false htz] at hle
                 have HE : Hid (errK b0 b1 b2 nm tg = 0) := by
                   show _ = _
                   unfold errK
                   rw [HU.out]
                   simp only
                   rw [if_neg h1, if_neg (by rintro (h | ⟨_, h⟩) <;> omega), if_neg (by simp), if_neg (by simp [hrt, htz])]
                 clear htz
                 have HO : Hid (ofK b0 b1 b2 nm tg = kL b0 b1 b2 z12k tg) := by
                   show _ = _
                   unfold ofK
                   rw [HE.out, HU.out, if_pos rfl]
                   simp only
                   rw [if_pos hup]
                   rfl
                 go_upto_region 11 with (first
                   | ((with_reducible refine gate_ld 40 _ rfl ?_); refine wl_ldr rfl 40 _ rfl w.heap.size 15 (bC tg).toList _ Tryz.underlying40 rfl (by rw [siz10A]; simp [bC, HL10.out]) rfl HRt.out ?_)
                   | (go_at_call 114; (refine (HTO.out _).mono ?_); rintro e W5 ⟨rfl, hb5⟩; have HSc := Lib.hid ((HSc.out.below hb5).below (below_alloc1 W5 (.cells (tC (oR tg)) 181))); have HGt : Hid ((W5.alloc (.cells (tC (oR tg)) 181)).heap[W5.heap.size]? = some (.cells (tC (oR tg)) 181 (0, 0))) := heap_alloc_new _ _; have hct : (W5.alloc (.cells (tC (oR tg)) 181)).cell? ⟨W5.heap.size, 0, none⟩ = some (.string ⟨(oR tg).lang.toArray⟩) := (by rw [cell_blk HGt.out]; rfl); (obtain ⟨hc0, hc1, hc2, hRn, hRt⟩ := rL_sub HL12.out HSc.out.a); have HRn := Lib.hid hRn; have HRt := Lib.hid hRt; clear hRn hRt; clear hb5)
                   | ((with_reducible refine gate_st 181 _ _ rfl ?_); refine wl_strn rfl _ _ _ rfl (tC (oR tg)) #[Value.string ⟨#[]⟩, Value.string ⟨#[]⟩, Value.string ⟨#[]⟩] _ (by kernel_rfl) rfl (tC_one _) (by simp [Act.eval]) rfl ?_))
                 clear hc0 hc1 hc2 HRn HRt
                 go_wp2_with (first
                   | ((with_reducible refine gate_bd 23 _ rfl ?_); refine wl_bd rfl _ [] rfl [] rfl (bC z12k) bldN12 ?_)
                   | ((with_reducible refine gate_st 23 _ _ rfl ?_); refine wl_stR rfl 23 _ _ rfl w.heap.size 3 (bC z12k).toList (by rw [siz12A]; rfl) rfl (by first | rfl | simp [Act.eval, Act.put]) (bC_oneL z12k) (rL b0 b1 b2 nm tg) 44 HSc.out.a (by rw [rL_len HL12.out HL10.out]; decide) (fun W7 h1 h2 => ?_); have HSc : Hid (DkSt w W7 (rL b0 b1 b2 z12k tg)) := HSc.out.set (by rw [rL_nm _ _ _ _ HL12.out rfl] at h1; exact h1) h2; clear h1 h2; try simp only [Act.put])
                   | ((with_reducible refine gate_ld 44 _ rfl ?_); refine wl_ldr rfl 44 _ rfl w.heap.size 0 (rL b0 b1 b2 z12k tg) _ Tryz.underlying44 rfl (by rw [sizR44, rL_len (rfl : z12k.length = 12) HL10.out]) rfl (range_whole HSc.out.a) ?_)
                   | ((with_reducible refine gate_st 44 _ _ rfl ?_); refine wl_strG rfl 44 _ _ rfl (w.heap.size + 1) (rL b0 b1 b2 z12k tg).toArray (rL 0 0 0 z12k z10k).toArray 44 (by rw [sizR44, List.size_toArray, rL_len (rfl : z12k.length = 12) HL10.out]) (by rw [List.size_toArray, rL_len (rfl : z12k.length = 12) HL10.out]; rfl) (by rw [← Array.all_toList]; exact rL_one _ _ _ _ _) rfl (by first | rfl | simp [Act.eval, Act.put]) HSc.out.r (fun W8 h1 h2 => ?_); have HGr := Lib.hid h1; have HBr := Lib.hid (HSc.out.bel.trans (h2.below (B := w.heap.size) (fun k hk => by simp at hk; omega) HSc.out.bel.size)); clear h1 h2; try simp only [Act.put]))
                 refine bodyPost_ret (res_rowc_tmp (P := Tryz.prog) rfl _ _ (w.heap.size + 1) (rL b0 b1 b2 z12k tg).toArray (0, 0) rfl HGr.out Tryz.underlying44 rfl (by rw [sizR44, List.size_toArray, rL_len (rfl : z12k.length = 12) HL10.out])) rfl ⟨?_, HBr.out⟩
                 rw [HO.out, HE.out, rkR_kL]
                 rfl
         | true =>
           cases hrn : rightB nm with
           | false =>
             rw [hrn] at hne
             have HE : Hid (errK b0 b1 b2 nm tg = 15) := by
               show _ = _
               unfold errK
               rw [HU.out]
               simp only
               rw [if_neg h1, if_neg (by rintro (h | ⟨_, h⟩) <;> omega), if_pos (by simp [hrn])]
             go_wp2_with (first
               | ((with_reducible refine gate_ld 23 _ rfl ?_); refine wl_ldr rfl 23 _ rfl w.heap.size 3 (bC nm).toList _ Tryz.underlying23 rfl (by rw [siz12A]; simp [bC, HL12.out]) rfl HRn.out ?_)
               | (go_at_call 136; (refine (HNT.out _).mono ?_); rintro e W4 ⟨rfl, hb4⟩; have HSc := Lib.hid (HSc.out.below hb4); (obtain ⟨hc0, hc1, hc2, hRn, hRt⟩ := rL_sub HL12.out HSc.out.a); have HRn := Lib.hid hRn; have HRt := Lib.hid hRt; clear hRn hRt; clear hb4)
               | ((with_reducible refine gate_bd 44 _ rfl ?_); refine wl_bd rfl _ [] rfl [] rfl (rL 0 0 0 z12k z10k).toArray bldRK0 ?_)
               | ((with_reducible refine gate_st 44 _ _ rfl ?_); refine wl_strG rfl 44 _ _ rfl (w.heap.size + 1) (rL 0 0 0 z12k z10k).toArray (rL 0 0 0 z12k z10k).toArray 44 (by rw [sizR44]; rfl) rfl (by rw [← Array.all_toList]; exact rL_one _ _ _ _ _) rfl (by first | rfl | simp [Act.eval, Act.put]) HSc.out.r (fun W8 h1 h2 => ?_); have HGr := Lib.hid h1; have HBr := Lib.hid (HSc.out.bel.trans (h2.below (B := w.heap.size) (fun k hk => by simp at hk; omega) HSc.out.bel.size)); clear h1 h2; try simp only [Act.put]))
             refine bodyPost_ret (res_rowc_tmp (P := Tryz.prog) rfl _ _ (w.heap.size + 1) (rL 0 0 0 z12k z10k).toArray (0, 0) rfl HGr.out Tryz.underlying44 rfl (by rw [sizR44]; rfl)) rfl ⟨?_, HBr.out⟩
             unfold ofK
             rw [HE.out, if_neg (by decide), rkR_kL]
             rfl
           | true =>
             rw [hrn] at hne
             cases uc with
             | false =>
               have HE : Hid (errK b0 b1 b2 nm tg = 0) := by
                 show _ = _
                 unfold errK
                 rw [HU.out]
                 simp only
                 rw [if_neg h1, if_neg (by rintro (h | ⟨_, h⟩) <;> omega), if_neg (by simp [hrn]), if_neg (by simp)]
               have HO : Hid (ofK b0 b1 b2 nm tg = kL b0 b1 b2 nm z10k) := by
                 show _ = _
                 unfold ofK
                 rw [HE.out, HU.out, if_pos rfl]
                 simp only
                 rw [if_pos hup]
                 rfl
               go_upto_region 11 with (first
                 | ((with_reducible refine gate_ld 23 _ rfl ?_); refine wl_ldr rfl 23 _ rfl w.heap.size 3 (bC nm).toList _ Tryz.underlying23 rfl (by rw [siz12A]; simp [bC, HL12.out]) rfl HRn.out ?_)
                 | (go_at_call 136; (refine (HNT.out _).mono ?_); rintro e W4 ⟨rfl, hb4⟩; have HSc := Lib.hid (HSc.out.below hb4); (obtain ⟨hc0, hc1, hc2, hRn, hRt⟩ := rL_sub HL12.out HSc.out.a); have HRn := Lib.hid hRn; have HRt := Lib.hid hRt; clear hRn hRt; clear hb4)
                 | ((with_reducible refine gate_ld 40 _ rfl ?_); refine wl_ldr rfl 40 _ rfl w.heap.size 15 (bC tg).toList _ Tryz.underlying40 rfl (by rw [siz10A]; simp [bC, HL10.out]) rfl HRt.out ?_)
                 | (go_at_call 114; (refine (HTO.out _).mono ?_); rintro e W5 ⟨rfl, hb5⟩; have HSc := Lib.hid ((HSc.out.below hb5).below (below_alloc1 W5 (.cells (tC (oR tg)) 181))); have HGt : Hid ((W5.alloc (.cells (tC (oR tg)) 181)).heap[W5.heap.size]? = some (.cells (tC (oR tg)) 181 (0, 0))) := heap_alloc_new _ _; have hct : (W5.alloc (.cells (tC (oR tg)) 181)).cell? ⟨W5.heap.size, 0, none⟩ = some (.string ⟨(oR tg).lang.toArray⟩) := (by rw [cell_blk HGt.out]; rfl); (obtain ⟨hc0, hc1, hc2, hRn, hRt⟩ := rL_sub HL12.out HSc.out.a); have HRn := Lib.hid hRn; have HRt := Lib.hid hRt; clear hRn hRt; clear hb5)
                 | ((with_reducible refine gate_st 181 _ _ rfl ?_); refine wl_strn rfl _ _ _ rfl (tC (oR tg)) #[Value.string ⟨#[]⟩, Value.string ⟨#[]⟩, Value.string ⟨#[]⟩] _ (by kernel_rfl) rfl (tC_one _) (by simp [Act.eval]) rfl ?_))
               clear hc0 hc1 hc2 HRn HRt
               go_wp2_with (first
                 | ((with_reducible refine gate_bd 40 _ rfl ?_); refine wl_bd rfl _ [] rfl [] rfl (bC z10k) bldT10 ?_)
                 | ((with_reducible refine gate_st 40 _ _ rfl ?_); refine wl_stR rfl 40 _ _ rfl w.heap.size 15 (bC z10k).toList (by rw [siz10A]; rfl) rfl (by first | rfl | simp [Act.eval, Act.put]) (bC_oneL z10k) (rL b0 b1 b2 nm tg) 44 HSc.out.a (by rw [rL_len HL12.out HL10.out]; decide) (fun W7 h1 h2 => ?_); have HSc : Hid (DkSt w W7 (rL b0 b1 b2 nm z10k)) := HSc.out.set (by rw [rL_tg _ _ _ HL12.out HL10.out rfl] at h1; exact h1) h2; clear h1 h2; try simp only [Act.put])
                 | ((with_reducible refine gate_ld 44 _ rfl ?_); refine wl_ldr rfl 44 _ rfl w.heap.size 0 (rL b0 b1 b2 nm z10k) _ Tryz.underlying44 rfl (by rw [sizR44, rL_len HL12.out (rfl : z10k.length = 10)]) rfl (range_whole HSc.out.a) ?_)
                 | ((with_reducible refine gate_st 44 _ _ rfl ?_); refine wl_strG rfl 44 _ _ rfl (w.heap.size + 1) (rL b0 b1 b2 nm z10k).toArray (rL 0 0 0 z12k z10k).toArray 44 (by rw [sizR44, List.size_toArray, rL_len HL12.out (rfl : z10k.length = 10)]) (by rw [List.size_toArray, rL_len HL12.out (rfl : z10k.length = 10)]; rfl) (by rw [← Array.all_toList]; exact rL_one _ _ _ _ _) rfl (by first | rfl | simp [Act.eval, Act.put]) HSc.out.r (fun W8 h1 h2 => ?_); have HGr := Lib.hid h1; have HBr := Lib.hid (HSc.out.bel.trans (h2.below (B := w.heap.size) (fun k hk => by simp at hk; omega) HSc.out.bel.size)); clear h1 h2; try simp only [Act.put]))
               refine bodyPost_ret (res_rowc_tmp (P := Tryz.prog) rfl _ _ (w.heap.size + 1) (rL b0 b1 b2 nm z10k).toArray (0, 0) rfl HGr.out Tryz.underlying44 rfl (by rw [sizR44, List.size_toArray, rL_len HL12.out (rfl : z10k.length = 10)])) rfl ⟨?_, HBr.out⟩
               rw [HO.out, HE.out, rkR_kL]
               rfl
             | true =>
               cases hob : oB tg with
               | false =>
                 rw [hob] at HTO
                 have hrt : rightT tg = false := by rw [hrB, hob]
                 have HE : Hid (errK b0 b1 b2 nm tg = 14) := by
                   show _ = _
                   unfold errK
                   rw [HU.out]
                   simp only
                   rw [if_neg h1, if_neg (by rintro (h | ⟨_, h⟩) <;> omega), if_neg (by simp [hrn]), if_pos (by simp [hrt])]
                 clear hrB HLe hob
                 go_wp2_with (first
                   | ((with_reducible refine gate_ld 23 _ rfl ?_); refine wl_ldr rfl 23 _ rfl w.heap.size 3 (bC nm).toList _ Tryz.underlying23 rfl (by rw [siz12A]; simp [bC, HL12.out]) rfl HRn.out ?_)
                   | (go_at_call 136; (refine (HNT.out _).mono ?_); rintro e W4 ⟨rfl, hb4⟩; have HSc := Lib.hid (HSc.out.below hb4); (obtain ⟨hc0, hc1, hc2, hRn, hRt⟩ := rL_sub HL12.out HSc.out.a); have HRn := Lib.hid hRn; have HRt := Lib.hid hRt; clear hRn hRt; clear hb4)
                   | ((with_reducible refine gate_ld 40 _ rfl ?_); refine wl_ldr rfl 40 _ rfl w.heap.size 15 (bC tg).toList _ Tryz.underlying40 rfl (by rw [siz10A]; simp [bC, HL10.out]) rfl HRt.out ?_)
                   | (go_at_call 114; (refine (HTO.out _).mono ?_); rintro e W5 ⟨rfl, hb5⟩; have HSc := Lib.hid ((HSc.out.below hb5).below (below_alloc1 W5 (.cells (tC (oR tg)) 181))); have HGt : Hid ((W5.alloc (.cells (tC (oR tg)) 181)).heap[W5.heap.size]? = some (.cells (tC (oR tg)) 181 (0, 0))) := heap_alloc_new _ _; have hct : (W5.alloc (.cells (tC (oR tg)) 181)).cell? ⟨W5.heap.size, 0, none⟩ = some (.string ⟨(oR tg).lang.toArray⟩) := (by rw [cell_blk HGt.out]; rfl); (obtain ⟨hc0, hc1, hc2, hRn, hRt⟩ := rL_sub HL12.out HSc.out.a); have HRn := Lib.hid hRn; have HRt := Lib.hid hRt; clear hRn hRt; clear hb5)
                   | ((with_reducible refine gate_st 181 _ _ rfl ?_); refine wl_strn rfl _ _ _ rfl (tC (oR tg)) #[Value.string ⟨#[]⟩, Value.string ⟨#[]⟩, Value.string ⟨#[]⟩] _ (by kernel_rfl) rfl (tC_one _) (by simp [Act.eval]) rfl ?_)
                   | ((with_reducible refine gate_bd 44 _ rfl ?_); refine wl_bd rfl _ [] rfl [] rfl (rL 0 0 0 z12k z10k).toArray bldRK0 ?_)
                   | ((with_reducible refine gate_st 44 _ _ rfl ?_); refine wl_strG rfl 44 _ _ rfl (w.heap.size + 1) (rL 0 0 0 z12k z10k).toArray (rL 0 0 0 z12k z10k).toArray 44 (by rw [sizR44]; rfl) rfl (by rw [← Array.all_toList]; exact rL_one _ _ _ _ _) rfl (by first | rfl | simp [Act.eval, Act.put]) HSc.out.r (fun W8 h1 h2 => ?_); have HGr := Lib.hid h1; have HBr := Lib.hid (HSc.out.bel.trans (h2.below (B := w.heap.size) (fun k hk => by simp at hk; omega) HSc.out.bel.size)); clear h1 h2; try simp only [Act.put]))
                 refine bodyPost_ret (res_rowc_tmp (P := Tryz.prog) rfl _ _ (w.heap.size + 1) (rL 0 0 0 z12k z10k).toArray (0, 0) rfl HGr.out Tryz.underlying44 rfl (by rw [sizR44]; rfl)) rfl ⟨?_, HBr.out⟩
                 unfold ofK
                 rw [HE.out, if_neg (by decide), rkR_kL]
                 rfl
               | true =>
                 rw [hob] at HTO
                 have hrt : rightT tg = true := by rw [hrB, hob]
                 have hle := HLe.out hob
                 by_cases htz : tg = z10k
                 · rw [decide_eq_true htz] at hle
                   have HE : Hid (errK b0 b1 b2 nm tg = 14) := by
                     show _ = _
                     unfold errK
                     rw [HU.out]
                     simp only
                     rw [if_neg h1, if_neg (by rintro (h | ⟨_, h⟩) <;> omega), if_neg (by simp [hrn]), if_pos (by simp [htz])]
                   clear htz
                   clear hrB HLe hob
                   go_wp2_with (first
                     | ((with_reducible refine gate_ld 23 _ rfl ?_); refine wl_ldr rfl 23 _ rfl w.heap.size 3 (bC nm).toList _ Tryz.underlying23 rfl (by rw [siz12A]; simp [bC, HL12.out]) rfl HRn.out ?_)
                     | (go_at_call 136; (refine (HNT.out _).mono ?_); rintro e W4 ⟨rfl, hb4⟩; have HSc := Lib.hid (HSc.out.below hb4); (obtain ⟨hc0, hc1, hc2, hRn, hRt⟩ := rL_sub HL12.out HSc.out.a); have HRn := Lib.hid hRn; have HRt := Lib.hid hRt; clear hRn hRt; clear hb4)
                     | ((with_reducible refine gate_ld 40 _ rfl ?_); refine wl_ldr rfl 40 _ rfl w.heap.size 15 (bC tg).toList _ Tryz.underlying40 rfl (by rw [siz10A]; simp [bC, HL10.out]) rfl HRt.out ?_)
                     | (go_at_call 114; (refine (HTO.out _).mono ?_); rintro e W5 ⟨rfl, hb5⟩; have HSc := Lib.hid ((HSc.out.below hb5).below (below_alloc1 W5 (.cells (tC (oR tg)) 181))); have HGt : Hid ((W5.alloc (.cells (tC (oR tg)) 181)).heap[W5.heap.size]? = some (.cells (tC (oR tg)) 181 (0, 0))) := heap_alloc_new _ _; have hct : (W5.alloc (.cells (tC (oR tg)) 181)).cell? ⟨W5.heap.size, 0, none⟩ = some (.string ⟨(oR tg).lang.toArray⟩) := (by rw [cell_blk HGt.out]; rfl); (obtain ⟨hc0, hc1, hc2, hRn, hRt⟩ := rL_sub HL12.out HSc.out.a); have HRn := Lib.hid hRn; have HRt := Lib.hid hRt; clear hRn hRt; clear hb5)
                     | ((with_reducible refine gate_st 181 _ _ rfl ?_); refine wl_strn rfl _ _ _ rfl (tC (oR tg)) #[Value.string ⟨#[]⟩, Value.string ⟨#[]⟩, Value.string ⟨#[]⟩] _ (by kernel_rfl) rfl (tC_one _) (by simp [Act.eval]) rfl ?_)
                     | ((with_reducible refine gate_bd 44 _ rfl ?_); refine wl_bd rfl _ [] rfl [] rfl (rL 0 0 0 z12k z10k).toArray bldRK0 ?_)
                     | ((with_reducible refine gate_st 44 _ _ rfl ?_); refine wl_strG rfl 44 _ _ rfl (w.heap.size + 1) (rL 0 0 0 z12k z10k).toArray (rL 0 0 0 z12k z10k).toArray 44 (by rw [sizR44]; rfl) rfl (by rw [← Array.all_toList]; exact rL_one _ _ _ _ _) rfl (by first | rfl | simp [Act.eval, Act.put]) HSc.out.r (fun W8 h1 h2 => ?_); have HGr := Lib.hid h1; have HBr := Lib.hid (HSc.out.bel.trans (h2.below (B := w.heap.size) (fun k hk => by simp at hk; omega) HSc.out.bel.size)); clear h1 h2; try simp only [Act.put]))
                   refine bodyPost_ret (res_rowc_tmp (P := Tryz.prog) rfl _ _ (w.heap.size + 1) (rL 0 0 0 z12k z10k).toArray (0, 0) rfl HGr.out Tryz.underlying44 rfl (by rw [sizR44]; rfl)) rfl ⟨?_, HBr.out⟩
                   unfold ofK
                   rw [HE.out, if_neg (by decide), rkR_kL]
                   rfl
                 · rw [decide_eq_false htz] at hle
                   have HE : Hid (errK b0 b1 b2 nm tg = 0) := by
                     show _ = _
                     unfold errK
                     rw [HU.out]
                     simp only
                     rw [if_neg h1, if_neg (by rintro (h | ⟨_, h⟩) <;> omega), if_neg (by simp [hrn]), if_neg (by simp [hrt, htz])]
                   clear htz
                   have HO : Hid (ofK b0 b1 b2 nm tg = kL b0 b1 b2 nm tg) := by
                     show _ = _
                     unfold ofK
                     rw [HE.out, HU.out, if_pos rfl]
                     simp only
                     rw [if_pos hup]
                     rfl
                   go_upto_region 11 with (first
                     | ((with_reducible refine gate_ld 23 _ rfl ?_); refine wl_ldr rfl 23 _ rfl w.heap.size 3 (bC nm).toList _ Tryz.underlying23 rfl (by rw [siz12A]; simp [bC, HL12.out]) rfl HRn.out ?_)
                     | (go_at_call 136; (refine (HNT.out _).mono ?_); rintro e W4 ⟨rfl, hb4⟩; have HSc := Lib.hid (HSc.out.below hb4); (obtain ⟨hc0, hc1, hc2, hRn, hRt⟩ := rL_sub HL12.out HSc.out.a); have HRn := Lib.hid hRn; have HRt := Lib.hid hRt; clear hRn hRt; clear hb4)
                     | ((with_reducible refine gate_ld 40 _ rfl ?_); refine wl_ldr rfl 40 _ rfl w.heap.size 15 (bC tg).toList _ Tryz.underlying40 rfl (by rw [siz10A]; simp [bC, HL10.out]) rfl HRt.out ?_)
                     | (go_at_call 114; (refine (HTO.out _).mono ?_); rintro e W5 ⟨rfl, hb5⟩; have HSc := Lib.hid ((HSc.out.below hb5).below (below_alloc1 W5 (.cells (tC (oR tg)) 181))); have HGt : Hid ((W5.alloc (.cells (tC (oR tg)) 181)).heap[W5.heap.size]? = some (.cells (tC (oR tg)) 181 (0, 0))) := heap_alloc_new _ _; have hct : (W5.alloc (.cells (tC (oR tg)) 181)).cell? ⟨W5.heap.size, 0, none⟩ = some (.string ⟨(oR tg).lang.toArray⟩) := (by rw [cell_blk HGt.out]; rfl); (obtain ⟨hc0, hc1, hc2, hRn, hRt⟩ := rL_sub HL12.out HSc.out.a); have HRn := Lib.hid hRn; have HRt := Lib.hid hRt; clear hRn hRt; clear hb5)
                     | ((with_reducible refine gate_st 181 _ _ rfl ?_); refine wl_strn rfl _ _ _ rfl (tC (oR tg)) #[Value.string ⟨#[]⟩, Value.string ⟨#[]⟩, Value.string ⟨#[]⟩] _ (by kernel_rfl) rfl (tC_one _) (by simp [Act.eval]) rfl ?_))
                   clear hc0 hc1 hc2 HRn HRt
                   go_wp2_with (first
                     | ((with_reducible refine gate_ld 44 _ rfl ?_); refine wl_ldr rfl 44 _ rfl w.heap.size 0 (rL b0 b1 b2 nm tg) _ Tryz.underlying44 rfl (by rw [sizR44, rL_len HL12.out HL10.out]) rfl (range_whole HSc.out.a) ?_)
                     | ((with_reducible refine gate_st 44 _ _ rfl ?_); refine wl_strG rfl 44 _ _ rfl (w.heap.size + 1) (rL b0 b1 b2 nm tg).toArray (rL 0 0 0 z12k z10k).toArray 44 (by rw [sizR44, List.size_toArray, rL_len HL12.out HL10.out]) (by rw [List.size_toArray, rL_len HL12.out HL10.out]; rfl) (by rw [← Array.all_toList]; exact rL_one _ _ _ _ _) rfl (by first | rfl | simp [Act.eval, Act.put]) HSc.out.r (fun W8 h1 h2 => ?_); have HGr := Lib.hid h1; have HBr := Lib.hid (HSc.out.bel.trans (h2.below (B := w.heap.size) (fun k hk => by simp at hk; omega) HSc.out.bel.size)); clear h1 h2; try simp only [Act.put]))
                   refine bodyPost_ret (res_rowc_tmp (P := Tryz.prog) rfl _ _ (w.heap.size + 1) (rL b0 b1 b2 nm tg).toArray (0, 0) rfl HGr.out Tryz.underlying44 rfl (by rw [sizR44, List.size_toArray, rL_len HL12.out HL10.out])) rfl ⟨?_, HBr.out⟩
                   rw [HO.out, HE.out, rkR_kL]
                   rfl
     · obtain rfl : ua = 0 := by omega
       obtain rfl : ub = false := HUb.out hup
       clear HUb
       cases uc with
       | false =>
         have HE : Hid (errK b0 b1 b2 nm tg = 0) := by
           show _ = _
           unfold errK
           rw [HU.out]
           simp only
           rw [if_neg h1, if_neg (by rintro (h | ⟨h, _⟩) <;> omega), if_neg (by simp), if_neg (by simp)]
         have HO : Hid (ofK b0 b1 b2 nm tg = kL b0 b1 0 z12k z10k) := by
           show _ = _
           unfold ofK
           rw [HE.out, HU.out, if_pos rfl]
           simp only
           rw [if_neg hup]
           rfl
         go_upto_region 11 with (first
           | ((with_reducible refine gate_ld 40 _ rfl ?_); refine wl_ldr rfl 40 _ rfl w.heap.size 15 (bC tg).toList _ Tryz.underlying40 rfl (by rw [siz10A]; simp [bC, HL10.out]) rfl HRt.out ?_)
           | (go_at_call 114; (refine (HTO.out _).mono ?_); rintro e W5 ⟨rfl, hb5⟩; have HSc := Lib.hid ((HSc.out.below hb5).below (below_alloc1 W5 (.cells (tC (oR tg)) 181))); have HGt : Hid ((W5.alloc (.cells (tC (oR tg)) 181)).heap[W5.heap.size]? = some (.cells (tC (oR tg)) 181 (0, 0))) := heap_alloc_new _ _; have hct : (W5.alloc (.cells (tC (oR tg)) 181)).cell? ⟨W5.heap.size, 0, none⟩ = some (.string ⟨(oR tg).lang.toArray⟩) := (by rw [cell_blk HGt.out]; rfl); (obtain ⟨hc0, hc1, hc2, hRn, hRt⟩ := rL_sub HL12.out HSc.out.a); have HRn := Lib.hid hRn; have HRt := Lib.hid hRt; clear hRn hRt; clear hb5)
           | ((with_reducible refine gate_st 181 _ _ rfl ?_); refine wl_strn rfl _ _ _ rfl (tC (oR tg)) #[Value.string ⟨#[]⟩, Value.string ⟨#[]⟩, Value.string ⟨#[]⟩] _ (by kernel_rfl) rfl (tC_one _) (by simp [Act.eval]) rfl ?_))
         clear hc0 hc1 hc2 HRn HRt
         go_wp2_with (first
           | ((with_reducible refine gate_st 3 _ _ rfl ?_); refine wl_st1G rfl 3 siz3n _ _ rfl w.heap.size 2 (.int .i64 0) rfl rfl rfl (rL b0 b1 b2 nm tg) (rL b0 b1 0 nm tg) 44 HSc.out.a (by rw [rL_len HL12.out HL10.out]; decide) rfl (fun W7 h1 h2 => ?_); have HSc : Hid (DkSt w W7 (rL b0 b1 0 nm tg)) := HSc.out.set (by exact h1) h2; clear h1 h2; try simp only [Act.put])
           | ((with_reducible refine gate_bd 23 _ rfl ?_); refine wl_bd rfl _ [] rfl [] rfl (bC z12k) bldN12 ?_)
           | ((with_reducible refine gate_st 23 _ _ rfl ?_); refine wl_stR rfl 23 _ _ rfl w.heap.size 3 (bC z12k).toList (by rw [siz12A]; rfl) rfl (by first | rfl | simp [Act.eval, Act.put]) (bC_oneL z12k) (rL b0 b1 0 nm tg) 44 HSc.out.a (by rw [rL_len HL12.out HL10.out]; decide) (fun W7 h1 h2 => ?_); have HSc : Hid (DkSt w W7 (rL b0 b1 0 z12k tg)) := HSc.out.set (by rw [rL_nm _ _ _ _ HL12.out rfl] at h1; exact h1) h2; clear h1 h2; try simp only [Act.put])
           | ((with_reducible refine gate_bd 40 _ rfl ?_); refine wl_bd rfl _ [] rfl [] rfl (bC z10k) bldT10 ?_)
           | ((with_reducible refine gate_st 40 _ _ rfl ?_); refine wl_stR rfl 40 _ _ rfl w.heap.size 15 (bC z10k).toList (by rw [siz10A]; rfl) rfl (by first | rfl | simp [Act.eval, Act.put]) (bC_oneL z10k) (rL b0 b1 0 z12k tg) 44 HSc.out.a (by rw [rL_len (rfl : z12k.length = 12) HL10.out]; decide) (fun W7 h1 h2 => ?_); have HSc : Hid (DkSt w W7 (rL b0 b1 0 z12k z10k)) := HSc.out.set (by rw [rL_tg _ _ _ (rfl : z12k.length = 12) HL10.out rfl] at h1; exact h1) h2; clear h1 h2; try simp only [Act.put])
           | ((with_reducible refine gate_ld 44 _ rfl ?_); refine wl_ldr rfl 44 _ rfl w.heap.size 0 (rL b0 b1 0 z12k z10k) _ Tryz.underlying44 rfl (by rw [sizR44, rL_len (rfl : z12k.length = 12) (rfl : z10k.length = 10)]) rfl (range_whole HSc.out.a) ?_)
           | ((with_reducible refine gate_st 44 _ _ rfl ?_); refine wl_strG rfl 44 _ _ rfl (w.heap.size + 1) (rL b0 b1 0 z12k z10k).toArray (rL 0 0 0 z12k z10k).toArray 44 (by rw [sizR44, List.size_toArray, rL_len (rfl : z12k.length = 12) (rfl : z10k.length = 10)]) (by rw [List.size_toArray, rL_len (rfl : z12k.length = 12) (rfl : z10k.length = 10)]; rfl) (by rw [← Array.all_toList]; exact rL_one _ _ _ _ _) rfl (by first | rfl | simp [Act.eval, Act.put]) HSc.out.r (fun W8 h1 h2 => ?_); have HGr := Lib.hid h1; have HBr := Lib.hid (HSc.out.bel.trans (h2.below (B := w.heap.size) (fun k hk => by simp at hk; omega) HSc.out.bel.size)); clear h1 h2; try simp only [Act.put]))
         refine bodyPost_ret (res_rowc_tmp (P := Tryz.prog) rfl _ _ (w.heap.size + 1) (rL b0 b1 0 z12k z10k).toArray (0, 0) rfl HGr.out Tryz.underlying44 rfl (by rw [sizR44, List.size_toArray, rL_len (rfl : z12k.length = 12) (rfl : z10k.length = 10)])) rfl ⟨?_, HBr.out⟩
         rw [HO.out, HE.out, rkR_kL]
         rfl
       | true =>
         cases hob : oB tg with
         | false =>
           rw [hob] at HTO
           have hrt : rightT tg = false := by rw [hrB, hob]
           have HE : Hid (errK b0 b1 b2 nm tg = 14) := by
             show _ = _
             unfold errK
             rw [HU.out]
             simp only
             rw [if_neg h1, if_neg (by rintro (h | ⟨h, _⟩) <;> omega), if_neg (by simp), if_pos (by simp [hrt])]
           clear hrB HLe hob
           go_wp2_with (first
             | ((with_reducible refine gate_ld 40 _ rfl ?_); refine wl_ldr rfl 40 _ rfl w.heap.size 15 (bC tg).toList _ Tryz.underlying40 rfl (by rw [siz10A]; simp [bC, HL10.out]) rfl HRt.out ?_)
             | (go_at_call 114; (refine (HTO.out _).mono ?_); rintro e W5 ⟨rfl, hb5⟩; have HSc := Lib.hid ((HSc.out.below hb5).below (below_alloc1 W5 (.cells (tC (oR tg)) 181))); have HGt : Hid ((W5.alloc (.cells (tC (oR tg)) 181)).heap[W5.heap.size]? = some (.cells (tC (oR tg)) 181 (0, 0))) := heap_alloc_new _ _; have hct : (W5.alloc (.cells (tC (oR tg)) 181)).cell? ⟨W5.heap.size, 0, none⟩ = some (.string ⟨(oR tg).lang.toArray⟩) := (by rw [cell_blk HGt.out]; rfl); (obtain ⟨hc0, hc1, hc2, hRn, hRt⟩ := rL_sub HL12.out HSc.out.a); have HRn := Lib.hid hRn; have HRt := Lib.hid hRt; clear hRn hRt; clear hb5)
             | ((with_reducible refine gate_st 181 _ _ rfl ?_); refine wl_strn rfl _ _ _ rfl (tC (oR tg)) #[Value.string ⟨#[]⟩, Value.string ⟨#[]⟩, Value.string ⟨#[]⟩] _ (by kernel_rfl) rfl (tC_one _) (by simp [Act.eval]) rfl ?_)
             | ((with_reducible refine gate_bd 44 _ rfl ?_); refine wl_bd rfl _ [] rfl [] rfl (rL 0 0 0 z12k z10k).toArray bldRK0 ?_)
             | ((with_reducible refine gate_st 44 _ _ rfl ?_); refine wl_strG rfl 44 _ _ rfl (w.heap.size + 1) (rL 0 0 0 z12k z10k).toArray (rL 0 0 0 z12k z10k).toArray 44 (by rw [sizR44]; rfl) rfl (by rw [← Array.all_toList]; exact rL_one _ _ _ _ _) rfl (by first | rfl | simp [Act.eval, Act.put]) HSc.out.r (fun W8 h1 h2 => ?_); have HGr := Lib.hid h1; have HBr := Lib.hid (HSc.out.bel.trans (h2.below (B := w.heap.size) (fun k hk => by simp at hk; omega) HSc.out.bel.size)); clear h1 h2; try simp only [Act.put]))
           refine bodyPost_ret (res_rowc_tmp (P := Tryz.prog) rfl _ _ (w.heap.size + 1) (rL 0 0 0 z12k z10k).toArray (0, 0) rfl HGr.out Tryz.underlying44 rfl (by rw [sizR44]; rfl)) rfl ⟨?_, HBr.out⟩
           unfold ofK
           rw [HE.out, if_neg (by decide), rkR_kL]
           rfl
         | true =>
           rw [hob] at HTO
           have hrt : rightT tg = true := by rw [hrB, hob]
           have hle := HLe.out hob
           by_cases htz : tg = z10k
           · rw [decide_eq_true htz] at hle
             have HE : Hid (errK b0 b1 b2 nm tg = 14) := by
               show _ = _
               unfold errK
               rw [HU.out]
               simp only
               rw [if_neg h1, if_neg (by rintro (h | ⟨h, _⟩) <;> omega), if_neg (by simp), if_pos (by simp [htz])]
             clear htz
             clear hrB HLe hob
             go_wp2_with (first
               | ((with_reducible refine gate_ld 40 _ rfl ?_); refine wl_ldr rfl 40 _ rfl w.heap.size 15 (bC tg).toList _ Tryz.underlying40 rfl (by rw [siz10A]; simp [bC, HL10.out]) rfl HRt.out ?_)
               | (go_at_call 114; (refine (HTO.out _).mono ?_); rintro e W5 ⟨rfl, hb5⟩; have HSc := Lib.hid ((HSc.out.below hb5).below (below_alloc1 W5 (.cells (tC (oR tg)) 181))); have HGt : Hid ((W5.alloc (.cells (tC (oR tg)) 181)).heap[W5.heap.size]? = some (.cells (tC (oR tg)) 181 (0, 0))) := heap_alloc_new _ _; have hct : (W5.alloc (.cells (tC (oR tg)) 181)).cell? ⟨W5.heap.size, 0, none⟩ = some (.string ⟨(oR tg).lang.toArray⟩) := (by rw [cell_blk HGt.out]; rfl); (obtain ⟨hc0, hc1, hc2, hRn, hRt⟩ := rL_sub HL12.out HSc.out.a); have HRn := Lib.hid hRn; have HRt := Lib.hid hRt; clear hRn hRt; clear hb5)
               | ((with_reducible refine gate_st 181 _ _ rfl ?_); refine wl_strn rfl _ _ _ rfl (tC (oR tg)) #[Value.string ⟨#[]⟩, Value.string ⟨#[]⟩, Value.string ⟨#[]⟩] _ (by kernel_rfl) rfl (tC_one _) (by simp [Act.eval]) rfl ?_)
               | ((with_reducible refine gate_bd 44 _ rfl ?_); refine wl_bd rfl _ [] rfl [] rfl (rL 0 0 0 z12k z10k).toArray bldRK0 ?_)
               | ((with_reducible refine gate_st 44 _ _ rfl ?_); refine wl_strG rfl 44 _ _ rfl (w.heap.size + 1) (rL 0 0 0 z12k z10k).toArray (rL 0 0 0 z12k z10k).toArray 44 (by rw [sizR44]; rfl) rfl (by rw [← Array.all_toList]; exact rL_one _ _ _ _ _) rfl (by first | rfl | simp [Act.eval, Act.put]) HSc.out.r (fun W8 h1 h2 => ?_); have HGr := Lib.hid h1; have HBr := Lib.hid (HSc.out.bel.trans (h2.below (B := w.heap.size) (fun k hk => by simp at hk; omega) HSc.out.bel.size)); clear h1 h2; try simp only [Act.put]))
             refine bodyPost_ret (res_rowc_tmp (P := Tryz.prog) rfl _ _ (w.heap.size + 1) (rL 0 0 0 z12k z10k).toArray (0, 0) rfl HGr.out Tryz.underlying44 rfl (by rw [sizR44]; rfl)) rfl ⟨?_, HBr.out⟩
             unfold ofK
             rw [HE.out, if_neg (by decide), rkR_kL]
             rfl
           · rw [decide_eq_false htz] at hle
             have HE : Hid (errK b0 b1 b2 nm tg = 0) := by
               show _ = _
               unfold errK
               rw [HU.out]
               simp only
               rw [if_neg h1, if_neg (by rintro (h | ⟨h, _⟩) <;> omega), if_neg (by simp), if_neg (by simp [hrt, htz])]
             clear htz
             have HO : Hid (ofK b0 b1 b2 nm tg = kL b0 b1 0 z12k tg) := by
               show _ = _
               unfold ofK
               rw [HE.out, HU.out, if_pos rfl]
               simp only
               rw [if_neg hup]
               rfl
             go_upto_region 11 with (first
               | ((with_reducible refine gate_ld 40 _ rfl ?_); refine wl_ldr rfl 40 _ rfl w.heap.size 15 (bC tg).toList _ Tryz.underlying40 rfl (by rw [siz10A]; simp [bC, HL10.out]) rfl HRt.out ?_)
               | (go_at_call 114; (refine (HTO.out _).mono ?_); rintro e W5 ⟨rfl, hb5⟩; have HSc := Lib.hid ((HSc.out.below hb5).below (below_alloc1 W5 (.cells (tC (oR tg)) 181))); have HGt : Hid ((W5.alloc (.cells (tC (oR tg)) 181)).heap[W5.heap.size]? = some (.cells (tC (oR tg)) 181 (0, 0))) := heap_alloc_new _ _; have hct : (W5.alloc (.cells (tC (oR tg)) 181)).cell? ⟨W5.heap.size, 0, none⟩ = some (.string ⟨(oR tg).lang.toArray⟩) := (by rw [cell_blk HGt.out]; rfl); (obtain ⟨hc0, hc1, hc2, hRn, hRt⟩ := rL_sub HL12.out HSc.out.a); have HRn := Lib.hid hRn; have HRt := Lib.hid hRt; clear hRn hRt; clear hb5)
               | ((with_reducible refine gate_st 181 _ _ rfl ?_); refine wl_strn rfl _ _ _ rfl (tC (oR tg)) #[Value.string ⟨#[]⟩, Value.string ⟨#[]⟩, Value.string ⟨#[]⟩] _ (by kernel_rfl) rfl (tC_one _) (by simp [Act.eval]) rfl ?_))
             clear hc0 hc1 hc2 HRn HRt
             go_wp2_with (first
               | ((with_reducible refine gate_st 3 _ _ rfl ?_); refine wl_st1G rfl 3 siz3n _ _ rfl w.heap.size 2 (.int .i64 0) rfl rfl rfl (rL b0 b1 b2 nm tg) (rL b0 b1 0 nm tg) 44 HSc.out.a (by rw [rL_len HL12.out HL10.out]; decide) rfl (fun W7 h1 h2 => ?_); have HSc : Hid (DkSt w W7 (rL b0 b1 0 nm tg)) := HSc.out.set (by exact h1) h2; clear h1 h2; try simp only [Act.put])
               | ((with_reducible refine gate_bd 23 _ rfl ?_); refine wl_bd rfl _ [] rfl [] rfl (bC z12k) bldN12 ?_)
               | ((with_reducible refine gate_st 23 _ _ rfl ?_); refine wl_stR rfl 23 _ _ rfl w.heap.size 3 (bC z12k).toList (by rw [siz12A]; rfl) rfl (by first | rfl | simp [Act.eval, Act.put]) (bC_oneL z12k) (rL b0 b1 0 nm tg) 44 HSc.out.a (by rw [rL_len HL12.out HL10.out]; decide) (fun W7 h1 h2 => ?_); have HSc : Hid (DkSt w W7 (rL b0 b1 0 z12k tg)) := HSc.out.set (by rw [rL_nm _ _ _ _ HL12.out rfl] at h1; exact h1) h2; clear h1 h2; try simp only [Act.put])
               | ((with_reducible refine gate_ld 44 _ rfl ?_); refine wl_ldr rfl 44 _ rfl w.heap.size 0 (rL b0 b1 0 z12k tg) _ Tryz.underlying44 rfl (by rw [sizR44, rL_len (rfl : z12k.length = 12) HL10.out]) rfl (range_whole HSc.out.a) ?_)
               | ((with_reducible refine gate_st 44 _ _ rfl ?_); refine wl_strG rfl 44 _ _ rfl (w.heap.size + 1) (rL b0 b1 0 z12k tg).toArray (rL 0 0 0 z12k z10k).toArray 44 (by rw [sizR44, List.size_toArray, rL_len (rfl : z12k.length = 12) HL10.out]) (by rw [List.size_toArray, rL_len (rfl : z12k.length = 12) HL10.out]; rfl) (by rw [← Array.all_toList]; exact rL_one _ _ _ _ _) rfl (by first | rfl | simp [Act.eval, Act.put]) HSc.out.r (fun W8 h1 h2 => ?_); have HGr := Lib.hid h1; have HBr := Lib.hid (HSc.out.bel.trans (h2.below (B := w.heap.size) (fun k hk => by simp at hk; omega) HSc.out.bel.size)); clear h1 h2; try simp only [Act.put]))
             refine bodyPost_ret (res_rowc_tmp (P := Tryz.prog) rfl _ _ (w.heap.size + 1) (rL b0 b1 0 z12k tg).toArray (0, 0) rfl HGr.out Tryz.underlying44 rfl (by rw [sizR44, List.size_toArray, rL_len (rfl : z12k.length = 12) HL10.out])) rfl ⟨?_, HBr.out⟩
             rw [HO.out, HE.out, rkR_kL]
             rfl
end Go.Proofs.YtbfefdedjcppaaaGreatDoor
