/- vulgateref26.Print. -/
import Derived.Test.YtbfefdedjcppaaaGreatDoorQA7
namespace Go.Proofs.YtbfefdedjcppaaaGreatDoor
set_option maxRecDepth 100000
set_option maxHeartbeats 16000000
open Go.RowKit Go.Deep
theorem rpF_ok {x : RpD} {es : List Ev} (he : 0 ≤ x.err ∧ x.err ≤ 255) (ht : x.text.size ≤ 1200) (hs : 0 ≤ x.st ∧ x.st ≤ 255) (hn : 0 ≤ x.n ∧ x.n ≤ 4294967295) (hm : es.length ≤ 16) (hok : ∀ v ∈ es, OkEv v) : (∀ f ∈ rpF x es, OkF f) ∧ (fdsB (rpF x es)).length ≤ 4096 ∧ (rpF x es).length ≤ 100000 := by
 have htg : (tgT x.tag).length ≤ 32 := textB_le x.tag x.lt
 refine ⟨fun f hf => ?_, ?_, ?_⟩
 · unfold rpF hdF at hf
   rw [List.mem_append] at hf
   rcases hf with hf | hf
   · simp only [List.mem_cons, List.not_mem_nil, or_false] at hf
     rcases hf with rfl | rfl | rfl | rfl | rfl | rfl
     · exact okB (by omega)
     · exact okT (by omega)
     · exact okT (by show (tgT x.tag).toArray.size ≤ _; rw [List.size_toArray]; omega)
     · exact okB (by omega)
     · exact okN (by omega)
     · exact okB (by omega)
   · obtain ⟨v, hv, hf⟩ := List.mem_flatMap.1 hf
     exact (evF_ok (hok v hv) f hf).1
 · unfold rpF
   rw [fdsB_app, fdsB_hd, List.length_append]
   have h1 := evsB_len hok
   have h2 := small_le2 (n := x.text.size) (by omega)
   have h3 := small_le2 (n := (tgT x.tag).length) (by omega)
   have h4 := small_len64 (n := x.n.toNat) (by omega)
   unfold hdB
   simp only [List.length_append, List.length_cons, List.length_nil, Array.length_toList]
   have h5 : x.text.data.size = x.text.size := rfl
   omega
 · unfold rpF
   rw [List.length_append]
   have := evsF_len es
   show 6 + _ ≤ _
   omega
structure QpA (w W : World) (x : RpD) (u : Value) : Prop where
 bel : Below w.heap.size w W
 a : W.heap[w.heap.size]? = some (.cells (ryC x u).toArray 72 (0, 0))
 b : W.heap[w.heap.size + 1]? = some (.cells (rpC x).toArray 69 (0, 0))
theorem QpA.below {w W W' : World} {x : RpD} {u : Value} (h : QpA w W x u) (hb : Below W.heap.size W W') : QpA w W' x u :=
 ⟨h.bel.trans (hb.mono h.bel.size), (hb.block _ (lt_heap h.a)).trans h.a, (hb.block _ (lt_heap h.b)).trans h.b⟩
structure QpL (w W : World) (x : RpD) (u : Value) (v : Value) (fs : List Fd) : Prop where
 A : QpA w W x u
 O : OwnE fdC 134 3 W (w.heap.size + 2) v fs
theorem QpL.below {w W W' : World} {x : RpD} {u v : Value} {fs : List Fd} (h : QpL w W x u v fs) (hb : Below W.heap.size W W') : QpL w W' x u v fs := ⟨h.A.below hb, h.O.below hb⟩
theorem QpL.grown {w W W' : World} {x : RpD} {u v v' : Value} {fs fs' : List Fd} (h : QpL w W x u v fs) (hg : W.grownBy W' v.ownBlock) (ho : OwnE fdC 134 3 W' (w.heap.size + 2) v' fs') : QpL w W' x u v' fs' := by
 have hne : ∀ k, k < w.heap.size + 2 → some k ≠ v.ownBlock := fun k hk e => by have := (h.O.lt k e.symm).1; omega
 refine ⟨⟨h.A.bel.trans (grown_below hg (fun g hg => by have := (h.O.lt g hg).1; omega) h.A.bel.size), (hg.block _ (lt_heap h.A.a) (hne _ (by omega))).trans h.A.a, (hg.block _ (lt_heap h.A.b) (hne _ (by omega))).trans h.A.b⟩, ho⟩
structure QpK (W : World) (v : Value) (g : Nat) (o : List Value) (T : TypeId) : Prop where
 at_ : W.heap[g]? = some (.cells o.toArray T (0, 0))
 ne : v.ownBlock ≠ some g
theorem QpK.below {W W' : World} {v : Value} {g : Nat} {o : List Value} {T : TypeId} (h : QpK W v g o T) (hb : Below W.heap.size W W') : QpK W' v g o T := ⟨(hb.block _ (lt_heap h.at_)).trans h.at_, h.ne⟩
theorem QpK.grown {W W' : World} {v v' : Value} {g : Nat} {o : List Value} {T : TypeId} (h : QpK W v g o T) (hg : W.grownBy W' v.ownBlock) (h3 : v'.ownBlock = v.ownBlock ∨ v'.ownBlock = some W.heap.size) : QpK W' v' g o T := by
 have hl := lt_heap h.at_
 refine ⟨(hg.block _ hl (fun e => h.ne e.symm)).trans h.at_, fun e => ?_⟩
 rcases h3 with e2 | e2
 · exact h.ne (e2 ▸ e)
 · rw [e2] at e; cases e; omega
theorem QpK.new {w W : World} {x : RpD} {u v : Value} {fs : List Fd} (h : QpL w W x u v fs) (o : List Value) (T : TypeId) : QpK (W.alloc (.cells o.toArray T)) v W.heap.size o T :=
 ⟨heap_alloc_new _ _, fun e => by have := (h.O.lt _ e).2; omega⟩
theorem evD_cells {W : World} {g : Nat} {v : Ev} {T : TypeId} (h : W.heap[g]? = some (.cells (evD v).toArray T (0, 0))) : W.cell? ⟨g, 0, none⟩ = some (.int .u64 v.at_) ∧ W.cell? ⟨g, 26, none⟩ = some (.bool v.dead) ∧ W.cell? ⟨g, 27, none⟩ = some (.bool v.mark) := by
 have h2 := rkR_len _ v.lkey
 have e : evD v = (.int .u64 v.at_ :: rkR v.key) ++ [.bool v.dead, .bool v.mark] := rfl
 have hl : (Value.int .u64 v.at_ :: rkR v.key).length = 26 := by rw [List.length_cons, h2]
 refine ⟨by rw [cell_blk h]; rfl, ?_, ?_⟩
 · rw [cell_blk h, List.getElem?_toArray, e, List.getElem?_append_right (by omega), hl]; rfl
 · rw [cell_blk h, List.getElem?_toArray, e, List.getElem?_append_right (by omega), hl]; rfl
theorem neqSK (w : World) (xs ys : List UInt8) (hx : xs.length = 25) (hy : ys.length = 25) : (binOp .neq 44 (.agg (rkR xs).toArray) (.agg (rkR ys).toArray)).run Tryz.prog w = .ok (.bool (!(xs == ys))) w := by
 rw [run_neq_struct, show (10000 : Nat) = 9996 + 4 from rfl, eqInDX w 9996 xs ys hx hy]; rfl
theorem bldKZ : Tryz.prog.built 44 [] = some (rkR z25).toArray := by kernel_rfl
theorem wl_bsL {P : Program} {ops : Array Oper} {rest : List Oper} {Q : Exit → Act → World → Prop} {o : Oper} {a : Act} {w : World} {α : Type} {enc : α → List Value} {k : Nat} (T E : TypeId) (bytes : Nat) (z : Value) (hT : P.underlying T = some (.slice E)) (hinf : (P.info? E).map (fun i => (i.zero, i.size, i.bytes)) = some (some z, k, bytes)) (hk0 : 0 < k) (hk : ∀ x, (enc x).length = k)
   (hw : Region.wanted o (yielded ops a.tmps) = true) (ps : List Operand) (ys : List α) (n : Nat) (hn : ys.length = n) (hn0 : 0 < n) (hs : n * k ≤ 1000000) (ho : o.op = .buildSlice T n ((ps.zipIdx 0).map fun x => (x.2, x.1)).toArray) (hx : ps.map a.eval = ys.map fun y => .agg (enc y).toArray)
   (h : wpList P ops Q rest (a.put o.dst (.slice (some ⟨w.heap.size, 0, none⟩) n n)) (w.alloc (.cells (ys.flatMap enc).toArray E))) : wpList P ops Q (o :: rest) a w :=
 wpList_step fun _ hK => by
   rw [if_pos hw]
   unfold Oper.wp
   rw [exec_bsL T E bytes z hT hinf hk0 hk ps ys n hn hn0 hs ho hx]
   exact hK _ _ h
theorem refPrint_any (x : RpD) (q : Option Addr) (n c : Nat) (es : List Ev) (w : World) (hn : es.length = n) (hq : SlAt evD 28 w q es) (hok : ∀ v ∈ es, OkEv v) :
   Calls Tryz.prog 21 #[.agg (ryC x (.slice q n c)).toArray] w fun e w' => ∃ v, e = .returned (.tuple #[v, .int .i64 (dprE x es : Nat)]) ∧ OwnE byteC 5 1 w' w.heap.size v (dprB x es) ∧ Below w.heap.size w w' := by
 have HA0 : Hid (QpA w ((w.alloc (.cells (ryC x (.slice q n c)).toArray 72)).alloc (.cells (rpC x).toArray 69)) x (.slice q n c)) := ⟨below_alloc2 _ _ _, heap_alloc2_old _ _ _, heap_alloc2_new _ _ _⟩
 have HR0 := Lib.hid (range_app_left (xs := rpC x) (range_whole (heap_alloc_new w (.cells (ryC x (.slice q n c)).toArray 72))))
 have HPE : Hid (dprE x es = if x.err < 0 ∨ 255 < x.err then 5 else if 1200 < x.text.size then 2 else if rightT x.tag = false then 14 else if x.st < 0 ∨ 255 < x.st ∨ x.n < 0 ∨ 4294967295 < x.n then 5 else if 16 < es.length then 2 else if es.all evOk = false then 3 else 0) := rfl
 have HQ := Lib.hid hq
 have HN := Lib.hid hn
 have HOK := Lib.hid hok
 have HTR : Hid (∀ W, Calls Tryz.prog 64 #[.agg (bC x.tag)] W fun e w' => e = .returned (.string ⟨(tgT x.tag).toArray⟩) ∧ Below W.heap.size W w') := fun W => tagged_any x.tag W x.lt
 have HLT := Lib.hid x.lt
 have HTP : Hid (rightT x.tag = true → tgT x.tag ≠ []) := fun h => tgT_pos x.lt h
 have HTN : Hid (rightT x.tag = false → tgT x.tag = []) := fun h => by unfold tgT; rw [if_neg (by rw [h]; decide)]
 have e1 := fun W => eqE5 (tgT x.tag) W
 have m1 := emp5 (tgT x.tag)
 clear hq hn hok
 go_enter Tryz.func21, Tryz.ntmps21
 go_upto_region 2 with (first
   | ((with_reducible refine gate_ld 69 _ rfl ?_); refine wl_ldr rfl 69 _ rfl w.heap.size 0 (rpC x) _ Tryz.underlying69 rfl (by rw [sizRRp, rpC_len]) rfl HR0.out ?_)
   | ((with_reducible refine gate_st 69 _ _ rfl ?_); refine wl_strn rfl _ _ _ rfl (rpC x).toArray #[Value.int IntKind.i64 0, Value.string ⟨#[]⟩, Value.int IntKind.u8 0, Value.int IntKind.u8 0, Value.int IntKind.u8 0, Value.int IntKind.u8 0, Value.int IntKind.u8 0, Value.int IntKind.u8 0, Value.int IntKind.u8 0, Value.int IntKind.u8 0, Value.int IntKind.u8 0, Value.int IntKind.u8 0, Value.int IntKind.i64 0, Value.int IntKind.i64 0] _ (by rw [sizRRp, List.size_toArray, rpC_len]) (by rw [List.size_toArray, rpC_len]; rfl) (by rw [← Array.all_toList]; exact rpC_one x) (by simp [Act.eval]) rfl ?_))
 generalize (w.alloc (.cells (ryC x (.slice q n c)).toArray 72)).alloc (.cells (rpC x).toArray 69) = W1 at *
 clear HR0
 obtain ⟨c0, c1, c12, c13⟩ := rp_cell HA0.out.b
 have cS : W1.cell? ⟨w.heap.size, 14, none⟩ = some (.slice q n c) := by rw [cell_blk HA0.out.a, List.getElem?_toArray]; exact ryC_sl _ _
 by_cases he0 : x.err < 0
 · skip
   have HE : Hid (dprE x es = 5) := by show _ = _; rw [HPE.out, if_pos (.inl he0)]
   have HB : Hid (dprB x es = []) := by show _ = _; unfold dprB; rw [HE.out, if_neg (by decide)]
   clear HPE 
   go_wp2_with fail
   refine bodyPost_ret (results_tmp2 rfl _ _ _) rfl ?_
   exact ⟨.slice none 0 0, by rw [HE.out]; rfl, by rw [HB.out]; exact OwnE.nil _ _, HA0.out.bel⟩
 by_cases he1 : 255 < x.err
 · skip
   have HE : Hid (dprE x es = 5) := by show _ = _; rw [HPE.out, if_pos (.inr he1)]
   have HB : Hid (dprB x es = []) := by show _ = _; unfold dprB; rw [HE.out, if_neg (by decide)]
   clear HPE 
   go_wp2_with fail
   refine bodyPost_ret (results_tmp2 rfl _ _ _) rfl ?_
   exact ⟨.slice none 0 0, by rw [HE.out]; rfl, by rw [HB.out]; exact OwnE.nil _ _, HA0.out.bel⟩
 have hE1 : ¬ (x.err < 0 ∨ 255 < x.err) := by omega
 go_upto_region 4 with fail
 by_cases hT : 1200 < x.text.size
 · have hTI : (1200 : Int) < (x.text.size : Int) := by omega
   have HE : Hid (dprE x es = 2) := by show _ = _; rw [HPE.out, if_neg hE1, if_pos hT]
   have HB : Hid (dprB x es = []) := by show _ = _; unfold dprB; rw [HE.out, if_neg (by decide)]
   clear HPE 
   go_wp2_with fail
   refine bodyPost_ret (results_tmp2 rfl _ _ _) rfl ?_
   exact ⟨.slice none 0 0, by rw [HE.out]; rfl, by rw [HB.out]; exact OwnE.nil _ _, HA0.out.bel⟩
 have hTI : ¬ (1200 : Int) < (x.text.size : Int) := by omega
 go_upto_region 6 with fail
 have HRt := Lib.hid (rp_tag' HA0.out.b)
 cases hrt : rightT x.tag with
 | false =>
   have HT0 : Hid (tgT x.tag = []) := HTN.out hrt
   rw [HT0.out] at HTR e1 m1
   have HE : Hid (dprE x es = 14) := by show _ = _; rw [HPE.out, if_neg hE1, if_neg hT, if_pos hrt]
   have HB : Hid (dprB x es = []) := by show _ = _; unfold dprB; rw [HE.out, if_neg (by decide)]
   clear HPE 
   go_wp2_with (first
     | ((with_reducible refine gate_ld 40 _ rfl ?_); refine wl_ldr rfl 40 _ rfl (w.heap.size + 1) 2 (bC x.tag).toList _ Tryz.underlying40 rfl (by rw [siz10A]; simp [bC, HLT.out]) rfl HRt.out ?_)
     | (go_at_call 64; (refine (HTR.out _).mono ?_); rintro e W2 ⟨rfl, hb2⟩; have HB2 := Lib.hid (HA0.out.bel.trans (hb2.mono HA0.out.bel.size)); clear hb2))
   refine bodyPost_ret (results_tmp2 rfl _ _ _) rfl ?_
   exact ⟨.slice none 0 0, by rw [HE.out]; rfl, by rw [HB.out]; exact OwnE.nil _ _, HB2.out⟩
 | true =>
 have hTe : (tgT x.tag).isEmpty = false := by
   cases h : tgT x.tag with
   | nil => exact absurd h (HTP.out hrt)
   | cons a b => rfl
 rw [hTe] at m1
 go_upto_region 8 with (first
   | ((with_reducible refine gate_ld 40 _ rfl ?_); refine wl_ldr rfl 40 _ rfl (w.heap.size + 1) 2 (bC x.tag).toList _ Tryz.underlying40 rfl (by rw [siz10A]; simp [bC, HLT.out]) rfl HRt.out ?_)
   | (go_at_call 64; (refine (HTR.out _).mono ?_); rintro e W2 ⟨rfl, hb2⟩; have HA2 := Lib.hid (HA0.out.below hb2); clear hb2))
 have hrt' : ¬ rightT x.tag = false := by rw [hrt]; decide
 clear c0 c1 c12 c13 cS HRt HA0
 obtain ⟨c0, c1, c12, c13⟩ := rp_cell HA2.out.b
 have cS : W2.cell? ⟨w.heap.size, 14, none⟩ = some (.slice q n c) := by rw [cell_blk HA2.out.a, List.getElem?_toArray]; exact ryC_sl _ _
 by_cases hs0 : x.st < 0
 · skip
   have HE : Hid (dprE x es = 5) := by show _ = _; rw [HPE.out, if_neg hE1, if_neg hT, if_neg hrt', if_pos (.inl hs0)]
   have HB : Hid (dprB x es = []) := by show _ = _; unfold dprB; rw [HE.out, if_neg (by decide)]
   clear HPE hrt hrt'
   go_wp2_with fail
   refine bodyPost_ret (results_tmp2 rfl _ _ _) rfl ?_
   exact ⟨.slice none 0 0, by rw [HE.out]; rfl, by rw [HB.out]; exact OwnE.nil _ _, HA2.out.bel⟩
 by_cases hs1 : 255 < x.st
 · skip
   have HE : Hid (dprE x es = 5) := by show _ = _; rw [HPE.out, if_neg hE1, if_neg hT, if_neg hrt', if_pos (.inr (.inl hs1))]
   have HB : Hid (dprB x es = []) := by show _ = _; unfold dprB; rw [HE.out, if_neg (by decide)]
   clear HPE hrt hrt'
   go_wp2_with fail
   refine bodyPost_ret (results_tmp2 rfl _ _ _) rfl ?_
   exact ⟨.slice none 0 0, by rw [HE.out]; rfl, by rw [HB.out]; exact OwnE.nil _ _, HA2.out.bel⟩
 by_cases hn0 : x.n < 0
 · skip
   have HE : Hid (dprE x es = 5) := by show _ = _; rw [HPE.out, if_neg hE1, if_neg hT, if_neg hrt', if_pos (.inr (.inr (.inl hn0)))]
   have HB : Hid (dprB x es = []) := by show _ = _; unfold dprB; rw [HE.out, if_neg (by decide)]
   clear HPE hrt hrt'
   go_wp2_with fail
   refine bodyPost_ret (results_tmp2 rfl _ _ _) rfl ?_
   exact ⟨.slice none 0 0, by rw [HE.out]; rfl, by rw [HB.out]; exact OwnE.nil _ _, HA2.out.bel⟩
 by_cases hn1 : 4294967295 < x.n
 · skip
   have HE : Hid (dprE x es = 5) := by show _ = _; rw [HPE.out, if_neg hE1, if_neg hT, if_neg hrt', if_pos (.inr (.inr (.inr hn1)))]
   have HB : Hid (dprB x es = []) := by show _ = _; unfold dprB; rw [HE.out, if_neg (by decide)]
   clear HPE hrt hrt'
   go_wp2_with fail
   refine bodyPost_ret (results_tmp2 rfl _ _ _) rfl ?_
   exact ⟨.slice none 0 0, by rw [HE.out]; rfl, by rw [HB.out]; exact OwnE.nil _ _, HA2.out.bel⟩
 have hE4 : ¬ (x.st < 0 ∨ 255 < x.st ∨ x.n < 0 ∨ 4294967295 < x.n) := by omega
 go_upto_region 10 with fail
 by_cases hm : 16 < n
 · have hmI : (16 : Int) < (n : Int) := by omega
   have hm' : 16 < es.length := by rw [HN.out]; exact hm
   have HE : Hid (dprE x es = 2) := by show _ = _; rw [HPE.out, if_neg hE1, if_neg hT, if_neg hrt', if_neg hE4, if_pos hm']
   have HB : Hid (dprB x es = []) := by show _ = _; unfold dprB; rw [HE.out, if_neg (by decide)]
   clear HPE hrt hrt'
   go_wp2_with fail
   refine bodyPost_ret (results_tmp2 rfl _ _ _) rfl ?_
   exact ⟨.slice none 0 0, by rw [HE.out]; rfl, by rw [HB.out]; exact OwnE.nil _ _, HA2.out.bel⟩
 have hmI : ¬ (16 : Int) < (n : Int) := by omega
 have hm' : ¬ 16 < es.length := by rw [HN.out]; exact hm
 have HPE2 : Hid (dprE x es = if es.all evOk = false then 3 else 0) := by show _ = _; rw [HPE.out, if_neg hE1, if_neg hT, if_neg hrt', if_neg hE4, if_neg hm']
 go_upto_region 12 with fail
 have HOF := Lib.hid (rpF_ok (x := x) (es := es) (by omega) (by omega) (by omega) (by omega) (by omega) HOK.out)
 clear HPE hE1 hE4 hT hrt hrt' hm' HTP HTN e1 m1 hTe
 have HNx : Hid (x.err = ((x.err.toNat : Nat) : Int) ∧ x.st = ((x.st.toNat : Nat) : Int) ∧ x.n = ((x.n.toNat : Nat) : Int) ∧ x.err.toNat < 2 ^ 63 ∧ x.st.toNat < 2 ^ 63 ∧ x.n.toNat < 2 ^ 63) := by show _ ∧ _; omega
 have HM16 : Hid (n ≤ 16) := by show _ ≤ _; omega
 clear hTI hmI hm he0 he1 hs0 hs1 hn0 hn1
 have KO1 : Hid (∀ W, Calls Tryz.prog 65 #[.int .i64 x.err] W fun e w' => e = .returned (.agg (fdC (fB x.err.toNat)).toArray) ∧ Below W.heap.size W w') := fun W => by have := one_any x.err.toNat W HNx.out.2.2.2.1; rwa [← HNx.out.1] at this
 have KO2 : Hid (∀ W, Calls Tryz.prog 65 #[.int .i64 x.st] W fun e w' => e = .returned (.agg (fdC (fB x.st.toNat)).toArray) ∧ Below W.heap.size W w') := fun W => by have := one_any x.st.toNat W HNx.out.2.2.2.2.1; rwa [← HNx.out.2.1] at this
 have KO3 : Hid (∀ W, Calls Tryz.prog 65 #[.int .i64 (n : Int)] W fun e w' => e = .returned (.agg (fdC (fB n)).toArray) ∧ Below W.heap.size W w') := fun W => one_any n W (by have := HM16.out; omega)
 have KT1 : Hid (∀ W, Calls Tryz.prog 66 #[.string x.text] W fun e w' => e = .returned (.agg (fdC (fX x.text)).toArray) ∧ Below W.heap.size W w') := fun W => text26_any x.text W
 have KT2 : Hid (∀ W, Calls Tryz.prog 66 #[.string ⟨(tgT x.tag).toArray⟩] W fun e w' => e = .returned (.agg (fdC (fX ⟨(tgT x.tag).toArray⟩)).toArray) ∧ Below W.heap.size W w') := fun W => text26_any _ W
 have HRt := Lib.hid (rp_tag' HA2.out.b)
 have hlt0 := lt_heap HA2.out.a
 have hlt1 := lt_heap HA2.out.b
 refine wp_region_below_tail 21 (by kernel_rfl) (by kernel_rfl) ?_
 simp only [List.take_succ_cons, List.take_zero, List.drop_succ_cons, List.drop_zero]
 repeat (first
   | (refine wq_one rfl 3 (.tmp 52) rfl (w.heap.size + 1) 0 (.int .i64 x.err) ag3 rfl c0 hlt1 ?_; simp only [Act.put, wrT])
   | (refine wq_one rfl 9 (.tmp 55) rfl (w.heap.size + 1) 1 (.string x.text) ag9 rfl c1 hlt1 ?_; simp only [Act.put, wrT])
   | (refine wq_ldr rfl 40 (.tmp 58) rfl (w.heap.size + 1) 2 (bC x.tag).toList _ Tryz.underlying40 rfl (by rw [siz10A]; simp [bC, HLT.out]) rfl HRt.out hlt1 ?_; simp only [Act.put, wrT])
   | (refine wq_one rfl 3 (.tmp 62) rfl (w.heap.size + 1) 12 (.int .i64 x.st) ag3 rfl c12 hlt1 ?_; simp only [Act.put, wrT])
   | (refine wq_one rfl 3 (.tmp 65) rfl (w.heap.size + 1) 13 (.int .i64 x.n) ag3 rfl c13 hlt1 ?_; simp only [Act.put, wrT])
   | (refine wq_val (.int .u64 (x.n.toNat : Int)) rfl (fun w' => exec_cvIU (.tmp 66) rfl x.n.toNat HNx.out.2.2.2.2.2 (by rw [← HNx.out.2.2.1]; rfl)) ?_; simp only [Act.put, wrT])
   | (refine wq_bd _ rfl 134 [(0, .const (.int .i64 3)), (1, .tmp 67)] rfl [(0, .int .i64 3), (1, .int .u64 (x.n.toNat : Int))] rfl (fdC (fN x.n.toNat)).toArray (bldF3 _) ?_; simp only [Act.put, wrT])
   | (refine wq_one rfl 70 (.tmp 69) rfl w.heap.size 14 (.slice q n c) agEvsS rfl cS hlt0 ?_; simp only [Act.put, wrT])
   | go_big_quiet_step (first | (with_reducible exact rg_call KO1.out _ _) | (with_reducible exact rg_call KO2.out _ _) | (with_reducible exact rg_call KO3.out _ _) | (with_reducible exact rg_call KT1.out _ _) | (with_reducible exact rg_call KT2.out _ _) | (with_reducible exact rg_call HTR.out _ _)))
 refine wpQuiet_nil ?_
 rintro _ ⟨⟨dq, osq⟩, rfl⟩
 have hbr := below_regrown W2 dq osq
 have HA3 := Lib.hid (HA2.out.below hbr)
 clear hbr c0 c1 c12 c13 cS hlt0 hlt1 HRt HA2 KO1 KO2 KO3 KT1 KT2 HTR
 generalize Sort.grow (redrawn W2 dq) osq = W3 at *
 go_upto_region 13 with (refine wl_bsL 146 134 32 (.agg (fdC fdZ).toArray) Tryz.underlying146 infoFd (by omega) fdC_len rfl [.tmp 54, .tmp 57, .tmp 61, .tmp 64, .tmp 68, .tmp 72] (hdF x n) 6 rfl (by omega) (by omega) rfl rfl ?_)
 have HL0 : Hid (QpL w (W3.alloc (.cells ((hdF x n).flatMap fdC).toArray 134)) x (.slice q n c) (.slice (some ⟨W3.heap.size, 0, none⟩) 6 6) (hdF x n)) := by
   have hb := below_alloc1 W3 (.cells ((hdF x n).flatMap fdC).toArray 134)
   refine ⟨HA3.out.below hb, own_newE fdC_len rfl ?_ (by omega) (heap_alloc_new _ _)⟩
   have := lt_heap HA3.out.b
   omega
 generalize W3.alloc (.cells ((hdF x n).flatMap fdC).toArray 134) = W4 at *
 generalize W3.heap.size = g4 at *
 clear HA3
 go_wp2_with fail
 go_loopw [6, 5, 7, 8, 9, 10, 11] (fun i s5 s7 s8 s9 s10 s11 wr => ∃ (k : Nat), k ≤ n ∧ i = .int .i64 (k : Int) ∧ Hid (∀ e ∈ es.take k, evOk e = true) ∧ Hid (QpL w wr x (.slice q n c) s5 (hdF x n ++ (es.take k).flatMap evF))) (fun i _ _ _ _ _ _ _ => n - (intOf i).toNat)
 case atStart => exact ⟨0, Nat.zero_le _, rfl, (fun e he => by simp at he), (by show QpL _ _ _ _ _ _; rw [List.take_zero, List.flatMap_nil, List.append_nil]; exact HL0.out)⟩
 case round =>
   obtain ⟨k, hk, rfl, HAl, HL⟩ := hrel
   clear HL0
   have cS : wr.cell? ⟨w.heap.size, 14, none⟩ = some (.slice q n c) := by rw [cell_blk HL.out.A.a, List.getElem?_toArray]; exact ryC_sl _ _
   by_cases hlt : k < n
   · have hlt' : (k : Int) < (n : Int) := by omega
     have hk16 : k < 16 := by have := HM16.out; omega
     have hke : k < es.length := by rw [HN.out]; exact hlt
     obtain ⟨b, o, hqe, hb, hr⟩ := (HQ.out.below HL.out.A.bel) k hke
     have HF := Lib.hid (evF_take (fs := hdF x n) hke)
     have HMem := Lib.hid (List.getElem_mem hke)
     have HTk := Lib.hid (List.take_succ_eq_append_getElem hke)
     have HOKe := Lib.hid (HOK.out _ (List.getElem_mem hke))
     have HLf : Hid ((hdF x n ++ (es.take k).flatMap evF).length ≤ 1000) := by
       show _ ≤ _
       have h1 := evsF_len (es.take k)
       have h2 : (es.take k).length ≤ 16 := by rw [List.length_take]; have := HM16.out; have := HN.out; omega
       rw [List.length_append]
       show 6 + _ ≤ _
       omega
     generalize hev : es[k] = ev at *
     have HRr := Lib.hid hr
     clear hev hr
     subst hqe
     generalize hdF x n ++ (es.take k).flatMap evF = fs at *
     go_upto_region 17 with (first
       | ((with_reducible refine gate_op (.indexAddr 70 (.tmp 82) (.tmp 83)) rfl ?_); refine wl_val rfl (.pointer (some ⟨b, o + k * 28, none⟩)) (exec_ixS (.tmp 82) (.tmp 83) rfl b o n c k rfl rfl hlt) ?_)
       | ((with_reducible refine gate_ld 79 (.tmp 84) rfl ?_); refine wl_ldr rfl 79 _ rfl b (o + k * 28) (evD ev) _ Tryz.underlying79 rfl (by rw [sizEvD, evD_len]) rfl HRr.out ?_)
       | ((with_reducible refine gate_st 79 _ _ rfl ?_); refine wl_strn rfl _ _ _ rfl (evD ev).toArray #[Value.int IntKind.u64 0, Value.int IntKind.i64 0, Value.int IntKind.i64 0, Value.int IntKind.i64 0, Value.int IntKind.u8 0, Value.int IntKind.u8 0, Value.int IntKind.u8 0, Value.int IntKind.u8 0, Value.int IntKind.u8 0, Value.int IntKind.u8 0, Value.int IntKind.u8 0, Value.int IntKind.u8 0, Value.int IntKind.u8 0, Value.int IntKind.u8 0, Value.int IntKind.u8 0, Value.int IntKind.u8 0, Value.int IntKind.u8 0, Value.int IntKind.u8 0, Value.int IntKind.u8 0, Value.int IntKind.u8 0, Value.int IntKind.u8 0, Value.int IntKind.u8 0, Value.int IntKind.u8 0, Value.int IntKind.u8 0, Value.int IntKind.u8 0, Value.int IntKind.u8 0, Value.bool false, Value.bool false] _ (by rw [sizEvD, List.size_toArray, evD_len]) (by rw [List.size_toArray, evD_len]; rfl) (by rw [← Array.all_toList, List.all_eq_true]; exact evD_one ev) (by simp [Act.eval]) rfl ?_))
     have HL1 := Lib.hid (HL.out.below (below_alloc1 wr (.cells (evD ev).toArray 79)))
     have HK1 := Lib.hid (QpK.new HL.out (evD ev) 79)
     generalize wr.alloc (.cells (evD ev).toArray 79) = W5 at *
     generalize wr.heap.size = g at *
     clear HL HRr hb cS
     obtain ⟨ce0, ce26, ce27⟩ := evD_cells HK1.out.at_
     obtain ⟨at_, hat⟩ : ∃ a : Nat, ev.at_ = (a : Int) ∧ a < 2 ^ 64 ∧ ev.at_.toNat = a := ⟨ev.at_.toNat, by have := HOKe.out; unfold OkEv at this; omega⟩
     have HAT := Lib.hid hat
     rw [hat.1] at ce0
     clear hat
     go_upto_region 18 with (first
       | ((with_reducible refine gate_bd 134 _ rfl ?_); refine wl_bd rfl _ [(0, .const (.int .i64 3)), (1, .tmp 87)] rfl [(0, .int .i64 3), (1, .int .u64 (at_ : Int))] rfl (fdC (fN at_)).toArray (bldF3 _) ?_)
       | ((with_reducible refine gate_st 134 _ _ rfl ?_); refine wl_strn rfl _ _ _ rfl (fdC (fN at_)).toArray #[Value.int IntKind.i64 0, Value.int IntKind.u64 0, Value.string ⟨#[]⟩] _ (by rw [sizFld]; rfl) rfl (by rw [← Array.all_toList]; rfl) (by simp [Act.eval]) rfl ?_))
     have HL2 := Lib.hid (HL1.out.below (below_alloc1 W5 (.cells (fdC (fN at_)).toArray 134)))
     have HK2 := Lib.hid (HK1.out.below (below_alloc1 W5 (.cells (fdC (fN at_)).toArray 134)))
     have HT2 := Lib.hid (QpK.new HL1.out (fdC (fN at_)) 134)
     generalize W5.alloc (.cells (fdC (fN at_)).toArray 134) = W6 at *
     generalize W5.heap.size = g2 at *
     clear HL1 HK1 ce0 ce26 ce27
     obtain ⟨ce0, ce26, ce27⟩ := evD_cells HK2.out.at_
     have HRk := Lib.hid (evD_keyR (range_whole HK2.out.at_))
     have HKl := Lib.hid (rkR_len _ ev.lkey)
     have hltT := lt_heap HT2.out.at_
     cases hmk : ev.mark with
     | true =>
       rw [hmk] at ce27
       have HY : Hid (evF ev = [fB 2, fN at_]) := by show _ = _; unfold evF; rw [if_pos hmk, HAT.out.2.2]
       by_cases hbad : ev.dead = true ∨ ev.key ≠ z25
       · have hok : evOk ev = false := by
           unfold evOk
           rw [if_pos hmk]
           rcases hbad with h | h
           · rw [h]; rfl
           · rw [beq_eq_false_iff_ne.2 h, Bool.and_false]
         have HE : Hid (dprE x es = 3) := by
           show _ = _
           rw [HPE2.out, if_pos]
           rw [List.all_eq_false]
           exact ⟨ev, HMem.out, by rw [hok]; decide⟩
         have HB : Hid (dprB x es = []) := by show _ = _; unfold dprB; rw [HE.out, if_neg (by decide)]
         clear HPE2 hok HF HTk HAl hmk HY
         cases hdd : ev.dead with
         | true =>
           rw [hdd] at ce26
           go_wp2_with fail
           refine bodyPost_ret (results_tmp2 rfl _ _ _) rfl ?_
           exact ⟨.slice none 0 0, by rw [HE.out]; rfl, by rw [HB.out]; exact OwnE.nil _ _, HL2.out.A.bel⟩
         | false =>
           rw [hdd] at ce26
           have hkz : (ev.key == z25) = false := beq_eq_false_iff_ne.2 (by rcases hbad with h | h; (rw [hdd] at h; cases h); exact h)
           have HNQ : Hid (∀ W, (binOp .neq 44 (.agg (rkR ev.key).toArray) (.agg (rkR z25).toArray)).run Tryz.prog W = .ok (.bool true) W) := fun W => by rw [neqSK W ev.key z25 ev.lkey rfl, hkz]; rfl
           clear hbad hkz hdd
           go_wp2_with (first
             | ((with_reducible refine gate_ld 44 _ rfl ?_); refine wl_ldr rfl 44 _ rfl g 1 (rkR ev.key) _ Tryz.underlying44 rfl (by rw [sizR44, HKl.out]) rfl HRk.out ?_)
             | ((with_reducible refine gate_bd 44 _ rfl ?_); refine wl_bdG rfl _ [] rfl [] rfl (rkR z25).toArray bldKZ ?_)
             | ((with_reducible refine gate_op (.binOp .neq 44 (.tmp 95) (.tmp 96) 44) rfl ?_); refine wl_val rfl (.bool true) (exec_neqG _ 44 (.tmp 95) (.tmp 96) rfl (rkR ev.key).toArray (rkR z25).toArray true rfl rfl (run_eqGuard_agg _ .neq 44 _ _ _ _ (by kernel_rfl)) (HNQ.out _)) ?_))
           refine bodyPost_ret (results_tmp2 rfl _ _ _) rfl ?_
           exact ⟨.slice none 0 0, by rw [HE.out]; rfl, by rw [HB.out]; exact OwnE.nil _ _, HL2.out.A.bel⟩
       have hdd : ev.dead = false := by cases h : ev.dead with | true => exact absurd (.inl h) hbad | false => rfl
       have hkz : ev.key = z25 := Classical.byContradiction fun h => hbad (.inr h)
       have hok : evOk ev = true := by unfold evOk; rw [if_pos hmk, hdd, hkz]; decide
       have HAl2 : Hid (∀ e ∈ es.take (k + 1), evOk e = true) := by
         show ∀ e ∈ es.take (k + 1), evOk e = true
         rw [HTk.out]
         intro e he
         rw [List.mem_append, List.mem_singleton] at he
         rcases he with he | rfl
         · exact HAl.out e he
         · exact hok
       rw [hdd] at ce26
       have HNQ : Hid (∀ W, (binOp .neq 44 (.agg (rkR ev.key).toArray) (.agg (rkR z25).toArray)).run Tryz.prog W = .ok (.bool false) W) := fun W => by rw [neqSK W ev.key z25 ev.lkey rfl, hkz]; rfl
       clear hok HAl HTk HMem hbad hdd hkz hmk
       go_upto_region 21 with (first
         | ((with_reducible refine gate_ld 44 _ rfl ?_); refine wl_ldr rfl 44 _ rfl g 1 (rkR ev.key) _ Tryz.underlying44 rfl (by rw [sizR44, HKl.out]) rfl HRk.out ?_)
         | ((with_reducible refine gate_bd 44 _ rfl ?_); refine wl_bdG rfl _ [] rfl [] rfl (rkR z25).toArray bldKZ ?_)
         | ((with_reducible refine gate_op (.binOp .neq 44 (.tmp 95) (.tmp 96) 44) rfl ?_); refine wl_val rfl (.bool false) (exec_neqG _ 44 (.tmp 95) (.tmp 96) rfl (rkR ev.key).toArray (rkR z25).toArray false rfl rfl (run_eqGuard_agg _ .neq 44 _ _ _ _ (by kernel_rfl)) (HNQ.out _)) ?_))
       have KO : Hid (∀ W, Calls Tryz.prog 65 #[.int .i64 2] W fun e w' => e = .returned (.agg (fdC (fB 2)).toArray) ∧ Below W.heap.size W w') := fun W => one_any 2 W (by decide)
       obtain ⟨q5, c5, rfl⟩ := HL2.out.O.slice
       refine wp_region_held_drew (S := fun W => W.heap[g2]? = some (.cells (fdC (fN at_)).toArray 134 (0, 0))) (by kernel_rfl) HT2.out.at_ (fun hH => ?_)
       show wpAnyH Tryz.prog Region.Mode.any _ _ _ 6 #[false, false, false, false, false, false] _ _
       refine takeR (i := 0) (v := .slice q5 fs.length c5) 99 rfl rfl (by kernel_rfl) (by kernel_rfl) (by kernel_rfl) (fun _ _ _ h => h) (Or.inl ⟨rfl, fun w' hS => exec_mvT (.tmp 5) rfl _ rfl⟩) hH ?_
       simp only [Act.put, wrT]
       refine takeR (i := 2) (v := .agg (fdC (fN at_)).toArray) 101 rfl rfl (by kernel_rfl) (by kernel_rfl) (by kernel_rfl) (fun _ _ _ h => h) (Or.inl ⟨rfl, fun w' hS => exec_ldr 134 (.tmp 8) rfl g2 0 (fdC (fN at_)) _ Tryz.underlying134 rfl (by rw [sizFld]; rfl) rfl (range_whole hS)⟩) hH ?_
       simp only [Act.put, wrT]
       have HL3d : Hid (QpL w W6.drew x (.slice (some ⟨b, o, none⟩) n c) (.slice q5 fs.length c5) fs) := HL2.out.below ⟨rfl, rfl, rfl, Nat.le_refl _, fun _ _ => rfl⟩
       have HT3d : Hid (QpK W6.drew (.slice q5 fs.length c5) g2 (fdC (fN at_)) 134) := HT2.out.below ⟨rfl, rfl, rfl, Nat.le_refl _, fun _ _ => rfl⟩
       have HK3d : Hid (QpK W6.drew (.slice q5 fs.length c5) g (evD ev) 79) := HK2.out.below ⟨rfl, rfl, rfl, Nat.le_refl _, fun _ _ => rfl⟩
       refine oneH 1 (by kernel_rfl) (wpOp_call rfl rfl (exec_calls rfl (enters_of Tryz.func65 (by kernel_rfl) rfl) (vs := #[.int .i64 2]) (by simp [Act.eval]) _) (KO.out _) (fun e w8 hR => ?_))
       obtain ⟨rfl, hb8⟩ := hR
       have HL4 := Lib.hid (HL3d.out.below hb8)
       have HT4 := Lib.hid (HT3d.out.below hb8)
       have HK4 := Lib.hid (HK3d.out.below hb8)
       refine ⟨_, rfl, HT4.out.at_, ?_⟩
       simp only [Act.put, rdT, wrT]
       have HL5 := Lib.hid (HL4.out.below (below_alloc1 w8 (.cells ([fB 2, fN at_].flatMap fdC).toArray 134)))
       have HT5 := Lib.hid (HT4.out.below (below_alloc1 w8 (.cells ([fB 2, fN at_].flatMap fdC).toArray 134)))
       have HK5 := Lib.hid (HK4.out.below (below_alloc1 w8 (.cells ([fB 2, fN at_].flatMap fdC).toArray 134)))
       refine oneH 3 (by kernel_rfl) (wpOp_val rfl rfl (exec_bsL 146 134 32 (.agg (fdC fdZ).toArray) Tryz.underlying146 infoFd (by omega) fdC_len [.tmp 100, .tmp 101] [fB 2, fN at_] 2 rfl (by omega) (by omega) rfl rfl) ⟨HT5.out.at_, ?_⟩)
       simp only [Act.put, rdT, wrT]
       refine oneH 4 (by kernel_rfl) (wpOp_wp rfl rfl (op_app 146 134 32 (.agg (fdC fdZ).toArray) Tryz.underlying146 infoFd rfl (by omega) fdC_len fdC_ones (.tmp 99) (.tmp 102) rfl (w.heap.size + 2) (.slice q5 fs.length c5) fs rfl HL5.out.O (some ⟨w8.heap.size, 0, none⟩) 2 2 [fB 2, fN at_] rfl rfl (slAt_newE fdC_len (heap_alloc_new _ _)) (fun e => by cases e) (by have := HLf.out; omega) (by have := HLf.out; unfold maxLen; omega) (by have := lt_heap HL5.out.A.b; omega) ?_))
       intro v9 W9 h1 h2 h3
       have HL6 := Lib.hid (HL5.out.grown h2 h1)
       have HT6 := Lib.hid (HT5.out.grown h2 h3)
       have HK6 := Lib.hid (HK5.out.grown h2 h3)
       refine ⟨HT6.out.at_, ?_⟩
       simp only [Act.put, rdT, wrT]
       refine oneH 5 (by kernel_rfl) (wpOp_as rfl rfl (.tmp 103) rfl v9 rfl ?_)
       refine ⟨HT6.out.at_, ?_⟩
       simp only [Act.put, rdT, wrT]
       refine wpAnyH_done (by kernel_rfl) ?_ _
       try simp only [Act.put, rdT, wrT]
       clear h1 h2 h3 hb8 HL3d HT3d HK3d HL4 HT4 HK4 HL5 HT5 HK5 HT6 hH
       go_wp2_with fail
       go_roundw
       case rel => exact ⟨k + 1, by omega, by simp, HAl2, (by rw [HF.out, HY.out]; exact HL6.out)⟩
       case measure => simp [intOf]; omega
     | false =>
       rw [hmk] at ce27
       have HY : Hid (evF ev = evF0 ev ++ ev.key.map fun b => fB b.toNat) := by show _ = _; unfold evF; rw [if_neg (by rw [hmk]; decide)]
       have HOe : Hid (evOk ev = rightK ev.key) := by show _ = _; unfold evOk; rw [if_neg (by rw [hmk]; decide)]
       have KRr := Lib.hid (refRight_any ev.key W6 ev.lkey)
       cases hrk : rightK ev.key with
       | false =>
         rw [hrk] at KRr
         have HE : Hid (dprE x es = 3) := by
           show _ = _
           rw [HPE2.out, if_pos]
           rw [List.all_eq_false]
           exact ⟨ev, HMem.out, by rw [HOe.out, hrk]; decide⟩
         have HB : Hid (dprB x es = []) := by show _ = _; unfold dprB; rw [HE.out, if_neg (by decide)]
         clear HPE2 HF HTk HAl hmk HY HOe hrk
         go_wp2_with (first
           | ((with_reducible refine gate_ld 44 _ rfl ?_); refine wl_ldr rfl 44 _ rfl g 1 (rkR ev.key) _ Tryz.underlying44 rfl (by rw [sizR44, HKl.out]) rfl HRk.out ?_)
           | (go_at_call 56; (refine KRr.out.mono ?_); rintro e W7 ⟨rfl, hb7⟩; have HL3 := Lib.hid (HL2.out.below hb7); clear hb7))
         refine bodyPost_ret (results_tmp2 rfl _ _ _) rfl ?_
         exact ⟨.slice none 0 0, by rw [HE.out]; rfl, by rw [HB.out]; exact OwnE.nil _ _, HL3.out.A.bel⟩
       | true =>
       rw [hrk] at KRr
       have HAl2 : Hid (∀ e ∈ es.take (k + 1), evOk e = true) := by
         show ∀ e ∈ es.take (k + 1), evOk e = true
         rw [HTk.out]
         intro e he
         rw [List.mem_append, List.mem_singleton] at he
         rcases he with he | rfl
         · exact HAl.out e he
         · rw [HOe.out, hrk]
       clear HAl HTk HMem hmk HOe hrk
       go_upto_region 24 with (first
         | ((with_reducible refine gate_ld 44 _ rfl ?_); refine wl_ldr rfl 44 _ rfl g 1 (rkR ev.key) _ Tryz.underlying44 rfl (by rw [sizR44, HKl.out]) rfl HRk.out ?_)
         | (go_at_call 56; (refine KRr.out.mono ?_); rintro e W7 ⟨rfl, hb7⟩; have HL3 := Lib.hid (HL2.out.below hb7); have HK3 := Lib.hid (HK2.out.below hb7); have HT3 := Lib.hid (HT2.out.below hb7); clear hb7))
       clear HL2 HK2 HT2 KRr ce0 ce26 ce27 hltT HRk
       obtain ⟨ce0, ce26, ce27⟩ := evD_cells HK3.out.at_
       go_upto_if 109 with fail
       go_cut [9] (fun s9 wx => s9 = .int .i64 ((if ev.dead = true then 1 else 0 : Nat) : Int) ∧ Hid (wx = W7))
       case first => as_aux_lemma =>
         cases hdd : ev.dead with
         | true =>
           go_wp2_with fail
           go_meet
           case rel => exact ⟨by rw [hdd]; rfl, rfl⟩
         | false =>
           go_wp2_with fail
           go_meet
           case rel => exact ⟨by rw [hdd]; rfl, rfl⟩
       case rest =>
       obtain ⟨rfl, HWc⟩ := hcut
       have HWc2 : wc = W7 := HWc.out
       subst HWc2
       obtain ⟨m, hm⟩ : ∃ m : Nat, (if ev.dead = true then 1 else 0) = m ∧ m < 2 := ⟨_, rfl, by split <;> decide⟩
       have HY0 : Hid (evF0 ev = [fB m, fN at_]) := by show _ = _; unfold evF0; rw [hm.1, HAT.out.2.2]
       have hm2 := hm.2
       rw [hm.1]
       clear hm ce0 ce26 ce27 HWc
       have KO : Hid (∀ W, Calls Tryz.prog 65 #[.int .i64 (m : Int)] W fun e w' => e = .returned (.agg (fdC (fB m)).toArray) ∧ Below W.heap.size W w') := fun W => one_any m W (by omega)
       have hltT := lt_heap HT3.out.at_
       go_upto_region 27 with fail
       obtain ⟨q5, c5, rfl⟩ := HL3.out.O.slice
       refine wp_region_held_drew (S := fun W => W.heap[g2]? = some (.cells (fdC (fN at_)).toArray 134 (0, 0))) (by kernel_rfl) HT3.out.at_ (fun hH => ?_)
       show wpAnyH Tryz.prog Region.Mode.any _ _ _ 7 #[false, false, false, false, false, false, false] _ _
       refine takeR (i := 0) (v := .slice q5 fs.length c5) 110 rfl rfl (by kernel_rfl) (by kernel_rfl) (by kernel_rfl) (fun _ _ _ h => h) (Or.inl ⟨rfl, fun w' hS => exec_mvT (.tmp 5) rfl _ rfl⟩) hH ?_
       simp only [Act.put, wrT]
       refine takeR (i := 3) (v := .agg (fdC (fN at_)).toArray) 113 rfl rfl (by kernel_rfl) (by kernel_rfl) (by kernel_rfl) (fun _ _ _ h => h) (Or.inl ⟨rfl, fun w' hS => exec_ldr 134 (.tmp 8) rfl g2 0 (fdC (fN at_)) _ Tryz.underlying134 rfl (by rw [sizFld]; rfl) rfl (range_whole hS)⟩) hH ?_
       simp only [Act.put, wrT]
       refine takeR (i := 1) (v := .int .i64 (m : Int)) 111 rfl rfl (by kernel_rfl) (by kernel_rfl) (by kernel_rfl) (fun _ _ _ h => h) (Or.inl ⟨rfl, fun w' hS => exec_mvT (.tmp 9) rfl _ rfl⟩) hH ?_
       simp only [Act.put, wrT]
       have HL3d : Hid (QpL w wc.drew x (.slice (some ⟨b, o, none⟩) n c) (.slice q5 fs.length c5) fs) := HL3.out.below ⟨rfl, rfl, rfl, Nat.le_refl _, fun _ _ => rfl⟩
       have HT3d : Hid (QpK wc.drew (.slice q5 fs.length c5) g2 (fdC (fN at_)) 134) := HT3.out.below ⟨rfl, rfl, rfl, Nat.le_refl _, fun _ _ => rfl⟩
       have HK3d : Hid (QpK wc.drew (.slice q5 fs.length c5) g (evD ev) 79) := HK3.out.below ⟨rfl, rfl, rfl, Nat.le_refl _, fun _ _ => rfl⟩
       refine oneH 2 (by kernel_rfl) (wpOp_call rfl rfl (exec_calls rfl (enters_of Tryz.func65 (by kernel_rfl) rfl) (vs := #[.int .i64 (m : Int)]) (by simp [Act.eval]) _) (KO.out _) (fun e w8 hR => ?_))
       obtain ⟨rfl, hb8⟩ := hR
       have HL4 := Lib.hid (HL3d.out.below hb8)
       have HT4 := Lib.hid (HT3d.out.below hb8)
       have HK4 := Lib.hid (HK3d.out.below hb8)
       refine ⟨_, rfl, HT4.out.at_, ?_⟩
       simp only [Act.put, rdT, wrT]
       have HL5 := Lib.hid (HL4.out.below (below_alloc1 w8 (.cells ([fB m, fN at_].flatMap fdC).toArray 134)))
       have HT5 := Lib.hid (HT4.out.below (below_alloc1 w8 (.cells ([fB m, fN at_].flatMap fdC).toArray 134)))
       have HK5 := Lib.hid (HK4.out.below (below_alloc1 w8 (.cells ([fB m, fN at_].flatMap fdC).toArray 134)))
       refine oneH 4 (by kernel_rfl) (wpOp_val rfl rfl (exec_bsL 146 134 32 (.agg (fdC fdZ).toArray) Tryz.underlying146 infoFd (by omega) fdC_len [.tmp 112, .tmp 113] [fB m, fN at_] 2 rfl (by omega) (by omega) rfl rfl) ⟨HT5.out.at_, ?_⟩)
       simp only [Act.put, rdT, wrT]
       refine oneH 5 (by kernel_rfl) (wpOp_wp rfl rfl (op_app 146 134 32 (.agg (fdC fdZ).toArray) Tryz.underlying146 infoFd rfl (by omega) fdC_len fdC_ones (.tmp 110) (.tmp 114) rfl (w.heap.size + 2) (.slice q5 fs.length c5) fs rfl HL5.out.O (some ⟨w8.heap.size, 0, none⟩) 2 2 [fB m, fN at_] rfl rfl (slAt_newE fdC_len (heap_alloc_new _ _)) (fun e => by cases e) (by have := HLf.out; omega) (by have := HLf.out; unfold maxLen; omega) (by have := lt_heap HL5.out.A.b; omega) ?_))
       intro v9 W9 h1 h2 h3
       have HL6 := Lib.hid (HL5.out.grown h2 h1)
       have HT6 := Lib.hid (HT5.out.grown h2 h3)
       have HK6 := Lib.hid (HK5.out.grown h2 h3)
       refine ⟨HT6.out.at_, ?_⟩
       simp only [Act.put, rdT, wrT]
       refine oneH 6 (by kernel_rfl) (wpOp_as rfl rfl (.tmp 115) rfl v9 rfl ?_)
       refine ⟨HT6.out.at_, ?_⟩
       simp only [Act.put, rdT, wrT]
       refine wpAnyH_done (by kernel_rfl) ?_ _
       try simp only [Act.put, rdT, wrT]
       clear h1 h2 h3 hb8 HL3d HT3d HK3d HL4 HT4 HK4 HL5 HT5 HK5 HT6 hH
       rw [← HY0.out] at HL6
       have HRk := Lib.hid (evD_keyR (range_whole HK6.out.at_))
       have KB := Lib.hid (fun W => bytes06_any ev.key ev.lkey W)
       go_upto_region 29 with (first
         | ((with_reducible refine gate_ld 44 _ rfl ?_); refine wl_ldr rfl 44 _ rfl g 1 (rkR ev.key) _ Tryz.underlying44 rfl (by rw [sizR44, HKl.out]) rfl HRk.out ?_)
         | (go_at_call 67; (refine (KB.out _).mono ?_); rintro e W10 ⟨rfl, hb7⟩; have HL7 := Lib.hid (HL6.out.below hb7); clear hb7)
         | ((with_reducible refine gate_st 108 _ _ rfl ?_); refine wl_strn rfl _ _ _ rfl (bC ev.key) #[Value.int IntKind.u8 0, Value.int IntKind.u8 0, Value.int IntKind.u8 0, Value.int IntKind.u8 0, Value.int IntKind.u8 0, Value.int IntKind.u8 0, Value.int IntKind.u8 0, Value.int IntKind.u8 0, Value.int IntKind.u8 0, Value.int IntKind.u8 0, Value.int IntKind.u8 0, Value.int IntKind.u8 0, Value.int IntKind.u8 0, Value.int IntKind.u8 0, Value.int IntKind.u8 0, Value.int IntKind.u8 0, Value.int IntKind.u8 0, Value.int IntKind.u8 0, Value.int IntKind.u8 0, Value.int IntKind.u8 0, Value.int IntKind.u8 0, Value.int IntKind.u8 0, Value.int IntKind.u8 0, Value.int IntKind.u8 0, Value.int IntKind.u8 0] _ (by rw [siz25A]; simp [bC, ev.lkey]) (by simp [bC, ev.lkey]) (by rw [← Array.all_toList]; exact bC_all _) (by simp [Act.eval]) rfl ?_))
       have HL8 := Lib.hid (HL7.out.below (below_alloc1 W10 (.cells (bC ev.key) 108)))
       have HK8 : Hid (QpK (W10.alloc (.cells (bC ev.key) 108)) v9 W10.heap.size (bC ev.key).toList 108) := QpK.new HL7.out (bC ev.key).toList 108
       generalize W10.alloc (.cells (bC ev.key) 108) = W11 at *
       generalize W10.heap.size = g3 at *
       clear HL6 HL7 HK6 HRk KB
       have HLk : Hid (ev.key.length = 25) := ev.lkey
       have HLf2 : Hid ((fs ++ evF0 ev).length ≤ 1002) := by show _ ≤ _; have := HLf.out; rw [List.length_append, HY0.out]; simp only [List.length_cons, List.length_nil]; omega
       have HFi : Hid (fs ++ evF ev = (fs ++ evF0 ev) ++ ev.key.map fun b => fB b.toNat) := by show _ = _; rw [HY.out, List.append_assoc]
       generalize fs ++ evF0 ev = fs2 at *
       generalize ev.key = ky at *
       go_wp2_with fail
       go_loopw [11, 5] (fun j u wr => ∃ (i : Nat), i ≤ 25 ∧ j = .int .i64 (i : Int) ∧ Hid (QpL w wr x (.slice (some ⟨b, o, none⟩) n c) u (fs2 ++ (ky.take i).map fun b => fB b.toNat)) ∧ Hid (QpK wr u g3 (bC ky).toList 108)) (fun j _ _ => 25 - (intOf j).toNat)
       case atStart => exact ⟨0, Nat.zero_le _, rfl, (by show QpL _ _ _ _ _ _; rw [List.take_zero, List.map_nil, List.append_nil]; exact HL8.out), HK8.out⟩
       case round =>
         obtain ⟨i, hi, rfl, HLi, HKi⟩ := hrel
         clear HL8 HK8
         by_cases hil : i < 25
         · have hil' : (i : Int) < 25 := by omega
           have hik : i < ky.length := by rw [HLk.out]; exact hil
           have hc : wr.cell? ⟨g3, i, none⟩ = some (.int .u8 (ky[i].toNat : Int)) := by rw [cell_blk HKi.out.at_]; exact bC_get ky i hik
           have HTi : Hid (ky.take (i + 1) = ky.take i ++ [ky[i]]) := List.take_succ_eq_append_getElem hik
           generalize ky[i] = kb at *
           have hkb : kb.toNat < 256 := kb.toNat_lt
           have hwv : IntKind.i64.wrap (kb.toNat : Int) = (kb.toNat : Int) := by simp [IntKind.wrap, IntKind.bits, IntKind.signed]; omega
           have KO : Hid (∀ W, Calls Tryz.prog 65 #[.int .i64 (kb.toNat : Int)] W fun e w' => e = .returned (.agg (fdC (fB kb.toNat)).toArray) ∧ Below W.heap.size W w') := fun W => one_any _ W (by omega)
           have HLm : Hid ((fs2 ++ (ky.take i).map fun b => fB b.toNat).length ≤ 2000) := by show _ ≤ _; have := HLf2.out; rw [List.length_append, List.length_map, List.length_take]; omega
           have HFm : Hid (fs2 ++ (ky.take (i + 1)).map (fun b => fB b.toNat) = (fs2 ++ (ky.take i).map fun b => fB b.toNat) ++ [fB kb.toNat]) := by show _ = _; rw [HTi.out, List.map_append, List.append_assoc]; rfl
           generalize fs2 ++ (ky.take i).map (fun b => fB b.toNat) = fs3 at *
           obtain ⟨q6, c6, rfl⟩ := HLi.out.O.slice
           go_upto_region 31 with (first
             | (go_at_call 65; (refine (KO.out _).mono ?_); rintro e W12 ⟨rfl, hb7⟩; have HL9 := Lib.hid ((HLi.out.below hb7).below (below_alloc1 W12 (.cells (fdC (fB kb.toNat)).toArray 134))); have HK9 := Lib.hid ((HKi.out.below hb7).below (below_alloc1 W12 (.cells (fdC (fB kb.toNat)).toArray 134))); clear hb7)
             | (refine wl_bs1 (k := 3) 146 134 32 (.agg (fdC fdZ).toArray) Tryz.underlying146 infoFd rfl (by omega) (by omega) fdC_len rfl (.tmp 128) rfl (fB kb.toNat) rfl ?_)
             | (at_builtin; refine wl_appO rfl 146 134 32 (.agg (fdC fdZ).toArray) Tryz.underlying146 infoFd rfl (by omega) fdC_len fdC_ones (.tmp 123) (.tmp 129) rfl (w.heap.size + 2) (.slice q6 fs3.length c6) fs3 rfl HL9.out.O (some ⟨W12.heap.size, 0, none⟩) 1 1 [fB kb.toNat] rfl rfl (slAt_newE fdC_len (by have := heap_alloc_new W12 (.cells (fdC (fB kb.toNat)).toArray 134); simpa using this)) (fun e => by cases e) (by have := HLm.out; omega) (by have := HLm.out; unfold maxLen; omega) (by have := lt_heap HL9.out.A.b; omega) ?_; intro v10 W13 h1 h2 h3; have HL10 := Lib.hid (HL9.out.grown h2 h1); have HK10 := Lib.hid (HK9.out.grown h2 h3); clear h1 h2 h3))
           go_wp2_with fail
           go_roundw
           case rel => exact ⟨i + 1, by omega, by simp, (by rw [HFm.out]; exact HL10.out), HK10.out⟩
           case measure => simp [intOf]; omega
         · obtain rfl : i = 25 := by omega
           have HLz := HLi
           rw [List.take_of_length_le (by rw [HLk.out]; exact Nat.le_refl _), ← HFi.out, ← HF.out] at HLz
           clear HLi HKi
           go_wp2_with fail
           go_roundw
           case rel => exact ⟨k + 1, by omega, by simp, HAl2, HLz⟩
           case measure => simp [intOf]; omega
   · obtain rfl : k = n := by omega
     have hlt2 : ¬ (k : Int) < (k : Int) := by omega
     have htk : es.take k = es := List.take_of_length_le (by rw [HN.out]; exact Nat.le_refl _)
     rw [htk] at HAl HL
     have HRP : Hid (hdF x k ++ es.flatMap evF = rpF x es) := by show _ = _; unfold rpF; rw [HN.out]
     rw [HRP.out] at HL
     have HE : Hid (dprE x es = 0) := by
       show _ = _
       rw [HPE2.out, if_neg]
       rw [List.all_eq_true.2 HAl.out]; decide
     have HB : Hid (dprB x es = fdsB (rpF x es)) := by show _ = _; unfold dprB; rw [HE.out, if_pos rfl]
     obtain ⟨q5, c5, rfl⟩ := HL.out.O.slice
     have KW := Lib.hid (write03_any q5 _ c5 (rpF x es) wr rfl (HL.out.O.slat fdC_len) HOF.out.1 HOF.out.2.1 HOF.out.2.2)
     clear HPE2
     go_wp2_with (go_at_call 68; (refine KW.out.mono ?_); rintro e W7 ⟨v7, rfl, ho7, hb7⟩; have HO7 := Lib.hid ho7; have HB7 := Lib.hid hb7; clear ho7 hb7)
     refine bodyPost_ret (results_tmp2 rfl _ _ _) rfl ?_
     exact ⟨v7, by rw [HE.out]; rfl, by rw [HB.out]; exact HO7.out.base HL.out.A.bel.size, HL.out.A.bel.trans (HB7.out.mono HL.out.A.bel.size)⟩
end Go.Proofs.YtbfefdedjcppaaaGreatDoor
