/- Texts joined: RG. -/
import Derived.Test.YtbfefdedjcppaaaGreatDoorRF
import Derived.Test.YtbfefdedjcppaaaGreatDoorEL6
/- The document's in: tag. -/
namespace Go.Proofs.YtbfefdedjcppaaaGreatDoor
set_option maxRecDepth 100000
set_option maxHeartbeats 8000000
open Go.RowKit Go.Deep
theorem parse_known {L : List UInt8} {t : T3} (h : parseT L = some t) : textB (bytT t) = text5 t ∧ rightT (bytT t) = true ∧ t.lang.length ≤ 3 ∧ t.script.length ≤ 4 ∧ t.region.length ≤ 3 ∧ (bytT t).length = 10 := by
 rcases parseT_can h with rfl | hc
 · refine ⟨by decide +kernel, by decide +kernel, by decide, by decide, by decide, by decide +kernel⟩
 · have ho := hc.ok
   refine ⟨?_, right_can hc, ho.l3, ho.s4, ho.r3, byt_len ho⟩
   rw [textB, if_pos (right_can hc), plain_can hc, text5, if_neg hc.lne]
theorem tagOk_some {s : List UInt8} {t : T3} (h : parseT s = some t) : tagOk s = decide (text5 t = s) ∧ tagR s = bytT t := by
 have h1 : tagR s = bytT t := by unfold tagR; rw [h]
 refine ⟨?_, h1⟩
 unfold tagOk
 rw [h1, (parse_known h).1, h]
 rfl
theorem tagOk_none {s : List UInt8} (h : parseT s = none) : tagOk s = false := by
 unfold tagOk
 rw [h]
 rfl
theorem sT_le (m e : Nat) (l : List UInt8) : (sT m e l).length ≤ m := by
 unfold sT
 split
 · exact Nat.zero_le _
 · unfold textS
   split
   · rename_i h
     have : (readS l).1 ≤ m := by
       unfold textE at h
       by_cases h1 : (readS l).2.2 ≠ 0
       · rw [if_pos h1] at h; exact absurd h h1
       · rw [if_neg h1] at h
         by_cases h2 : m < (readS l).1
         · rw [if_pos h2] at h; cases h
         · omega
     rw [List.length_take]; omega
   · exact Nat.zero_le _
theorem res_rowc2 {P : Program} {fn : Func} {p t : Tmp} {T U T' U' : TypeId} {d d' : TypeDesc} (h : fn.results = #[.cell p T, .cell t U]) (tmps : Array Value) (w : World) (g g' : Nat) (cs cs' : Array Value) (fr fr' : Nat × Nat)
   (hp : tmps.getD p undef = .pointer (some ⟨g, 0, none⟩)) (hg : w.heap[g]? = some (.cells cs T' fr)) (hu : P.underlying T = some d) (hd : (match d with | .struct _ | .array _ _ => true | _ => false) = true) (hi : (P.info? T).map (·.size) = some cs.size)
   (hp2 : tmps.getD t undef = .pointer (some ⟨g', 0, none⟩)) (hg2 : w.heap[g']? = some (.cells cs' U' fr')) (hu2 : P.underlying U = some d') (hd2 : (match d' with | .struct _ | .array _ _ => true | _ => false) = true) (hi2 : (P.info? U).map (·.size) = some cs'.size) :
   (results fn tmps).run P w = .ok (.tuple #[.agg cs, .agg cs']) w := by
 have hp' : tmps[p]?.getD undef = .pointer (some ⟨g, 0, none⟩) := by simpa using hp
 have hp2' : tmps[t]?.getD undef = .pointer (some ⟨g', 0, none⟩) := by simpa using hp2
 have hload : (loadVar T ⟨g, 0, none⟩).run P w = .ok (.agg cs) w := by
   refine run_loadVar_row _ g T' T cs fr d hg hu ?_ hi
   revert hd
   cases d <;> intro hd <;> first | rfl | exact hd
 have hload2 : (loadVar U ⟨g', 0, none⟩).run P w = .ok (.agg cs') w := by
   refine run_loadVar_row _ g' U' U cs' fr' d' hg2 hu2 ?_ hi2
   revert hd2
   cases d' <;> intro hd2 <;> first | rfl | exact hd2
 simp [results, h, hp', hp2', asAddr, hload, hload2]
def tagIE (e : Nat) (l : List UInt8) : Nat := if e = 0 ∧ eT 12 e l = 0 ∧ tagOk (sT 12 e l) = false then 14 else eT 12 e l
def tagIV (e : Nat) (l : List UInt8) : List UInt8 := if tagIE e l = 0 then tagR (sT 12 e l) else tag0
structure TgSt (w W : World) (a : List Value) : Prop where
 bel : Below w.heap.size w W
 x : W.heap[w.heap.size]? = some (.cells a.toArray 103 (0, 0))
 r : W.heap[w.heap.size + 1]? = some (.cells #[.slice none 0 0, .int .i64 0] 103 (0, 0))
 t : W.heap[w.heap.size + 1 + 1]? = some (.cells (bC tag0) 40 (0, 0))
theorem TgSt.below {w W W' : World} {a : List Value} (h : TgSt w W a) (hb : Below W.heap.size W W') : TgSt w W' a :=
 ⟨h.bel.trans (hb.mono h.bel.size), (hb.block _ (lt_heap h.x)).trans h.x, (hb.block _ (lt_heap h.r)).trans h.r, (hb.block _ (lt_heap h.t)).trans h.t⟩
theorem TgSt.set {w W : World} {a a' : List Value} (h : TgSt w W a) : TgSt w (W.setRow w.heap.size a'.toArray) a' :=
 ⟨setRow_below h.bel (Nat.le_refl _) _, setRow_at h.x, (setRow_other _ _ _ _ (by omega)).trans h.r, (setRow_other _ _ _ _ (by omega)).trans h.t⟩
theorem TgSt.turned {w W W' : World} {a a' : List Value} (h : TgSt w W a) (hd : W'.heap[w.heap.size]? = some (.cells a'.toArray 103 (0, 0))) (ht : Turn [w.heap.size] W W') : TgSt w W' a' := by
 have hk : ∀ k, k < W.heap.size → k ≠ w.heap.size → W'.heap[k]? = W.heap[k]? := fun k a b => ht.block k a (by simpa using b)
 exact ⟨h.bel.trans (ht.below (fun k hk => by simp at hk; omega) h.bel.size), hd, (hk _ (lt_heap h.r) (by omega)).trans h.r, (hk _ (lt_heap h.t) (by omega)).trans h.t⟩
theorem TgSt.start (w : World) (a : List Value) : TgSt w (((w.alloc (.cells a.toArray 103)).alloc (.cells #[.slice none 0 0, .int .i64 0] 103)).alloc (.cells (bC tag0) 40)) a := by
 refine ⟨(below_alloc2 _ _ _).alloc (by simp; omega) _, ?_, ?_, ?_⟩
 · rw [heap_alloc_old _ _ (by simp; omega)]; exact heap_alloc2_old _ _ _
 · rw [heap_alloc_old _ _ (by simp)]; exact heap_alloc2_new _ _ _
 · have := heap_alloc_new ((w.alloc (.cells a.toArray 103)).alloc (.cells #[.slice none 0 0, .int .i64 0] 103)) (.cells (bC tag0) 40); simpa using this
def TgP (q : Option Addr) (n c k e' : Nat) (v : List UInt8) (w : World) (en : Ending) (w' : World) : Prop :=
 en = .returned (.tuple #[.agg #[.slice (tq q c k) (n - k) (c - k), .int .i64 (e' : Int)], .agg (bC v)]) ∧ Below w.heap.size w w'
theorem built10 : Tryz.prog.built 40 [] = some (bC tag0) := by kernel_rfl
structure TgSt2 (w W : World) (a v : Array Value) : Prop where
 bel : Below w.heap.size w W
 r : W.heap[w.heap.size + 1]? = some (.cells a 103 (0, 0))
 t : W.heap[w.heap.size + 1 + 1]? = some (.cells v 40 (0, 0))
def TgC (w : World) (x : List Value) (bt : List UInt8) (g : Nat) (t : T3) : Nat → World → Prop
 | 0, W => TgSt2 w W #[.slice none 0 0, .int .i64 0] (bC tag0) ∧ W.heap[w.heap.size]? = some (.cells x.toArray 103 (0, 0)) ∧ W.heap[g]? = some (.cells (tC t) 181 (0, 0))
 | 1, W => TgSt2 w W #[.slice none 0 0, .int .i64 0] (bC tag0) ∧ W.heap[w.heap.size]? = some (.cells x.toArray 103 (0, 0)) ∧ W.heap[g]? = some (.cells (tC t) 181 (0, 0))
 | 2, W => TgSt2 w W x.toArray (bC tag0) ∧ W.heap[w.heap.size]? = some (.cells x.toArray 103 (0, 0)) ∧ W.heap[g]? = some (.cells (tC t) 181 (0, 0))
 | _, W => TgSt2 w W x.toArray (bC bt) ∧ W.heap[w.heap.size]? = some (.cells x.toArray 103 (0, 0)) ∧ W.heap[g]? = some (.cells (tC t) 181 (0, 0))
theorem TgC.rest {w W : World} {x : List Value} {bt : List UInt8} {g k : Nat} {t : T3} (h : TgC w x bt g t k W) : W.heap[w.heap.size]? = some (.cells x.toArray 103 (0, 0)) ∧ W.heap[g]? = some (.cells (tC t) 181 (0, 0)) := by
 match k, h with
 | 0, h => exact h.2
 | 1, h => exact h.2
 | 2, h => exact h.2
 | k + 3, h => exact h.2
theorem siz10T : (Tryz.prog.info? 40).map (·.size) = some 10 := by kernel_rfl
theorem inTag_any (q : Option Addr) (n c e : Nat) (l : List UInt8) (w : World) (h : RdOk w q n c l) : Calls Tryz.prog 54 #[.agg #[.slice q n c, .int .i64 (e : Int)]] w (TgP q n c (kT 12 e l) (tagIE e l) (tagIV e l) w) := by
 have HS0 := Lib.hid (TgSt.start w [.slice q n c, .int .i64 (e : Int)])
 have KT : Hid (∀ W, Below w.heap.size w W → Calls Tryz.prog 53 #[.agg #[.slice q n c, .int .i64 (e : Int)], .int .i64 12] W (InP q n c (kT 12 e l) (eT 12 e l) (.string ⟨(sT 12 e l).toArray⟩) W)) := fun W hW => inText_any q n c e 12 l W (h.below hW) (by omega)
 have hsl := sT_le 12 e l
 have KP : Hid (∀ W, Calls Tryz.prog 102 #[.string ⟨(sT 12 e l).toArray⟩] W fun e' w' => e' = .returned (.tuple #[.agg (tC (pR (sT 12 e l))), .bool (pB (sT 12 e l))]) ∧ Below W.heap.size W w') := fun W => by
   have := refParse5_any ⟨(sT 12 e l).toArray⟩ W (by show (sT 12 e l).toArray.size ≤ _; simp; omega)
   simpa using this
 have HE : Hid (tagIE e l = if e = 0 ∧ eT 12 e l = 0 ∧ tagOk (sT 12 e l) = false then 14 else eT 12 e l) := rfl
 have HV : Hid (tagIV e l = if tagIE e l = 0 then tagR (sT 12 e l) else tag0) := rfl
 have HEe : Hid (e ≠ 0 → eT 12 e l = e) := fun h => if_pos h
 clear h
 generalize tagIE e l = ie at *
 generalize tagIV e l = iv at *
 generalize eT 12 e l = e1 at *
 generalize kT 12 e l = k at *
 generalize sT 12 e l = s at *
 go_enter Tryz.func54, Tryz.ntmps54
 go_upto_region 1 with fail
 rw [show (Obj.cells #[Value.int .u8 0, .int .u8 0, .int .u8 0, .int .u8 0, .int .u8 0, .int .u8 0, .int .u8 0, .int .u8 0, .int .u8 0, .int .u8 0] 40) = Obj.cells (bC tag0) 40 from rfl]
 generalize ((w.alloc (.cells #[.slice q n c, .int .i64 (e : Int)] 103)).alloc (.cells #[.slice none 0 0, .int .i64 0] 103)).alloc (.cells (bC tag0) 40) = W1 at *
 have c1 : W1.cell? ⟨w.heap.size, 1, none⟩ = some (.int .i64 (e : Int)) := by rw [cell_blk HS0.out.x]; rfl
 have KT1 := Lib.hid (KT.out W1 HS0.out.bel)
 go_upto_region 4 with (first
   | ((with_reducible refine gate_ld 103 (.tmp 1) rfl ?_); refine wl_ldr rfl 103 _ rfl w.heap.size 0 [.slice q n c, .int .i64 (e : Int)] _ Tryz.underlying103 rfl (by rw [sizIn]; rfl) rfl (range_whole HS0.out.x) ?_)
   | (go_at_call 53; (refine KT1.out.mono ?_); rintro e' W2 ⟨rfl, hb2⟩; have HS2 := Lib.hid (HS0.out.below hb2); clear hb2)
   | ((with_reducible refine gate_st 103 _ _ rfl ?_); refine wl_stR rfl 103 _ _ rfl w.heap.size 0 [.slice (tq q c k) (n - k) (c - k), .int .i64 (e1 : Int)] (by rw [sizIn]; rfl) rfl rfl (fun u hu => by simp at hu; rcases hu with rfl | rfl <;> rfl) [.slice q n c, .int .i64 (e : Int)] 103 HS2.out.x (by simp) (fun W3 h1 h2 => ?_); have HS3 := Lib.hid (HS2.out.turned (a' := [.slice (tq q c k) (n - k) (c - k), .int .i64 (e1 : Int)]) h1 h2); clear h1 h2; try simp only [Act.put])
   | (go_at_call 102; (refine (KP.out _).mono ?_); rintro e' W4 ⟨rfl, hb4⟩; have HS4 := Lib.hid (HS3.out.below hb4); clear hb4)
   | ((with_reducible refine gate_st 181 _ _ rfl ?_); refine wl_strn rfl 181 _ _ rfl (tC (pR s)) (tC t30) _ siz23 rfl (tC_one _) (by simp [Act.eval]) rfl ?_))
 have HG5 : Hid ((W4.alloc (.cells (tC (pR s)) 181)).heap[W4.heap.size]? = some (.cells (tC (pR s)) 181 (0, 0))) := heap_alloc_new _ _
 have HS5 := Lib.hid (HS4.out.below (below_alloc1 W4 (.cells (tC (pR s)) 181)))
 have hg2 : w.heap.size + 1 + 1 < W4.heap.size := lt_heap HS4.out.t
 clear HS0 HS2 HS3 HS4 KT KT1 KP c1
 generalize W4.alloc (.cells (tC (pR s)) 181) = W5 at *
 generalize W4.heap.size = g at *
 try simp only [Act.put]
 have ca : W5.cell? ⟨w.heap.size, 1, none⟩ = some (.int .i64 (e1 : Int)) := by rw [cell_blk HS5.out.x]; rfl
 by_cases he : e = 0
 · subst he
   by_cases he1 : e1 = 0
   · subst he1
     cases hp : parseT s with
     | none =>
       have h1 := tagOk_none hp
       have hpb : pB s = false := by unfold pB; rw [hp]; rfl
       have HI : Hid (ie = 14) := by show _ = _; rw [HE.out, if_pos ⟨rfl, rfl, h1⟩]
       have HIv : Hid (iv = tag0) := by show _ = _; rw [HV.out, HI.out]; rfl
       rw [hpb]
       clear hp h1 hpb HE HV HEe
       go_wp2_with (first
         | ((with_reducible refine gate_st 3 _ _ rfl ?_); refine wl_st1G rfl 3 sizI1 _ _ rfl w.heap.size 1 (.int .i64 14) rfl rfl rfl [.slice (tq q c k) (n - k) (c - k), .int .i64 ((0 : Nat) : Int)] [.slice (tq q c k) (n - k) (c - k), .int .i64 (14 : Int)] _ HS5.out.x (by simp) rfl (fun W7 h1 h2 => ?_); have HS7 := Lib.hid (HS5.out.turned (a' := [.slice (tq q c k) (n - k) (c - k), .int .i64 (14 : Int)]) h1 h2); clear h1 h2; have ca7 : W7.cell? ⟨w.heap.size, 1, none⟩ = some (.int .i64 14) := (by rw [cell_blk HS7.out.x]; rfl); try simp only [Act.put])
         | ((with_reducible refine gate_ld 103 (.tmp 1) rfl ?_); refine wl_ldr rfl 103 _ rfl w.heap.size 0 [.slice (tq q c k) (n - k) (c - k), .int .i64 (14 : Int)] _ Tryz.underlying103 rfl (by rw [sizIn]; rfl) rfl (range_whole HS7.out.x) ?_)
         | ((with_reducible refine gate_bd 40 _ rfl ?_); refine wl_bd rfl _ [] rfl [] rfl (bC tag0) built10 ?_)
         | ((with_reducible refine gate_st 103 _ _ rfl ?_); refine wl_str rfl 103 _ _ rfl (w.heap.size + 1) [.slice (tq q c k) (n - k) (c - k), .int .i64 (14 : Int)].toArray #[.slice none 0 0, .int .i64 0] _ (by rw [sizIn]; rfl) rfl (by rw [← Array.all_toList]; rfl) rfl rfl HS7.out.r ?_; try simp only [Act.put])
         | ((with_reducible refine gate_st 40 _ _ rfl ?_); refine wl_str rfl 40 _ _ rfl (w.heap.size + 1 + 1) (bC tag0) (bC tag0) _ (by rw [siz10T]; rfl) rfl (bC_one _) rfl rfl ((setRow_other _ _ _ _ (by omega)).trans HS7.out.t) ?_; try simp only [Act.put]))
       refine bodyPost_ret (res_rowc2 (P := Tryz.prog) (T := 103) (T' := 103) (U := 40) (U' := 40) rfl _ _ (w.heap.size + 1) (w.heap.size + 1 + 1) [.slice (tq q c k) (n - k) (c - k), .int .i64 (14 : Int)].toArray (bC tag0) (0, 0) (0, 0) rfl ((setRow_other _ _ _ _ (by omega)).trans (setRow_at HS7.out.r)) Tryz.underlying103 rfl (by rw [sizIn]; rfl) rfl (setRow_at ((setRow_other _ _ _ _ (by omega)).trans HS7.out.t)) Tryz.underlying40 rfl (by rw [siz10T]; rfl)) rfl ⟨by rw [HI.out, HIv.out] <;> rfl, setRow_below (setRow_below HS7.out.bel (by omega) _) (by omega) _⟩
     | some t =>
       obtain ⟨h1, h2⟩ := tagOk_some hp
       have hpk := parse_known hp
       have hpb : pB s = true := by unfold pB; rw [hp]; rfl
       have hpr : pR s = t := by unfold pR; rw [hp]; rfl
       rw [hpb]
       rw [hpr] at HG5
       have KX := Lib.hid (fun W => text_any5 t W (by omega) (by omega) (by omega))
       have KB := Lib.hid (fun W => refBytes_any t W (by omega) (by omega) (by omega))
       have hlb := hpk.2.2.2.2.2
       by_cases heq : text5 t = s
       · have HI : Hid (ie = 0) := by
           show _ = _
           rw [HE.out, if_neg]
           rintro ⟨_, _, h3⟩
           rw [h1, heq] at h3
           simp at h3
         have HIv : Hid (iv = bytT t) := by show _ = _; rw [HV.out, HI.out, h2]; rfl
         have hbq : (text5 t == s) = true := by simp [heq]
         clear hp h1 h2 hpk hpb hpr HE HV HEe heq
         have HLb := Lib.hid hlb
         clear hlb
         generalize bytT t = bt at *
         go_upto_region 8 with (first
           | ((with_reducible refine gate_ld 181 (.tmp 6) rfl ?_); refine wl_ldr rfl 181 _ rfl g 0 (tC t).toList _ Tryz.underlying181 rfl (by rw [siz23]; rfl) rfl (range_whole (by simpa using HG5.out)) ?_; try simp only [Array.toArray_toList])
           | (go_at_call 103; (refine (KX.out _).mono ?_); rintro e' W6 ⟨rfl, hb6⟩; have HS6 := Lib.hid (HS5.out.below hb6); have HG6 := Lib.hid ((hb6.block _ (lt_heap HG5.out)).trans HG5.out); clear hb6; have ca6 : W6.cell? ⟨w.heap.size, 1, none⟩ = some (.int .i64 0) := (by rw [cell_blk HS6.out.x]; rfl)))
         refine wp_region_chain (TgC w [.slice (tq q c k) (n - k) (c - k), .int .i64 ((0 : Nat) : Int)] bt g t)
           [some (47, .agg [.slice (tq q c k) (n - k) (c - k), .int .i64 ((0 : Nat) : Int)].toArray), some (48, .agg (tC t).toList.toArray), some (49, .agg (bC bt)), none, none] [2, 3, 4]
           (by kernel_rfl) (by kernel_rfl) rfl (by simp) (by simp) (by decide) (by decide) (fun r hr => by have h2 : r + 1 < 3 := hr; obtain rfl | rfl : r = 0 ∨ r = 1 := (by omega); all_goals (show _ = true; kernel_rfl)) ⟨⟨HS6.out.bel.drew, HS6.out.r, HS6.out.t⟩, HS6.out.x, HG6.out⟩ ?_ ?_ ?_
         · intro i hi hE a w' kk hfr hdep hC hkk K hK
           have hi5 : i < 5 := hi
           have hR := TgC.rest hC
           obtain rfl | rfl : i = 0 ∨ i = 1 := by simp at hE; omega
           · exact wpOp_ldr rfl rfl 103 (.tmp 1) rfl w.heap.size 0 [.slice (tq q c k) (n - k) (c - k), .int .i64 ((0 : Nat) : Int)] _ Tryz.underlying103 rfl (by rw [sizIn]; rfl) (hfr.off 1 (by simp)) (range_whole hR.1) hK
           · exact wpOp_ldr rfl rfl 181 (.tmp 6) rfl g 0 (tC t).toList _ Tryz.underlying181 rfl (by rw [siz23]; rfl) (hfr.off 6 (by simp)) (range_whole (by simpa using hR.2)) hK
         · intro r hr a w' hfr hdep hC K hK
           have h3 : r < 3 := hr
           obtain rfl | rfl | rfl : r = 0 ∨ r = 1 ∨ r = 2 := by omega
           · have hx := hdep 1 (by kernel_rfl) 48 _ rfl
             refine wpOp_call rfl rfl (exec_calls rfl (enters_of Tryz.func104 (by kernel_rfl) rfl) (vs := #[.agg (tC t)]) (by simp [Act.eval, hx]) w') (KB.out w') (fun e' w2 hR => ?_)
             obtain ⟨rfl, hb⟩ := hR
             obtain ⟨⟨h1, h2, h4⟩, h5, h6⟩ := hC
             exact ⟨_, rfl, hK _ ⟨⟨h1.trans (hb.mono h1.size), (hb.block _ (lt_heap h2)).trans h2, (hb.block _ (lt_heap h4)).trans h4⟩, (hb.block _ (lt_heap h5)).trans h5, (hb.block _ (lt_heap h6)).trans h6⟩⟩
           · have hx := hdep 0 (by kernel_rfl) 47 _ rfl
             obtain ⟨⟨h1, h2, h4⟩, h5, h6⟩ := hC
             exact wpOp_skip rfl rfl (exec_str 103 (.tmp 2) (.tmp 47) rfl (w.heap.size + 1) ([.slice (tq q c k) (n - k) (c - k), .int .i64 ((0 : Nat) : Int)] : List Value).toArray #[.slice none 0 0, .int .i64 0] 103 (by rw [sizIn]; rfl) rfl (by rw [← Array.all_toList]; rfl) (hfr.off 2 (by simp)) (show a.eval (.tmp 47) = .agg ([.slice (tq q c k) (n - k) (c - k), .int .i64 ((0 : Nat) : Int)] : List Value).toArray from hx) h2) (hK _ ⟨⟨setRow_below h1 (by omega) _, setRow_at h2, (setRow_other _ _ _ _ (by omega)).trans h4⟩, (setRow_other _ _ _ _ (by omega)).trans h5, (setRow_other _ _ _ _ (by omega)).trans h6⟩)
           · have hx := hdep 2 (by kernel_rfl) 49 _ rfl
             obtain ⟨⟨h1, h2, h4⟩, h5, h6⟩ := hC
             exact wpOp_skip rfl rfl (exec_str 40 (.tmp 3) (.tmp 49) rfl (w.heap.size + 1 + 1) (bC bt) (bC tag0) 40 (by rw [siz10T, bC_size, HLb.out]) (by rw [bC_size, HLb.out]; rfl) (bC_one _) (hfr.off 3 (by simp)) hx h4) (hK _ ⟨⟨setRow_below h1 (by omega) _, (setRow_other _ _ _ _ (by omega)).trans h2, setRow_at h4⟩, (setRow_other _ _ _ _ (by omega)).trans h5, (setRow_other _ _ _ _ (by omega)).trans h6⟩)
         intro W7 hC7
         have HF : Hid (TgSt2 w W7 [.slice (tq q c k) (n - k) (c - k), .int .i64 ((0 : Nat) : Int)].toArray (bC bt)) := hC7.1
         clear hC7
         simp only [puts, List.filterMap_cons, List.filterMap_nil, _root_.id, wrT]
         go_wp2_with fail
         refine bodyPost_ret (res_rowc2 (P := Tryz.prog) (T := 103) (T' := 103) (U := 40) (U' := 40) rfl _ _ (w.heap.size + 1) (w.heap.size + 1 + 1) [.slice (tq q c k) (n - k) (c - k), .int .i64 ((0 : Nat) : Int)].toArray (bC bt) (0, 0) (0, 0) rfl HF.out.r Tryz.underlying103 rfl (by rw [sizIn]; rfl) rfl HF.out.t Tryz.underlying40 rfl (by rw [siz10T, bC_size, HLb.out])) rfl ⟨by rw [HI.out, HIv.out] <;> rfl, HF.out.bel⟩
       · have HI : Hid (ie = 14) := by show _ = _; rw [HE.out, if_pos ⟨rfl, rfl, by rw [h1]; simpa using heq⟩]
         have HIv : Hid (iv = tag0) := by show _ = _; rw [HV.out, HI.out]; rfl
         have hbq : (text5 t == s) = false := by simpa using heq
         clear hp h1 h2 hpk hpb hpr HE HV HEe heq hlb KB
         go_wp2_with (first
           | ((with_reducible refine gate_ld 181 (.tmp 6) rfl ?_); refine wl_ldr rfl 181 _ rfl g 0 (tC t).toList _ Tryz.underlying181 rfl (by rw [siz23]; rfl) rfl (range_whole (by simpa using HG5.out)) ?_; try simp only [Array.toArray_toList])
           | (go_at_call 103; (refine (KX.out _).mono ?_); rintro e' W6 ⟨rfl, hb6⟩; have HS6 := Lib.hid (HS5.out.below hb6); clear hb6)
           | ((with_reducible refine gate_st 3 _ _ rfl ?_); refine wl_st1G rfl 3 sizI1 _ _ rfl w.heap.size 1 (.int .i64 14) rfl rfl rfl [.slice (tq q c k) (n - k) (c - k), .int .i64 ((0 : Nat) : Int)] [.slice (tq q c k) (n - k) (c - k), .int .i64 (14 : Int)] _ HS6.out.x (by simp) rfl (fun W7 h1 h2 => ?_); have HS7 := Lib.hid (HS6.out.turned (a' := [.slice (tq q c k) (n - k) (c - k), .int .i64 (14 : Int)]) h1 h2); clear h1 h2; have ca7 : W7.cell? ⟨w.heap.size, 1, none⟩ = some (.int .i64 14) := (by rw [cell_blk HS7.out.x]; rfl); try simp only [Act.put])
           | ((with_reducible refine gate_ld 103 (.tmp 1) rfl ?_); refine wl_ldr rfl 103 _ rfl w.heap.size 0 [.slice (tq q c k) (n - k) (c - k), .int .i64 (14 : Int)] _ Tryz.underlying103 rfl (by rw [sizIn]; rfl) rfl (range_whole HS7.out.x) ?_)
           | ((with_reducible refine gate_bd 40 _ rfl ?_); refine wl_bd rfl _ [] rfl [] rfl (bC tag0) built10 ?_)
           | ((with_reducible refine gate_st 103 _ _ rfl ?_); refine wl_str rfl 103 _ _ rfl (w.heap.size + 1) [.slice (tq q c k) (n - k) (c - k), .int .i64 (14 : Int)].toArray #[.slice none 0 0, .int .i64 0] _ (by rw [sizIn]; rfl) rfl (by rw [← Array.all_toList]; rfl) rfl rfl HS7.out.r ?_; try simp only [Act.put])
           | ((with_reducible refine gate_st 40 _ _ rfl ?_); refine wl_str rfl 40 _ _ rfl (w.heap.size + 1 + 1) (bC tag0) (bC tag0) _ (by rw [siz10T]; rfl) rfl (bC_one _) rfl rfl ((setRow_other _ _ _ _ (by omega)).trans HS7.out.t) ?_; try simp only [Act.put]))
         refine bodyPost_ret (res_rowc2 (P := Tryz.prog) (T := 103) (T' := 103) (U := 40) (U' := 40) rfl _ _ (w.heap.size + 1) (w.heap.size + 1 + 1) [.slice (tq q c k) (n - k) (c - k), .int .i64 (14 : Int)].toArray (bC tag0) (0, 0) (0, 0) rfl ((setRow_other _ _ _ _ (by omega)).trans (setRow_at HS7.out.r)) Tryz.underlying103 rfl (by rw [sizIn]; rfl) rfl (setRow_at ((setRow_other _ _ _ _ (by omega)).trans HS7.out.t)) Tryz.underlying40 rfl (by rw [siz10T]; rfl)) rfl ⟨by rw [HI.out, HIv.out] <;> rfl, setRow_below (setRow_below HS7.out.bel (by omega) _) (by omega) _⟩
   · have HI : Hid (ie = e1) := by show _ = _; rw [HE.out, if_neg fun h => he1 h.2.1]
     have HIv : Hid (iv = tag0) := by show _ = _; rw [HV.out, HI.out, if_neg he1]
     have h2' : ((e1 : Int) == 0) = false := by simpa using he1
     have h3' : ((e1 : Int) != 0) = true := by simpa using he1
     clear HE HV HEe he1
     go_wp2_with (first
       | ((with_reducible refine gate_ld 103 (.tmp 1) rfl ?_); refine wl_ldr rfl 103 _ rfl w.heap.size 0 [.slice (tq q c k) (n - k) (c - k), .int .i64 (e1 : Int)] _ Tryz.underlying103 rfl (by rw [sizIn]; rfl) rfl (range_whole HS5.out.x) ?_)
       | ((with_reducible refine gate_bd 40 _ rfl ?_); refine wl_bd rfl _ [] rfl [] rfl (bC tag0) built10 ?_)
       | ((with_reducible refine gate_st 103 _ _ rfl ?_); refine wl_str rfl 103 _ _ rfl (w.heap.size + 1) [.slice (tq q c k) (n - k) (c - k), .int .i64 (e1 : Int)].toArray #[.slice none 0 0, .int .i64 0] _ (by rw [sizIn]; rfl) rfl (by rw [← Array.all_toList]; rfl) rfl rfl HS5.out.r ?_; try simp only [Act.put])
       | ((with_reducible refine gate_st 40 _ _ rfl ?_); refine wl_str rfl 40 _ _ rfl (w.heap.size + 1 + 1) (bC tag0) (bC tag0) _ (by rw [siz10T]; rfl) rfl (bC_one _) rfl rfl ((setRow_other _ _ _ _ (by omega)).trans HS5.out.t) ?_; try simp only [Act.put]))
     refine bodyPost_ret (res_rowc2 (P := Tryz.prog) (T := 103) (T' := 103) (U := 40) (U' := 40) rfl _ _ (w.heap.size + 1) (w.heap.size + 1 + 1) [.slice (tq q c k) (n - k) (c - k), .int .i64 (e1 : Int)].toArray (bC tag0) (0, 0) (0, 0) rfl ((setRow_other _ _ _ _ (by omega)).trans (setRow_at HS5.out.r)) Tryz.underlying103 rfl (by rw [sizIn]; rfl) rfl (setRow_at ((setRow_other _ _ _ _ (by omega)).trans HS5.out.t)) Tryz.underlying40 rfl (by rw [siz10T]; rfl)) rfl ⟨by rw [HI.out, HIv.out] <;> rfl, setRow_below (setRow_below HS5.out.bel (by omega) _) (by omega) _⟩
 · have hee := HEe.out he
   have HI : Hid (ie = e1) := by show _ = _; rw [HE.out, if_neg fun h => he h.1]
   have he1 : e1 ≠ 0 := by rw [hee]; exact he
   have HIv : Hid (iv = tag0) := by show _ = _; rw [HV.out, HI.out, if_neg he1]
   have h2' : ((e : Int) == 0) = false := by simpa using he
   have h3' : ((e1 : Int) != 0) = true := by simpa using he1
   clear HE HV HEe he1 he hee
   go_wp2_with (first
     | ((with_reducible refine gate_ld 103 (.tmp 1) rfl ?_); refine wl_ldr rfl 103 _ rfl w.heap.size 0 [.slice (tq q c k) (n - k) (c - k), .int .i64 (e1 : Int)] _ Tryz.underlying103 rfl (by rw [sizIn]; rfl) rfl (range_whole HS5.out.x) ?_)
     | ((with_reducible refine gate_bd 40 _ rfl ?_); refine wl_bd rfl _ [] rfl [] rfl (bC tag0) built10 ?_)
     | ((with_reducible refine gate_st 103 _ _ rfl ?_); refine wl_str rfl 103 _ _ rfl (w.heap.size + 1) [.slice (tq q c k) (n - k) (c - k), .int .i64 (e1 : Int)].toArray #[.slice none 0 0, .int .i64 0] _ (by rw [sizIn]; rfl) rfl (by rw [← Array.all_toList]; rfl) rfl rfl HS5.out.r ?_; try simp only [Act.put])
     | ((with_reducible refine gate_st 40 _ _ rfl ?_); refine wl_str rfl 40 _ _ rfl (w.heap.size + 1 + 1) (bC tag0) (bC tag0) _ (by rw [siz10T]; rfl) rfl (bC_one _) rfl rfl ((setRow_other _ _ _ _ (by omega)).trans HS5.out.t) ?_; try simp only [Act.put]))
   refine bodyPost_ret (res_rowc2 (P := Tryz.prog) (T := 103) (T' := 103) (U := 40) (U' := 40) rfl _ _ (w.heap.size + 1) (w.heap.size + 1 + 1) [.slice (tq q c k) (n - k) (c - k), .int .i64 (e1 : Int)].toArray (bC tag0) (0, 0) (0, 0) rfl ((setRow_other _ _ _ _ (by omega)).trans (setRow_at HS5.out.r)) Tryz.underlying103 rfl (by rw [sizIn]; rfl) rfl (setRow_at ((setRow_other _ _ _ _ (by omega)).trans HS5.out.t)) Tryz.underlying40 rfl (by rw [siz10T]; rfl)) rfl ⟨by rw [HI.out, HIv.out] <;> rfl, setRow_below (setRow_below HS5.out.bel (by omega) _) (by omega) _⟩
end Go.Proofs.YtbfefdedjcppaaaGreatDoor

/- vulgateref02: Less, Same at bytes that are alike. -/
namespace Go.Proofs.YtbfefdedjcppaaaGreatDoor
set_option maxRecDepth 100000
set_option maxHeartbeats 4000000
open Go.RowKit
theorem sizU8 : (Tryz.prog.info? 5).map (·.size) = some 1 := by kernel_rfl
theorem ag5u (w : World) : (isAgg 5).run Tryz.prog w = .ok false w := by simp [isAgg, run_underlying Tryz.underlying5]
theorem exec_ixU {o : Oper} {a : Act} {w : World} (x y : Operand) (ho : o.op = .indexAddr 22 x y) (b f : Nat) (n c j : Nat) (hx : a.eval x = .slice (some ⟨b, f, none⟩) n c) (hy : a.eval y = .int .i64 (j : Int)) (hj : j < n) : (execOp a.eval o).run Tryz.prog w = .ok (.value (.pointer (some ⟨b, f + j * 1, none⟩))) w := by
 have hq := sizU8
 cases hq2 : Tryz.prog.info? 5 with
 | none => simp [hq2] at hq
 | some i =>
   have hs : i.size = 1 := by simpa [hq2] using hq
   unfold execOp
   simp only [ho, hx, hy]
   simp [go_sem, Tryz.underlying22, sizeOf, typeInfo, hq2, hs, hj]
theorem exec_neU {o : Oper} {a : Act} {w : World} (x y : Operand) (ho : o.op = .binOp .neq 5 x y 5) (u : UInt8) (hx : a.eval x = .int .u8 (u.toNat : Int)) (hy : a.eval y = .int .u8 (u.toNat : Int)) : (execOp a.eval o).run Tryz.prog w = .ok (.value (.bool false)) w := by
 unfold execOp
 simp only [ho, hx, hy]
 simp [go_sem]
theorem lessSelf_any (q q' : Option Addr) (n c c' : Nat) (xs : List UInt8) (w : World) (hn : xs.length = n) (hq : SlAt byteC 1 w q xs) (hq' : SlAt byteC 1 w q' xs) (hsz : n ≤ 1000000) : Calls Tryz.prog 46 #[.slice q n c, .slice q' n c'] w fun e w' => e = .returned (.bool false) ∧ Below w.heap.size w w' := by
 have HN := Lib.hid hn
 have HQ := Lib.hid hq
 have HQ' := Lib.hid hq'
 clear hn hq hq'
 go_enter Tryz.func46, Tryz.ntmps46
 go_wp2_with fail
 go_loopw [5] (fun i wr => ∃ k : Nat, k ≤ n ∧ i = .int .i64 (k : Int) ∧ Hid (Below w.heap.size w wr)) (fun i _ => n - (intOf i).toNat)
 case atStart => exact ⟨0, Nat.zero_le _, rfl, Below.refl _ _⟩
 case round =>
   obtain ⟨k, hk, rfl, HB⟩ := hrel
   by_cases hlt : k < n
   · have hlx : k < xs.length := by rw [HN.out]; exact hlt
     have hlt' : (k : Int) < (n : Int) := by omega
     have hge : ¬ (n : Int) ≤ (k : Int) := by omega
     obtain ⟨b0, o0, rfl, hb0, hr0⟩ := (HQ.out.below HB.out) k hlx
     obtain ⟨b1, o1, rfl, hb1, hr1⟩ := (HQ'.out.below HB.out) k hlx
     have hx0 := hr0 0 (.int .u8 ((xs[k]).toNat : Int)) rfl
     have hx1 := hr1 0 (.int .u8 ((xs[k]).toNat : Int)) rfl
     rw [Nat.add_zero] at hx0 hx1
     generalize xs[k] = x at *
     have HX0 := Lib.hid hx0
     have HX1 := Lib.hid hx1
     clear hr0 hr1 hb0 hb1 hx0 hx1
     go_upto_region 6 with fail
     have hS : wr.drew.cell? ⟨b0, o0 + k * 1, none⟩ = some (.int .u8 (x.toNat : Int)) ∧ wr.drew.cell? ⟨b1, o1 + k * 1, none⟩ = some (.int .u8 (x.toNat : Int)) := ⟨HX0.out, HX1.out⟩
     refine wp_region_held_drew (S := fun W => W.cell? ⟨b0, o0 + k * 1, none⟩ = some (.int .u8 (x.toNat : Int)) ∧ W.cell? ⟨b1, o1 + k * 1, none⟩ = some (.int .u8 (x.toNat : Int))) (by kernel_rfl) hS (fun hH => ?_)
     · show wpAnyH Tryz.prog Region.Mode.any _ _ _ 9 #[false, false, false, false, false, false, false, false, false] _ _
       refine takeR (i := 0) (v := .slice (some ⟨b0, o0, none⟩) n c) 16 rfl rfl (by kernel_rfl) (by kernel_rfl) (by kernel_rfl) (fun _ _ _ h => h) (Or.inl ⟨rfl, fun w' hS => exec_mvT (.tmp 0) rfl _ rfl⟩) hH ?_
       simp only [Act.put, wrT]
       refine takeR (i := 1) (v := .int .i64 (k : Int)) 17 rfl rfl (by kernel_rfl) (by kernel_rfl) (by kernel_rfl) (fun _ _ _ h => h) (Or.inl ⟨rfl, fun w' hS => exec_mvT (.tmp 5) rfl _ rfl⟩) hH ?_
       simp only [Act.put, wrT]
       refine takeR (i := 2) (v := .pointer (some ⟨b0, o0 + k * 1, none⟩)) 18 rfl rfl (by kernel_rfl) (by kernel_rfl) (by kernel_rfl) (fun _ _ _ h => h) (Or.inl ⟨rfl, fun w' hS => exec_ixU (.tmp 16) (.tmp 17) rfl b0 o0 n _ k rfl rfl hlt⟩) hH ?_
       simp only [Act.put, wrT]
       refine takeR (i := 3) (v := .int .u8 (x.toNat : Int)) 19 rfl rfl (by kernel_rfl) (by kernel_rfl) (by kernel_rfl) (fun _ _ _ h => h) (Or.inl ⟨rfl, fun w' hS => exec_ld1G 5 ag5u _ rfl b0 (o0 + k * 1) _ rfl hS.1⟩) hH ?_
       simp only [Act.put, wrT]
       refine takeR (i := 4) (v := .slice (some ⟨b1, o1, none⟩) n c') 20 rfl rfl (by kernel_rfl) (by kernel_rfl) (by kernel_rfl) (fun _ _ _ h => h) (Or.inl ⟨rfl, fun w' hS => exec_mvT (.tmp 1) rfl _ rfl⟩) hH ?_
       simp only [Act.put, wrT]
       refine takeR (i := 5) (v := .int .i64 (k : Int)) 21 rfl rfl (by kernel_rfl) (by kernel_rfl) (by kernel_rfl) (fun _ _ _ h => h) (Or.inl ⟨rfl, fun w' hS => exec_mvT (.tmp 5) rfl _ rfl⟩) hH ?_
       simp only [Act.put, wrT]
       refine takeR (i := 6) (v := .pointer (some ⟨b1, o1 + k * 1, none⟩)) 22 rfl rfl (by kernel_rfl) (by kernel_rfl) (by kernel_rfl) (fun _ _ _ h => h) (Or.inl ⟨rfl, fun w' hS => exec_ixU (.tmp 20) (.tmp 21) rfl b1 o1 n _ k rfl rfl hlt⟩) hH ?_
       simp only [Act.put, wrT]
       refine takeR (i := 7) (v := .int .u8 (x.toNat : Int)) 23 rfl rfl (by kernel_rfl) (by kernel_rfl) (by kernel_rfl) (fun _ _ _ h => h) (Or.inl ⟨rfl, fun w' hS => exec_ld1G 5 ag5u _ rfl b1 (o1 + k * 1) _ rfl hS.2⟩) hH ?_
       simp only [Act.put, wrT]
       refine takeR (i := 8) (v := .bool false) 24 rfl rfl (by kernel_rfl) (by kernel_rfl) (by kernel_rfl) (fun _ _ _ h => h) (Or.inl ⟨rfl, fun w' hS => exec_neU (.tmp 19) (.tmp 23) rfl x rfl rfl⟩) hH ?_
       simp only [Act.put, wrT]
       refine wpAnyH_done (by kernel_rfl) ?_ _
       try simp only [Act.put, rdT, wrT]
       have HBd : Hid (Below w.heap.size w wr.drew) := HB.out.drew
       clear hS hH
       go_wp2_with fail
       go_roundw
       case rel => exact ⟨k + 1, by omega, by simp, HBd.out⟩
       case measure => simp [intOf]; omega
   · obtain rfl : k = n := by omega
     go_wp2_with fail
     go_ret
     exact ⟨rfl, HB.out⟩
theorem sameSelf_any (q q' : Option Addr) (n c c' : Nat) (xs : List UInt8) (w : World) (hn : xs.length = n) (hq : SlAt byteC 1 w q xs) (hq' : SlAt byteC 1 w q' xs) (hsz : n ≤ 1000000) : Calls Tryz.prog 12 #[.slice q n c, .slice q' n c'] w fun e w' => e = .returned (.bool true) ∧ Below w.heap.size w w' := by
 have K1 := Lib.hid (lessSelf_any q q' n c c' xs w hn hq hq' hsz)
 have K2 : Hid (∀ W, Below w.heap.size w W → Calls Tryz.prog 46 #[.slice q' n c', .slice q n c] W fun e w' => e = .returned (.bool false) ∧ Below W.heap.size W w') := fun W hW => lessSelf_any q' q n c' c xs W hn (hq'.below hW) (hq.below hW) hsz
 clear hq hq' hn
 go_enter Tryz.func12, Tryz.ntmps12
 go_wp2_with (first
   | (go_at_call 46; (with_reducible refine (K2.out _ HB1.out).mono ?_); rintro e W2 ⟨rfl, hb⟩; have HB2 := Lib.hid (HB1.out.trans (hb.mono HB1.out.size)); clear hb)
   | (go_at_call 46; (with_reducible refine K1.out.mono ?_); rintro e W1 ⟨rfl, hb⟩; have HB1 := Lib.hid hb; clear hb))
 go_ret
 exact ⟨rfl, HB2.out⟩
end Go.Proofs.YtbfefdedjcppaaaGreatDoor

/- vulgateref06.Read: the parts of 25 bytes. -/
namespace Go.Proofs.YtbfefdedjcppaaaGreatDoor
set_option maxRecDepth 100000
set_option maxHeartbeats 8000000
open Go.RowKit
def rkH (b : List UInt8) : List Value := [.int .i64 ((b.getD 0 0).toNat : Int), .int .i64 ((b.getD 1 0).toNat : Int), .int .i64 ((b.getD 2 0).toNat : Int)]
def rkM (b : List UInt8) (m : Nat) : List Value := rkH b ++ (bC ((b.drop 3).take m ++ List.replicate (22 - m) 0)).toList
def rkR (b : List UInt8) : List Value := rkH b ++ (bC (b.drop 3)).toList
theorem rkM_step (b : List UInt8) (hb : b.length = 25) (m : Nat) (hm : m < 22) : (rkM b m).take (3 + m) ++ [.int .u8 ((b.getD (3 + m) 0).toNat : Int)] ++ (rkM b m).drop (3 + m + 1) = rkM b (m + 1) := by
 obtain ⟨a0, a1, a2, a3, a4, a5, a6, a7, a8, a9, a10, a11, a12, a13, a14, a15, a16, a17, a18, a19, a20, a21, a22, a23, a24, rfl⟩ := Kx.list25 b hb
 match m, hm with
 | 0, _ => rfl
 | 1, _ => rfl
 | 2, _ => rfl
 | 3, _ => rfl
 | 4, _ => rfl
 | 5, _ => rfl
 | 6, _ => rfl
 | 7, _ => rfl
 | 8, _ => rfl
 | 9, _ => rfl
 | 10, _ => rfl
 | 11, _ => rfl
 | 12, _ => rfl
 | 13, _ => rfl
 | 14, _ => rfl
 | 15, _ => rfl
 | 16, _ => rfl
 | 17, _ => rfl
 | 18, _ => rfl
 | 19, _ => rfl
 | 20, _ => rfl
 | 21, _ => rfl
 | m + 22, h => exact absurd h (by omega)
theorem rkM_len (b : List UInt8) (hb : b.length = 25) (m : Nat) (hm : m ≤ 22) : (rkM b m).length = 25 := by
 simp [rkM, rkH, bC, hb]; omega
theorem rkM_all (b : List UInt8) (hb : b.length = 25) : rkM b 22 = rkR b := by
 unfold rkM rkR
 rw [List.take_of_length_le (by rw [List.length_drop]; omega)]
 simp
theorem rkR_len (b : List UInt8) (hb : b.length = 25) : (rkR b).length = 25 := by rw [← rkM_all b hb]; exact rkM_len b hb 22 (Nat.le_refl _)
theorem rkR_one (b : List UInt8) : (rkR b).all (·.oneCell') = true := by
 simp only [rkR, List.all_append, bC_all, Bool.and_true]; rfl
theorem sizR44 : (Tryz.prog.info? 44).map (·.size) = some 25 := by kernel_rfl
theorem builtRK (x y z : Int) : Tryz.prog.built 44 [(0, .int .i64 x), (1, .int .i64 y), (2, .int .i64 z)] = some ([Value.int .i64 x, .int .i64 y, .int .i64 z] ++ (bC (List.replicate 22 0)).toList).toArray := by kernel_rfl
structure RkSt (w W : World) (b : List UInt8) (m : Nat) : Prop where
 bel : Below w.heap.size w W
 src : W.heap[w.heap.size]? = some (.cells (bC b) 108 (0, 0))
 res : W.heap[w.heap.size + 1]? = some (.cells #[Value.int .i64 0, .int .i64 0, .int .i64 0, .int .u8 0, .int .u8 0, .int .u8 0, .int .u8 0, .int .u8 0, .int .u8 0, .int .u8 0, .int .u8 0, .int .u8 0, .int .u8 0, .int .u8 0, .int .u8 0, .int .u8 0, .int .u8 0, .int .u8 0, .int .u8 0, .int .u8 0, .int .u8 0, .int .u8 0, .int .u8 0, .int .u8 0, .int .u8 0] 44 (0, 0))
 dst : W.heap[w.heap.size + 1 + 1]? = some (.cells (rkM b m).toArray 44 (0, 0))
theorem RkSt.step {w W W' : World} {b : List UInt8} {m m' : Nat} (h : RkSt w W b m) (hd : W'.heap[w.heap.size + 1 + 1]? = some (.cells (rkM b m').toArray 44 (0, 0))) (ht : Turn [w.heap.size + 1 + 1] W W') : RkSt w W' b m' := by
 have hk : ∀ k, k < W.heap.size → k ≠ w.heap.size + 1 + 1 → W'.heap[k]? = W.heap[k]? := fun k a b => ht.block k a (by simpa using b)
 exact ⟨h.bel.trans (ht.below (fun k hk => by simp at hk; omega) h.bel.size), (hk _ (lt_heap h.src) (by omega)).trans h.src, (hk _ (lt_heap h.res) (by omega)).trans h.res, hd⟩
theorem read06_any (b : List UInt8) (hb : b.length = 25) (w : World) : Calls Tryz.prog 35 #[.agg (bC b)] w fun e w' => e = .returned (.agg (rkR b).toArray) ∧ Below w.heap.size w w' := by
 have HG0 : Hid (((w.alloc (.cells (bC b) 108)).alloc (.cells #[Value.int .i64 0, .int .i64 0, .int .i64 0, .int .u8 0, .int .u8 0, .int .u8 0, .int .u8 0, .int .u8 0, .int .u8 0, .int .u8 0, .int .u8 0, .int .u8 0, .int .u8 0, .int .u8 0, .int .u8 0, .int .u8 0, .int .u8 0, .int .u8 0, .int .u8 0, .int .u8 0, .int .u8 0, .int .u8 0, .int .u8 0, .int .u8 0, .int .u8 0] 44)).heap[w.heap.size]? = some (.cells (bC b) 108 (0, 0))) := heap_alloc2_old _ _ _
 have HG1 : Hid (((w.alloc (.cells (bC b) 108)).alloc (.cells #[Value.int .i64 0, .int .i64 0, .int .i64 0, .int .u8 0, .int .u8 0, .int .u8 0, .int .u8 0, .int .u8 0, .int .u8 0, .int .u8 0, .int .u8 0, .int .u8 0, .int .u8 0, .int .u8 0, .int .u8 0, .int .u8 0, .int .u8 0, .int .u8 0, .int .u8 0, .int .u8 0, .int .u8 0, .int .u8 0, .int .u8 0, .int .u8 0, .int .u8 0] 44)).heap[w.heap.size + 1]? = some (.cells #[Value.int .i64 0, .int .i64 0, .int .i64 0, .int .u8 0, .int .u8 0, .int .u8 0, .int .u8 0, .int .u8 0, .int .u8 0, .int .u8 0, .int .u8 0, .int .u8 0, .int .u8 0, .int .u8 0, .int .u8 0, .int .u8 0, .int .u8 0, .int .u8 0, .int .u8 0, .int .u8 0, .int .u8 0, .int .u8 0, .int .u8 0, .int .u8 0, .int .u8 0] 44 (0, 0))) := heap_alloc2_new _ _ _
 have HB1 : Hid (Below w.heap.size w ((w.alloc (.cells (bC b) 108)).alloc (.cells #[Value.int .i64 0, .int .i64 0, .int .i64 0, .int .u8 0, .int .u8 0, .int .u8 0, .int .u8 0, .int .u8 0, .int .u8 0, .int .u8 0, .int .u8 0, .int .u8 0, .int .u8 0, .int .u8 0, .int .u8 0, .int .u8 0, .int .u8 0, .int .u8 0, .int .u8 0, .int .u8 0, .int .u8 0, .int .u8 0, .int .u8 0, .int .u8 0, .int .u8 0] 44))) := below_alloc2 _ _ _
 have HSz : Hid (((w.alloc (.cells (bC b) 108)).alloc (.cells #[Value.int .i64 0, .int .i64 0, .int .i64 0, .int .u8 0, .int .u8 0, .int .u8 0, .int .u8 0, .int .u8 0, .int .u8 0, .int .u8 0, .int .u8 0, .int .u8 0, .int .u8 0, .int .u8 0, .int .u8 0, .int .u8 0, .int .u8 0, .int .u8 0, .int .u8 0, .int .u8 0, .int .u8 0, .int .u8 0, .int .u8 0, .int .u8 0, .int .u8 0] 44)).heap.size = w.heap.size + 1 + 1) := by show _ = _; simp
 have H25 := Lib.hid hb
 have HC : Hid (∀ W : World, W.heap[w.heap.size]? = some (.cells (bC b) 108 (0, 0)) → ∀ i, i < 25 → W.cell? ⟨w.heap.size, i, none⟩ = some (.int .u8 ((b.getD i 0).toNat : Int))) := fun W h i hi => by
   rw [cell_blk h, bC_get b i (by omega), List.getD_eq_getElem?_getD, List.getElem?_eq_getElem (by omega)]
   rfl
 clear hb
 go_enter Tryz.func35, Tryz.ntmps35
 go_upto_region 1 with fail
 generalize (w.alloc (.cells (bC b) 108)).alloc (.cells #[Value.int .i64 0, .int .i64 0, .int .i64 0, .int .u8 0, .int .u8 0, .int .u8 0, .int .u8 0, .int .u8 0, .int .u8 0, .int .u8 0, .int .u8 0, .int .u8 0, .int .u8 0, .int .u8 0, .int .u8 0, .int .u8 0, .int .u8 0, .int .u8 0, .int .u8 0, .int .u8 0, .int .u8 0, .int .u8 0, .int .u8 0, .int .u8 0, .int .u8 0] 44) = W1 at *
 have c0 := HC.out W1 HG0.out 0 (by omega)
 have c1 := HC.out W1 HG0.out 1 (by omega)
 have c2 := HC.out W1 HG0.out 2 (by omega)
 have HH : Hid (rkM b 0 = [Value.int .i64 ((b.getD 0 0).toNat : Int), .int .i64 ((b.getD 1 0).toNat : Int), .int .i64 ((b.getD 2 0).toNat : Int)] ++ (bC (List.replicate 22 0)).toList) := rfl
 have H0 := Lib.hid (rkM_len b H25.out 0 (by omega))
 have wv : ∀ x : UInt8, IntKind.i64.wrap (x.toNat : Int) = (x.toNat : Int) := fun x => by have : x.toNat < 256 := x.toNat_lt; simp [IntKind.wrap, IntKind.bits, IntKind.signed]; omega
 have w0 := wv (b.getD 0 0)
 have w1 := wv (b.getD 1 0)
 have w2 := wv (b.getD 2 0)
 clear wv
 generalize b.getD 0 0 = x0 at *
 generalize b.getD 1 0 = x1 at *
 generalize b.getD 2 0 = x2 at *
 have hbt := builtRK (x0.toNat : Int) (x1.toNat : Int) (x2.toNat : Int)
 rw [← HH.out] at hbt
 go_upto_region 2 with (first
   | ((with_reducible refine gate_bd 44 _ rfl ?_); refine wl_bd rfl _ [(0, .tmp 8), (1, .tmp 11), (2, .tmp 14)] rfl [(0, .int .i64 (x0.toNat : Int)), (1, .int .i64 (x1.toNat : Int)), (2, .int .i64 (x2.toNat : Int))] rfl (rkM b 0).toArray hbt ?_)
   | ((with_reducible refine gate_st 44 _ _ rfl ?_); refine wl_strn rfl 44 _ _ rfl (rkM b 0).toArray #[Value.int IntKind.i64 0, Value.int IntKind.i64 0, Value.int IntKind.i64 0, Value.int IntKind.u8 0, Value.int IntKind.u8 0, Value.int IntKind.u8 0, Value.int IntKind.u8 0, Value.int IntKind.u8 0, Value.int IntKind.u8 0, Value.int IntKind.u8 0, Value.int IntKind.u8 0, Value.int IntKind.u8 0, Value.int IntKind.u8 0, Value.int IntKind.u8 0, Value.int IntKind.u8 0, Value.int IntKind.u8 0, Value.int IntKind.u8 0, Value.int IntKind.u8 0, Value.int IntKind.u8 0, Value.int IntKind.u8 0, Value.int IntKind.u8 0, Value.int IntKind.u8 0, Value.int IntKind.u8 0, Value.int IntKind.u8 0, Value.int IntKind.u8 0] _ (by rw [sizR44, List.size_toArray, H0.out]) (by rw [List.size_toArray, H0.out]; rfl) (by rw [← Array.all_toList, HH.out, List.all_append, bC_all]; rfl) (by simp [Act.eval]) rfl ?_))
 have HS0 : Hid (RkSt w (W1.alloc (.cells (rkM b 0).toArray 44)) b 0) := by
   have hba := below_alloc1 W1 (.cells (rkM b 0).toArray 44)
   refine ⟨HB1.out.trans (hba.mono HB1.out.size), (hba.block _ (lt_heap HG0.out)).trans HG0.out, (hba.block _ (lt_heap HG1.out)).trans HG1.out, ?_⟩
   rw [← HSz.out]
   exact heap_alloc_new W1 _
 clear c0 c1 c2 w0 w1 w2 hbt HG0 HG1 HB1 HH H0
 try simp only [Act.put]
 generalize W1.alloc (.cells (rkM b 0).toArray 44) = W2 at *
 rw [HSz.out]
 clear HSz
 go_wp2_with fail
 go_loopw [4] (fun i wr => ∃ k : Nat, k ≤ 12 ∧ i = .int .i64 (k : Int) ∧ Hid (RkSt w wr b k)) (fun i _ => 12 - (intOf i).toNat)
 case atStart => exact ⟨0, Nat.zero_le _, rfl, HS0.out⟩
 case round =>
   obtain ⟨k, hk, rfl, HS⟩ := hrel
   clear HS0
   by_cases hlt : k < 12
   · have hlt' : (k : Int) < 12 := by omega
     have hc : wr.cell? ⟨w.heap.size, 3 + k, none⟩ = some (.int .u8 ((b.getD (3 + k) 0).toNat : Int)) := HC.out wr HS.out.src (3 + k) (by omega)
     have HSt := Lib.hid (rkM_step b H25.out k (by omega))
     have HLn := Lib.hid (rkM_len b H25.out k (by omega))
     have hw3 : IntKind.i64.wrap ((3 : Int) + (k : Int)) = ((3 + k : Nat) : Int) := by simp [IntKind.wrap, IntKind.bits, IntKind.signed]; omega
     have h3l : ((3 + k : Nat) : Int) < 25 := by omega
     have h3m : 3 + k < 25 := by omega
     generalize (b.getD (3 + k) 0) = xk at *
     go_wp2_with (first
       | ((with_reducible refine gate_st 5 _ _ rfl ?_); refine wl_st1G rfl 5 siz5 _ _ rfl (w.heap.size + 1 + 1) (3 + k) (.int .u8 (xk.toNat : Int)) (by first | rfl | simp [Act.eval]) rfl rfl (rkM b k) (rkM b (k + 1)) _ HS.out.dst (by rw [HLn.out]; omega) HSt.out (fun W3 h1 h2 => ?_); have HS3 := Lib.hid (HS.out.step h1 h2); clear h1 h2; try simp only [Act.put]))
     go_roundw
     case rel => exact ⟨k + 1, by omega, by simp, HS3.out⟩
     case measure => simp [intOf]; omega
   · obtain rfl : k = 12 := by omega
     go_wp2_with fail
     go_loopw [5] (fun i wr => ∃ k : Nat, k ≤ 10 ∧ i = .int .i64 (k : Int) ∧ Hid (RkSt w wr b (12 + k))) (fun i _ => 10 - (intOf i).toNat)
     case atStart => exact ⟨0, Nat.zero_le _, rfl, HS.out⟩
     case round =>
       obtain ⟨k, hk, rfl, HS⟩ := hrel
       by_cases hlt : k < 10
       · have hlt' : (k : Int) < 10 := by omega
         have hc : wr.cell? ⟨w.heap.size, 15 + k, none⟩ = some (.int .u8 ((b.getD (15 + k) 0).toNat : Int)) := HC.out wr HS.out.src (15 + k) (by omega)
         have HSt : Hid ((rkM b (12 + k)).take (15 + k) ++ [.int .u8 ((b.getD (15 + k) 0).toNat : Int)] ++ (rkM b (12 + k)).drop (15 + k + 1) = rkM b (12 + k + 1)) := by have := rkM_step b H25.out (12 + k) (by omega); rwa [show 3 + (12 + k) = 15 + k by omega] at this
         have HLn := Lib.hid (rkM_len b H25.out (12 + k) (by omega))
         have hw3 : IntKind.i64.wrap ((15 : Int) + (k : Int)) = ((15 + k : Nat) : Int) := by simp [IntKind.wrap, IntKind.bits, IntKind.signed]; omega
         have h3l : ((15 + k : Nat) : Int) < 25 := by omega
         have h3m : 15 + k < 25 := by omega
         generalize (b.getD (15 + k) 0) = xk at *
         go_wp2_with (first
           | ((with_reducible refine gate_st 5 _ _ rfl ?_); refine wl_st1G rfl 5 siz5 _ _ rfl (w.heap.size + 1 + 1) (15 + k) (.int .u8 (xk.toNat : Int)) (by first | rfl | simp [Act.eval]) rfl rfl (rkM b (12 + k)) (rkM b (12 + k + 1)) _ HS.out.dst (by rw [HLn.out]; omega) HSt.out (fun W3 h1 h2 => ?_); have HS3 := Lib.hid (HS.out.step h1 h2); clear h1 h2; try simp only [Act.put]))
         go_roundw
         case rel => exact ⟨k + 1, by omega, by simp, HS3.out⟩
         case measure => simp [intOf]; omega
       · obtain rfl : k = 10 := by omega
         have HD : Hid (wr.heap[w.heap.size + 1 + 1]? = some (.cells (rkR b).toArray 44 (0, 0))) := by have h := HS.out.dst; rwa [show 12 + 10 = 22 from rfl, rkM_all b H25.out] at h
         have HRl := Lib.hid (rkR_len b H25.out)
         go_wp2_with (first
           | ((with_reducible refine gate_ld 44 _ rfl ?_); refine wl_ldr rfl 44 _ rfl (w.heap.size + 1 + 1) 0 (rkR b) _ Tryz.underlying44 rfl (by rw [sizR44, HRl.out]) rfl (range_whole HD.out) ?_)
           | ((with_reducible refine gate_st 44 _ _ rfl ?_); refine wl_str rfl 44 _ _ rfl (w.heap.size + 1) (rkR b).toArray #[Value.int IntKind.i64 0, Value.int IntKind.i64 0, Value.int IntKind.i64 0, Value.int IntKind.u8 0, Value.int IntKind.u8 0, Value.int IntKind.u8 0, Value.int IntKind.u8 0, Value.int IntKind.u8 0, Value.int IntKind.u8 0, Value.int IntKind.u8 0, Value.int IntKind.u8 0, Value.int IntKind.u8 0, Value.int IntKind.u8 0, Value.int IntKind.u8 0, Value.int IntKind.u8 0, Value.int IntKind.u8 0, Value.int IntKind.u8 0, Value.int IntKind.u8 0, Value.int IntKind.u8 0, Value.int IntKind.u8 0, Value.int IntKind.u8 0, Value.int IntKind.u8 0, Value.int IntKind.u8 0, Value.int IntKind.u8 0, Value.int IntKind.u8 0] _ (by rw [sizR44, List.size_toArray, HRl.out]) (by rw [List.size_toArray, HRl.out]; rfl) (by rw [← Array.all_toList]; exact rkR_one b) rfl rfl HS.out.res ?_))
         refine bodyPost_ret (res_rowc (P := Tryz.prog) (T := 44) (T' := 44) rfl _ _ (w.heap.size + 1) (rkR b).toArray (0, 0) rfl (setRow_at HS.out.res) Tryz.underlying44 rfl (by rw [sizR44, List.size_toArray, HRl.out])) rfl ⟨rfl, setRow_below HS.out.bel (by omega) _⟩
end Go.Proofs.YtbfefdedjcppaaaGreatDoor
