/- request.Same. -/
import Derived.Test.YtbfefdedjcppaaaGreatDoorEQ6
namespace Go.Proofs.YtbfefdedjcppaaaGreatDoor
set_option maxRecDepth 100000
set_option maxHeartbeats 8000000
open Go.RowKit
def ryC (x : RpD) (v : Value) : List Value := rpC x ++ [v]
theorem ryC_len (x : RpD) (v : Value) : (ryC x v).length = 15 := by simp [ryC, rpC_len]
theorem ryC_sl (x : RpD) (v : Value) : (ryC x v)[14]? = some v := by
 unfold ryC
 rw [List.getElem?_append_right (by rw [rpC_len]; omega)]; simp [rpC_len]
theorem ryC_one (x : RpD) (v : Value) (h : v.oneCell' = true) : (ryC x v).all (·.oneCell') = true := by
 simp only [ryC, List.all_append, rpC_one, List.all_cons, List.all_nil, h, Bool.and_self]
theorem sizRy : (Tryz.prog.info? 59).map (·.size) = some 15 := by kernel_rfl
theorem sizEv : (Tryz.prog.info? 62).map (·.size) = some 28 := by kernel_rfl
theorem agEvs (w : World) : (isAgg 57).run Tryz.prog w = .ok false w := by simp [isAgg, run_underlying Tryz.underlying57]
theorem exec_neqG {P : Program} {a : Act} {o : Oper} (w : World) (T : TypeId) (x y : Operand) (ho : o.op = .binOp .neq T x y T) (u v : Array Value) (b : Bool) (hx : a.eval x = .agg u) (hy : a.eval y = .agg v) (hg : (eqGuard .neq T x y (.agg u) (.agg v)).run P w = .ok () w) (he : (binOp .neq T (.agg u) (.agg v)).run P w = .ok (.bool b) w) : (execOp a.eval o).run P w = .ok (.value (.bool b)) w := by
 unfold execOp
 simp only [ho, hx, hy, Sem.run_bind, hg, he, Result.andThen_ok, Sem.run_pure]
theorem exec_ixE {o : Oper} {a : Act} {w : World} (x y : Operand) (ho : o.op = .indexAddr 57 x y) (b f : Nat) (n c j : Nat) (hx : a.eval x = .slice (some ⟨b, f, none⟩) n c) (hy : a.eval y = .int .i64 (j : Int)) (hj : j < n) : (execOp a.eval o).run Tryz.prog w = .ok (.value (.pointer (some ⟨b, f + j * 28, none⟩))) w := by
 have hq := sizEv
 cases hq2 : Tryz.prog.info? 62 with
 | none => simp [hq2] at hq
 | some i =>
   have hs : i.size = 28 := by simpa [hq2] using hq
   unfold execOp
   simp only [ho, hx, hy]
   simp [go_sem, Tryz.underlying57, sizeOf, typeInfo, hq2, hs, hj]
theorem exec_fRy {o : Oper} {a : Act} {w : World} (x : Operand) (n k : Nat) (hk : (n = 0 ∧ k = 0) ∨ (n = 1 ∧ k = 14)) (ho : o.op = .fieldAddr 59 x n) (b f : Nat) (hx : a.eval x = .pointer (some ⟨b, f, none⟩)) : (execOp a.eval o).run Tryz.prog w = .ok (.value (.pointer (some ⟨b, f + k, none⟩))) w := by
 rcases hk with ⟨rfl, rfl⟩ | ⟨rfl, rfl⟩ <;>
 · unfold execOp
   simp only [ho, hx]
   simp [go_sem]
def allE : List Ev → List Ev → Bool
 | x :: xs, y :: ys => eqE x y && allE xs ys
 | _, _ => true
theorem allE_iff : ∀ (xs ys : List Ev), xs.length = ys.length → (allE xs ys = true ↔ ∀ k (h : k < xs.length) (h' : k < ys.length), eqE xs[k] ys[k] = true)
 | [], [], _ => by simp [allE]
 | x :: xs, y :: ys, hl => by
   have ih := allE_iff xs ys (by simpa using hl)
   unfold allE
   rw [Bool.and_eq_true, ih]
   constructor
   · rintro ⟨h0, h1⟩ k hk hk'
     cases k with
     | zero => exact h0
     | succ k => exact h1 k (by simpa using hk) (by simpa using hk')
   · intro h
     exact ⟨h 0 (by simp) (by simp), fun k hk hk' => h (k + 1) (by simpa using hk) (by simpa using hk')⟩
def sameB (x y : RpD) (es fs : List Ev) : Bool := eqR x y && (decide (es.length = fs.length) && allE es fs)
theorem same_any (x y : RpD) (q q' : Option Addr) (c c' n n' : Nat) (es fs : List Ev) (w : World) (hn : es.length = n) (hn' : fs.length = n') (hq : SlAt evC 28 w q es) (hq' : SlAt evC 28 w q' fs) (hsz : n ≤ 1000000) :
   Calls Tryz.prog 14 #[.agg (ryC x (.slice q n c)).toArray, .agg (ryC y (.slice q' n' c')).toArray] w fun e w' => e = .returned (.bool (sameB x y es fs)) ∧ Below w.heap.size w w' := by
 have HG0 := Lib.hid (heap_alloc2_old w (.cells (ryC x (.slice q n c)).toArray 59) (.cells (ryC y (.slice q' n' c')).toArray 59))
 have HG1 := Lib.hid (heap_alloc2_new w (.cells (ryC x (.slice q n c)).toArray 59) (.cells (ryC y (.slice q' n' c')).toArray 59))
 have HB := Lib.hid (below_alloc2 w (.cells (ryC x (.slice q n c)).toArray 59) (.cells (ryC y (.slice q' n' c')).toArray 59))
 have HQ := Lib.hid (hq.below HB.out)
 have HQ' := Lib.hid (hq'.below HB.out)
 have HN := Lib.hid hn
 have HN' := Lib.hid hn'
 have HSm : Hid (sameB x y es fs = (eqR x y && (decide (n = n') && allE es fs))) := by show _ = _; unfold sameB; rw [hn, hn']
 clear hq hq' hn hn'
 generalize sameB x y es fs = sb at *
 go_enter Tryz.func14, Tryz.ntmps14
 go_upto_region 1 with fail
 generalize (w.alloc (.cells (ryC x (.slice q n c)).toArray 59)).alloc (.cells (ryC y (.slice q' n' c')).toArray 59) = W1 at *
 have HR0 := Lib.hid (range_app_left (xs := rpC x) (range_whole HG0.out))
 have HR1 := Lib.hid (range_app_left (xs := rpC y) (range_whole HG1.out))
 have s0 : W1.cell? ⟨w.heap.size, 14, none⟩ = some (.slice q n c) := by rw [cell_blk HG0.out, List.getElem?_toArray]; exact ryC_sl _ _
 have s1 : W1.cell? ⟨w.heap.size + 1, 14, none⟩ = some (.slice q' n' c') := by rw [cell_blk HG1.out, List.getElem?_toArray]; exact ryC_sl _ _
 by_cases hb : eqR x y = true
 · by_cases hlen : n = n'
   · subst hlen
     have HSm2 : Hid (sb = allE es fs) := by show _ = _; rw [HSm.out, hb]; simp
     clear HSm
     have hbn : ((n : Int) != (n : Int)) = false := by simp
     go_upto_region 4 with (first
       | ((with_reducible refine gate_ld 56 (.tmp 6) rfl ?_); refine wl_ldr rfl 56 _ rfl w.heap.size 0 (rpC x) _ Tryz.underlying56 rfl (by rw [sizRp, rpC_len]) rfl HR0.out ?_)
       | ((with_reducible refine gate_ld 56 (.tmp 8) rfl ?_); refine wl_ldr rfl 56 _ rfl (w.heap.size + 1) 0 (rpC y) _ Tryz.underlying56 rfl (by rw [sizRp, rpC_len]) rfl HR1.out ?_)
       | ((with_reducible refine gate_op (.binOp .neq 56 (.tmp 7) (.tmp 9) 56) rfl ?_); refine wl_val rfl (.bool false) (exec_neqG _ 56 (.tmp 7) (.tmp 9) rfl (rpC x).toArray (rpC y).toArray _ rfl rfl (run_eqGuard_agg _ .neq 56 _ _ _ _ (by kernel_rfl)) (by rw [neqRp, hb]; rfl)) ?_))
     go_loopw [23] (fun i wr => ∃ k : Nat, k ≤ n ∧ i = .int .i64 (k : Int) ∧ wr.heap[w.heap.size]? = W1.heap[w.heap.size]? ∧ Hid (Below W1.heap.size W1 wr) ∧ Hid (∀ j (h : j < es.length) (h' : j < fs.length), j < k → eqE es[j] fs[j] = true)) (fun i _ => n - (intOf i).toNat)
     case atStart => exact ⟨0, Nat.zero_le _, rfl, rfl, Below.refl _ _, fun j _ _ h => absurd h (Nat.not_lt_zero _)⟩
     case round =>
       obtain ⟨k, hk, rfl, _, HBr, HF⟩ := hrel
       have G0 := (HBr.out.block _ (lt_heap HG0.out)).trans HG0.out
       have G1 := (HBr.out.block _ (lt_heap HG1.out)).trans HG1.out
       have HG0r := Lib.hid G0
       have HG1r := Lib.hid G1
       by_cases hlt : k < n
       · have hlt' : (k : Int) < (n : Int) := by omega
         have hle : k < es.length := by rw [HN.out]; exact hlt
         have hlf : k < fs.length := by rw [HN'.out]; exact hlt
         obtain ⟨b0, o0, rfl, hb0, hr0⟩ := (HQ.out.below HBr.out) k hle
         obtain ⟨b1, o1, rfl, hb1, hr1⟩ := (HQ'.out.below HBr.out) k hlf
         have HR0r := Lib.hid hr0
         have HR1r := Lib.hid hr1
         have HF2 : Hid (eqE es[k] fs[k] = true → ∀ j (h : j < es.length) (h' : j < fs.length), j < k + 1 → eqE es[j] fs[j] = true) := fun he j h h' hj => by
           rcases Nat.lt_or_eq_of_le (Nat.le_of_lt_succ hj) with h1 | rfl
           · exact HF.out j h h' h1
           · exact he
         have HFn : Hid (eqE es[k] fs[k] = false → sb = false) := fun he => by
           rw [HSm2.out]
           cases ha : allE es fs with
           | false => rfl
           | true =>
             have := (allE_iff es fs (by rw [HN.out, HN'.out])).1 ha k hle hlf
             rw [he] at this
             cases this
         clear hr0 hr1 hb0 hb1 G0 G1 HF
         generalize es[k] = e0 at *
         generalize fs[k] = f0 at *
         go_upto_region 6 with fail
         have hS : wr.drew.heap[w.heap.size]? = wr.heap[w.heap.size]? ∧ wr.drew.heap[w.heap.size + 1]? = wr.heap[w.heap.size + 1]? ∧ wr.drew.rangeAt b0 (o0 + k * 28) (evC e0) ∧ wr.drew.rangeAt b1 (o1 + k * 28) (evC f0) := ⟨rfl, rfl, HR0r.out, HR1r.out⟩
         refine wp_region_held_drew (S := fun W => W.heap[w.heap.size]? = wr.heap[w.heap.size]? ∧ W.heap[w.heap.size + 1]? = wr.heap[w.heap.size + 1]? ∧ W.rangeAt b0 (o0 + k * 28) (evC e0) ∧ W.rangeAt b1 (o1 + k * 28) (evC f0)) (by kernel_rfl) hS (fun hH => ?_)
         show wpAnyH Tryz.prog Region.Mode.any _ _ _ 11 #[false, false, false, false, false, false, false, false, false, false, false] _ _
         refine takeR (i := 0) (v := .pointer (some ⟨w.heap.size, 14, none⟩)) 26 rfl rfl (by kernel_rfl) (by kernel_rfl) (by kernel_rfl) (fun _ _ _ h => h) (Or.inl ⟨rfl, fun w' hS => exec_fRy (.tmp 2) 1 14 (by simp) rfl w.heap.size 0 rfl⟩) hH ?_
         simp only [Act.put, wrT]
         refine takeR (i := 1) (v := .slice (some ⟨b0, o0, none⟩) n c) 27 rfl rfl (by kernel_rfl) (by kernel_rfl) (by kernel_rfl) (fun _ _ _ h => h) (Or.inl ⟨rfl, fun w' hS => exec_ld1G 57 agEvs _ rfl w.heap.size 14 _ rfl (by rw [cell_blk (hS.1.trans HG0r.out), List.getElem?_toArray]; exact ryC_sl _ _)⟩) hH ?_
         simp only [Act.put, wrT]
         refine takeR (i := 2) (v := .int .i64 (k : Int)) 28 rfl rfl (by kernel_rfl) (by kernel_rfl) (by kernel_rfl) (fun _ _ _ h => h) (Or.inl ⟨rfl, fun w' hS => exec_mvT (.tmp 5) rfl _ rfl⟩) hH ?_
         simp only [Act.put, wrT]
         refine takeR (i := 3) (v := .pointer (some ⟨b0, o0 + k * 28, none⟩)) 29 rfl rfl (by kernel_rfl) (by kernel_rfl) (by kernel_rfl) (fun _ _ _ h => h) (Or.inl ⟨rfl, fun w' hS => exec_ixE (.tmp 27) (.tmp 28) rfl b0 o0 n _ k rfl rfl hlt⟩) hH ?_
         simp only [Act.put, wrT]
         refine takeR (i := 4) (v := .agg (evC e0).toArray) 30 rfl rfl (by kernel_rfl) (by kernel_rfl) (by kernel_rfl) (fun _ _ _ h => h) (Or.inl ⟨rfl, fun w' hS => exec_ldr 62 (.tmp 29) rfl b0 (o0 + k * 28) (evC e0) _ Tryz.underlying62 rfl (by rw [sizEv, evC_len]) rfl hS.2.2.1⟩) hH ?_
         simp only [Act.put, wrT]
         refine takeR (i := 5) (v := .pointer (some ⟨(w.heap.size + 1), 14, none⟩)) 31 rfl rfl (by kernel_rfl) (by kernel_rfl) (by kernel_rfl) (fun _ _ _ h => h) (Or.inl ⟨rfl, fun w' hS => exec_fRy (.tmp 3) 1 14 (by simp) rfl (w.heap.size + 1) 0 rfl⟩) hH ?_
         simp only [Act.put, wrT]
         refine takeR (i := 6) (v := .slice (some ⟨b1, o1, none⟩) n c') 32 rfl rfl (by kernel_rfl) (by kernel_rfl) (by kernel_rfl) (fun _ _ _ h => h) (Or.inl ⟨rfl, fun w' hS => exec_ld1G 57 agEvs _ rfl (w.heap.size + 1) 14 _ rfl (by rw [cell_blk (hS.2.1.trans HG1r.out), List.getElem?_toArray]; exact ryC_sl _ _)⟩) hH ?_
         simp only [Act.put, wrT]
         refine takeR (i := 7) (v := .int .i64 (k : Int)) 33 rfl rfl (by kernel_rfl) (by kernel_rfl) (by kernel_rfl) (fun _ _ _ h => h) (Or.inl ⟨rfl, fun w' hS => exec_mvT (.tmp 5) rfl _ rfl⟩) hH ?_
         simp only [Act.put, wrT]
         refine takeR (i := 8) (v := .pointer (some ⟨b1, o1 + k * 28, none⟩)) 34 rfl rfl (by kernel_rfl) (by kernel_rfl) (by kernel_rfl) (fun _ _ _ h => h) (Or.inl ⟨rfl, fun w' hS => exec_ixE (.tmp 32) (.tmp 33) rfl b1 o1 n _ k rfl rfl hlt⟩) hH ?_
         simp only [Act.put, wrT]
         refine takeR (i := 9) (v := .agg (evC f0).toArray) 35 rfl rfl (by kernel_rfl) (by kernel_rfl) (by kernel_rfl) (fun _ _ _ h => h) (Or.inl ⟨rfl, fun w' hS => exec_ldr 62 (.tmp 34) rfl b1 (o1 + k * 28) (evC f0) _ Tryz.underlying62 rfl (by rw [sizEv, evC_len]) rfl hS.2.2.2⟩) hH ?_
         simp only [Act.put, wrT]
         refine takeR (i := 10) (v := .bool (!eqE e0 f0)) 36 rfl rfl (by kernel_rfl) (by kernel_rfl) (by kernel_rfl) (fun _ _ _ h => h) (Or.inl ⟨rfl, fun w' hS => exec_neqG _ 62 (.tmp 30) (.tmp 35) rfl (evC e0).toArray (evC f0).toArray _ rfl rfl (run_eqGuard_agg _ .neq 62 _ _ _ _ (by kernel_rfl)) (neqEv _ _ _)⟩) hH ?_
         simp only [Act.put, wrT]
         refine wpAnyH_done (by kernel_rfl) ?_ _
         try simp only [Act.put, rdT, wrT]
         have HBd : Hid (Below W1.heap.size W1 wr.drew) := HBr.out.drew
         cases he : eqE e0 f0
         · have HE := Lib.hid (HFn.out he)
           clear HFn HF2 he hS hH
           go_wp2_with fail
           go_ret
           exact ⟨by rw [HE.out]; rfl, HB.out.trans (HBd.out.mono HB.out.size)⟩
         · have HE := Lib.hid (HF2.out he)
           clear HFn HF2 he hS hH
           go_wp2_with fail
           go_roundw
           case rel => exact ⟨k + 1, by omega, by simp, HBd.out.block _ (lt_heap HG0.out), HBd.out, HE.out⟩
           case measure => simp [intOf]; omega
       · obtain rfl : k = n := by omega
         have HE : Hid (sb = true) := by
           show _ = _
           rw [HSm2.out]
           exact (allE_iff es fs (by rw [HN.out, HN'.out])).2 fun j h h' => HF.out j h h' (by rw [← HN.out]; exact h)
         clear HF G0 G1
         go_wp2_with fail
         go_ret
         exact ⟨by rw [HE.out]; rfl, HB.out.trans (HBr.out.mono HB.out.size)⟩
   · have HE : Hid (sb = false) := by show _ = _; rw [HSm.out, hb]; simp [hlen]
     have hbn : ((n : Int) != (n' : Int)) = true := by simp; omega
     clear HSm
     go_wp2_with (first
       | ((with_reducible refine gate_ld 56 (.tmp 6) rfl ?_); refine wl_ldr rfl 56 _ rfl w.heap.size 0 (rpC x) _ Tryz.underlying56 rfl (by rw [sizRp, rpC_len]) rfl HR0.out ?_)
       | ((with_reducible refine gate_ld 56 (.tmp 8) rfl ?_); refine wl_ldr rfl 56 _ rfl (w.heap.size + 1) 0 (rpC y) _ Tryz.underlying56 rfl (by rw [sizRp, rpC_len]) rfl HR1.out ?_)
       | ((with_reducible refine gate_op (.binOp .neq 56 (.tmp 7) (.tmp 9) 56) rfl ?_); refine wl_val rfl (.bool false) (exec_neqG _ 56 (.tmp 7) (.tmp 9) rfl (rpC x).toArray (rpC y).toArray _ rfl rfl (run_eqGuard_agg _ .neq 56 _ _ _ _ (by kernel_rfl)) (by rw [neqRp, hb]; rfl)) ?_))
     go_ret
     exact ⟨by rw [HE.out]; rfl, HB.out⟩
 · have hb' : eqR x y = false := by simpa using hb
   have HE : Hid (sb = false) := by show _ = _; rw [HSm.out, hb']; rfl
   clear hb HSm
   go_wp2_with (first
     | ((with_reducible refine gate_ld 56 (.tmp 6) rfl ?_); refine wl_ldr rfl 56 _ rfl w.heap.size 0 (rpC x) _ Tryz.underlying56 rfl (by rw [sizRp, rpC_len]) rfl HR0.out ?_)
     | ((with_reducible refine gate_ld 56 (.tmp 8) rfl ?_); refine wl_ldr rfl 56 _ rfl (w.heap.size + 1) 0 (rpC y) _ Tryz.underlying56 rfl (by rw [sizRp, rpC_len]) rfl HR1.out ?_)
     | ((with_reducible refine gate_op (.binOp .neq 56 (.tmp 7) (.tmp 9) 56) rfl ?_); refine wl_val rfl (.bool true) (exec_neqG _ 56 (.tmp 7) (.tmp 9) rfl (rpC x).toArray (rpC y).toArray _ rfl rfl (run_eqGuard_agg _ .neq 56 _ _ _ _ (by kernel_rfl)) (by rw [neqRp, hb']; rfl)) ?_))
   go_ret
   exact ⟨by rw [HE.out]; rfl, HB.out⟩
end Go.Proofs.YtbfefdedjcppaaaGreatDoor
