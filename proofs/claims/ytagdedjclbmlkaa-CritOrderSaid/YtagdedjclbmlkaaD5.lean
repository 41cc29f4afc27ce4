/- The document's Del. -/
import Derived.Test.YtagdedjclbmlkaaD4
import Derived.Test.YtagdedjclbmlkaaGX
namespace Go.Proofs.Ytagdedjclbmlkaa
open Go.RowKit

theorem infoRE : (Try.prog.info? 57).map (fun i => (i.zero, i.size, i.bytes)) = some (some (.agg (reC ⟨z25, 0, rfl⟩).toArray), 26, 56) := by kernel_rfl
theorem reZ_sz : (Value.agg (reC ⟨z25, 0, rfl⟩).toArray).cells.size = 26 := rfl
/-- A list of the document's entries, as a slice. -/
structure RSl (w : World) (q : Option Addr) (n c : Nat) (xs : List RE) : Prop where
  len : xs.length = n
  le : n ≤ c
  at_ : SlAt reC 26 w q xs
  lt : ∀ a, q = some a → a.block < w.heap.size
  nil : q = none → c = 0
  blk : ∀ a, q = some a → ∃ cs, w.heap[a.block]? = some (.cells cs 57 (0, 0))
theorem RSl.below {w w' : World} {q : Option Addr} {n c : Nat} {xs : List RE} (h : RSl w q n c xs) (hb : Below w.heap.size w w') : RSl w' q n c xs :=
  ⟨h.len, h.le, h.at_.below hb, fun a e => Nat.lt_of_lt_of_le (h.lt a e) hb.size, h.nil, fun a e => by
    obtain ⟨cs, hcs⟩ := h.blk a e
    exact ⟨cs, (hb.block _ (h.lt a e)).trans hcs⟩⟩
theorem RSl.own {w : World} {base : Nat} {v : Value} {xs : List RE} (h : OwnE reC 57 26 w base v xs) : ∃ q c, v = .slice q xs.length c ∧ RSl w q xs.length c xs := by
  have h0 := h
  obtain ⟨q, c, rfl, h1, _, h3, h4⟩ := h.at reC_len
  refine ⟨q, c, rfl, rfl, h1, h3, fun a e => (h4 a e).2, h.none_cap, fun a e => ?_⟩
  obtain ⟨_, ⟨hv, _⟩ | ⟨g, cap, cur, hv, _, hh, _⟩⟩ := h0
  · simp only [Value.slice.injEq] at hv
    rw [hv.1] at e; cases e
  · simp only [Value.slice.injEq] at hv
    rw [hv.1] at e; cases e
    exact ⟨cur, hh⟩
theorem exec_addI {o : Oper} {a : Act} {w : World} (x y : Operand) (ho : o.op = .binOp .add 3 x y 3) (m n : Nat) (hm : m + n ≤ 1000000) (hx : a.eval x = .int .i64 (m : Int)) (hy : a.eval y = .int .i64 (n : Int)) : (execOp a.eval o).run Try.prog w = .ok (.value (.int .i64 ((m + n : Nat) : Int))) w := by
  unfold execOp
  simp only [ho, hx, hy]
  simp [go_sem]
  rw [IntKind.wrap_i64]; omega
set_option maxRecDepth 100000 in
set_option maxHeartbeats 4000000 in
theorem rdel_any (q : Option Addr) (n c : Nat) (xs : List RE) (k : List UInt8) (w : World) (hR : RSl w q n c xs) (hn9 : n ≤ 1000000) (hk : k.length = 25) :
    Calls Try.prog 9 #[.slice q n c, .agg (rkC k).toArray] w fun e w' => ∃ q' n' c' ys, e = .returned (.tuple #[.slice q' n' c', .bool (findL (xs.map RE.p) k).isSome]) ∧ RSl w' q' n' c' ys ∧ ys.map RE.p = delL (xs.map RE.p) k ∧ Below w.heap.size w w' := by
  have HK := Lib.hid hk
  have HB0 := Lib.hid (below_alloc1 w (.cells (rkC k).toArray 40))
  have HX0 := Lib.hid (heap_alloc_new w (.cells (rkC k).toArray 40))
  have HR := Lib.hid (hR.below HB0.out)
  clear hk hR
  have KF : Hid (Calls Try.prog 33 #[.slice q n c, .agg (rkC k).toArray] (w.alloc (.cells (rkC k).toArray 40)) fun e w' => e = .returned (.int .i64 (fI (findL (xs.map RE.p) k))) ∧ Below (w.alloc (.cells (rkC k).toArray 40)).heap.size (w.alloc (.cells (rkC k).toArray 40)) w') := rfind_any q n c xs k _ HR.out.len hn9 HK.out HR.out.at_
  cases hf : findL (xs.map RE.p) k with
  | none =>
    have HD : Hid (delL (xs.map RE.p) k = xs.map RE.p) := by
      show _ = _
      unfold delL; rw [hf]
    rw [hf] at KF
    simp only [fI] at KF
    clear hf
    go_enter Try.func9, Try.ntmps9
    go_upto_region 1 with fail
    generalize w.alloc (.cells (rkC k).toArray 40) = W0 at *
    go_wp2_with (first
      | ((with_reducible refine gate_ld 40 (.tmp 3) rfl ?_); refine wl_ldr rfl 40 _ rfl w.heap.size 0 (rkC k) _ Try.underlying40 rfl (by rw [sizRK, rkC_len HK.out]) rfl (range_whole (by simpa using HX0.out)) ?_)
      | (go_at_call 33; (refine KF.out.mono ?_); rintro e W2 ⟨rfl, hb2⟩; have HB2 := Lib.hid hb2; clear hb2))
    refine bodyPost_ret (results_tmp2 rfl _ _ _) rfl ?_
    exact ⟨q, n, c, xs, rfl, HR.out.below HB2.out, HD.out.symm, HB0.out.trans (HB2.out.mono HB0.out.size)⟩
  | some i =>
    obtain ⟨hi, -⟩ := find_some hf
    have hil : i < xs.length := by simpa using hi
    have hin : i < n := by rw [← HR.out.len]; exact hil
    have HD : Hid (delL (xs.map RE.p) k = (xs.take i ++ xs.drop (i + 1)).map RE.p) := by
      show _ = _
      unfold delL; rw [hf]
      simp [List.map_take, List.map_drop]
    rw [hf] at KF
    simp only [fI] at KF
    clear hf hi
    go_enter Try.func9, Try.ntmps9
    go_upto_region 1 with fail
    generalize w.alloc (.cells (rkC k).toArray 40) = W0 at *
    go_upto_region 4 with (first
      | ((with_reducible refine gate_ld 40 (.tmp 3) rfl ?_); refine wl_ldr rfl 40 _ rfl w.heap.size 0 (rkC k) _ Try.underlying40 rfl (by rw [sizRK, rkC_len HK.out]) rfl (range_whole (by simpa using HX0.out)) ?_)
      | (go_at_call 33; (refine KF.out.mono ?_); rintro e W2 ⟨rfl, hb2⟩; have HB2 := Lib.hid hb2; clear hb2))
    have hR2 : RSl W2.drew q n c xs := (HR.out.below HB2.out).below ⟨rfl, rfl, rfl, Nat.le_refl _, fun _ _ => rfl⟩
    have hbd : Below W2.heap.size W2 W2.drew := ⟨rfl, rfl, rfl, Nat.le_refl _, fun _ _ => rfl⟩
    have hB2 : Below w.heap.size w W2.drew := HB0.out.trans ((HB2.out.trans (hbd.mono HB2.out.size)).mono HB0.out.size)
    clear hbd HR HB0 HB2 KF HX0
    refine wp_region_held_drew (S := fun _ => True) (by kernel_rfl) trivial (fun _ => ?_)
    show wpAnyH Try.prog Region.Mode.any _ _ _ 12 #[false, false, false, false, false, false, false, false, false, false, false, false] _ _
    generalize W2.drew = Wd at *
    have hlc := hR2.le
    have hle1 : i ≤ c := by omega
    have hle2 : i + 1 ≤ n := by omega
    refine takeD (i := 1) (v := .slice q n c) 14 rfl rfl (by kernel_rfl) (by kernel_rfl) (by kernel_rfl) (fun _ _ _ h => h) (Or.inl ⟨rfl, fun w' hS => rfl⟩) trivial ?_
    simp only [Act.put, List.setIfInBounds_toArray, List.set_cons_zero, List.set_cons_succ]
    refine takeD (i := 2) (v := .int .i64 (i : Int)) 15 rfl rfl (by kernel_rfl) (by kernel_rfl) (by kernel_rfl) (fun _ _ _ h => h) (Or.inl ⟨rfl, fun w' hS => rfl⟩) trivial ?_
    simp only [Act.put, List.setIfInBounds_toArray, List.set_cons_zero, List.set_cons_succ]
    refine takeD (i := 3) (v := .slice q i c) 16 rfl rfl (by kernel_rfl) (by kernel_rfl) (by kernel_rfl) (fun _ _ _ h => h) (Or.inl ⟨rfl, fun w' hS => exec_hi Try.underlying33 sizRE (.tmp 14) (.tmp 15) rfl q n c i rfl rfl hle1⟩) trivial ?_
    simp only [Act.put, List.setIfInBounds_toArray, List.set_cons_zero, List.set_cons_succ]
    refine takeD (i := 5) (v := .slice q n c) 18 rfl rfl (by kernel_rfl) (by kernel_rfl) (by kernel_rfl) (fun _ _ _ h => h) (Or.inl ⟨rfl, fun w' hS => rfl⟩) trivial ?_
    simp only [Act.put, List.setIfInBounds_toArray, List.set_cons_zero, List.set_cons_succ]
    refine takeD (i := 6) (v := .int .i64 (i : Int)) 19 rfl rfl (by kernel_rfl) (by kernel_rfl) (by kernel_rfl) (fun _ _ _ h => h) (Or.inl ⟨rfl, fun w' hS => rfl⟩) trivial ?_
    simp only [Act.put, List.setIfInBounds_toArray, List.set_cons_zero, List.set_cons_succ]
    refine takeD (i := 7) (v := .int .i64 ((i + 1 : Nat) : Int)) 20 rfl rfl (by kernel_rfl) (by kernel_rfl) (by kernel_rfl) (fun _ _ _ h => h) (Or.inl ⟨rfl, fun w' hS => exec_addI (.tmp 19) (.const (.int .i64 1)) rfl i 1 (by omega) rfl rfl⟩) trivial ?_
    simp only [Act.put, List.setIfInBounds_toArray, List.set_cons_zero, List.set_cons_succ]
    refine takeD (i := 8) (v := .slice (cutQ 26 q (i + 1) c) (n - (i + 1)) (c - (i + 1))) 21 rfl rfl (by kernel_rfl) (by kernel_rfl) (by kernel_rfl) (fun _ _ _ h => h) (Or.inl ⟨rfl, fun w' hS => exec_lo Try.underlying33 sizRE (.tmp 18) (.tmp 20) rfl q n c (i + 1) rfl rfl hle2⟩) trivial ?_
    simp only [Act.put, List.setIfInBounds_toArray, List.set_cons_zero, List.set_cons_succ]
    refine oneH 0 (by kernel_rfl) (wpOp_wp rfl rfl (op_bs0 (enc := reC) (k := 26) 33 57 Try.underlying33 sizRE rfl Wd.heap.size (Nat.le_refl _) (fun v1 w1 ho1 hg1 _ => ⟨trivial, ?_⟩)))
    have hb1 : Below Wd.heap.size Wd w1 := (Below.refl Wd.heap.size Wd).grown hg1 (Nat.le_refl _) (fun k e => by cases e)
    have hRt : SlAt reC 26 w1 q (xs.take i) := (hR2.at_.take i).below hb1
    refine oneH 4 (by kernel_rfl) (wpOp_wp rfl rfl (op_app (enc := reC) (k := 26) 33 57 56 _ Try.underlying33 infoRE reZ_sz (by omega) reC_len reC_one (.tmp 13) (.tmp 16) rfl Wd.heap.size v1 [] rfl ho1 q i c (xs.take i) rfl (by rw [List.length_take]; omega) hRt hR2.nil (by simp; omega) (by unfold maxLen; simp; omega) hb1.size (fun v2 w2 ho2 hg2 _ => ⟨trivial, ?_⟩)))
    simp only [List.nil_append] at ho2
    have hb2 : Below Wd.heap.size w1 w2 := grown_below hg2 (fun g e => (ho1.lt g e).1) hb1.size
    have hb12 := hb1.trans hb2
    have hRd : SlAt reC 26 w2 (cutQ 26 q (i + 1) c) (xs.drop (i + 1)) := (hR2.at_.below hb12).cut (i + 1) c (by rw [hR2.len]; exact hlc)
    refine oneH 9 (by kernel_rfl) (wpOp_wp rfl rfl (op_app (enc := reC) (k := 26) 33 57 56 _ Try.underlying33 infoRE reZ_sz (by omega) reC_len reC_one (.tmp 17) (.tmp 21) rfl Wd.heap.size v2 (xs.take i) rfl ho2 (cutQ 26 q (i + 1) c) (n - (i + 1)) (c - (i + 1)) (xs.drop (i + 1)) rfl (by rw [List.length_drop, hR2.len]) hRd (fun e => by rw [hR2.nil (cutQ_isNone e)]; omega) (by rw [List.length_take]; omega) (by unfold maxLen; rw [List.length_take]; omega) hb12.size (fun v3 w3 ho3 hg3 _ => ⟨trivial, ?_⟩)))
    have hb3 : Below Wd.heap.size w2 w3 := grown_below hg3 (fun g e => (ho2.lt g e).1) hb12.size
    have hb123 := hb12.trans hb3
    refine oneH 10 (by kernel_rfl) (wpOp_as rfl rfl (.tmp 22) rfl v3 rfl ⟨trivial, ?_⟩)
    refine oneH 11 (by kernel_rfl) (wpOp_as rfl rfl (.const (.bool true)) rfl (.bool true) rfl ⟨trivial, ?_⟩)
    refine wpAnyH_done (by kernel_rfl) ?_ _
    obtain ⟨q', c', rfl, hR3⟩ := RSl.own ho3
    have HR3 := Lib.hid hR3
    have HBf := Lib.hid (hB2.trans (hb123.mono hB2.size))
    clear hR2 hB2 hb1 hb2 hb12 hb3 hb123 ho1 ho2 ho3 hg1 hg2 hg3 hRt hRd hR3
    simp only [Act.put, List.getElem_toArray, List.getElem_cons_zero, List.getElem_cons_succ, List.setIfInBounds_toArray, List.set_cons_zero, List.set_cons_succ]
    go_wp2_with fail
    refine bodyPost_ret (results_tmp2 rfl _ _ _) rfl ?_
    exact ⟨q', _, c', _, rfl, HR3.out, HD.out.symm, HBf.out⟩
end Go.Proofs.Ytagdedjclbmlkaa
