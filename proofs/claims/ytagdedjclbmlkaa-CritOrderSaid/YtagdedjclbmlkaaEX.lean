/- Texts joined: EX. -/
import Derived.Test.YtagdedjclbmlkaaD10
import Derived.Test.YtagdedjclbmlkaaC20
import Derived.Test.YtagdedjclbmlkaaKX
import Derived.Test.YtagdedjclbmlkaaC19
/- The keys of a prefix. -/
namespace Go.Proofs.Ytagdedjclbmlkaa
open Go.RowKit

attribute [local go_sem] Oper.semAt_some

/-- A load that may come up ahead of the laying of the element, or behind it. -/
theorem free_bs {P : Program} {md : Region.Mode} {ops : Array Oper} {Q : Exit → Act → World → Prop} {S : World → Prop} {fuel : Nat} {L : Array Bool} {a : Act} {w : World} (obj : Obj) (hS : S w) (hS' : S (w.alloc obj))
    (i0 ib d0 db : Nat) {o0 ob : Oper} (v : Value) (h0 : ops[i0]? = some o0) (hbs : ops[ib]? = some ob) (g0 : o0.guard = none) (gb : ob.guard = none) (q0 : o0.dst = some d0) (qb : ob.dst = some db) (hd : d0 ≠ db) (hi : i0 ≠ ib)
    (r0 : Region.ready md ops L = [i0, ib]) (r1 : Region.ready md ops (L.setIfInBounds i0 true) = [ib]) (r2 : Region.ready md ops (L.setIfInBounds ib true) = [i0])
    (x0 : (execOp a.eval o0).run P w = .ok (.value v) w) (x1 : (execOp (a.put (some db) (.slice (some ⟨w.heap.size, 0, none⟩) 1 1)).eval o0).run P (w.alloc obj) = .ok (.value v) (w.alloc obj))
    (z0 : (execOp a.eval ob).run P w = .ok (.value (.slice (some ⟨w.heap.size, 0, none⟩) 1 1)) (w.alloc obj)) (z1 : (execOp (a.put (some d0) v).eval ob).run P w = .ok (.value (.slice (some ⟨w.heap.size, 0, none⟩) 1 1)) (w.alloc obj))
    (hT : wpAnyH P md ops Q S fuel ((L.setIfInBounds i0 true).setIfInBounds ib true) ((a.put (some d0) v).put (some db) (.slice (some ⟨w.heap.size, 0, none⟩) 1 1)) (w.alloc obj)) : wpAnyH P md ops Q S (fuel + 2) L a w := by
  refine twoH i0 ib r0 (wpOp_val h0 g0 x0 ⟨hS, oneH ib r1 (wpOp_val hbs gb (by rw [q0]; exact z1) ⟨hS', ?_⟩)⟩) (wpOp_val hbs gb z0 ⟨hS', oneH i0 r2 (wpOp_val h0 g0 (by rw [qb]; exact x1) ⟨hS', ?_⟩)⟩)
  · rw [q0, qb]
    exact hT
  · rw [qb, q0, put_comm a hd.symm, Array.setIfInBounds_comm _ _ hi.symm]
    exact hT
def selK {o : Option T} (h : WFO o) (k : List UInt8) (d : Int) (l : List (LV o)) : List K25 := (l.filter fun x => hasP k d x.val.2.1).map fun x => ⟨x.val.2.1, lvsO_len h x.val x.mem⟩
theorem selK_snoc {o : Option T} (h : WFO o) (k : List UInt8) (d : Int) (l : List (LV o)) (x : LV o) : selK h k d (l ++ [x]) = if hasP k d x.val.2.1 = true then selK h k d l ++ [⟨x.val.2.1, lvsO_len h x.val x.mem⟩] else selK h k d l := by
  unfold selK
  rw [List.filter_append, List.filter_cons]
  split
  · simp
  · simp
theorem selK_len {o : Option T} (h : WFO o) (k : List UInt8) (d : Int) (l : List (LV o)) : (selK h k d l).length ≤ l.length := by
  unfold selK
  rw [List.length_map]
  exact List.length_filter_le _ _
theorem has_pre {k : List UInt8} {d : Int} (hk : k.length = 25) {x : List UInt8} (hx : x.length = 25) (h : hasP k d x = true) : pre (preB k d) x = true := by
  unfold hasP at h
  rw [Bool.and_eq_true, beq_iff_eq] at h
  unfold pre preB
  rw [if_pos h.1, beq_iff_eq, List.length_take, hk]
  have := cutN_le d
  rw [Nat.min_eq_left this, ← cutK_take k d hk, ← cutK_take x d hx, h.2]
theorem selK_keys {o : Option T} (h : WFO o) (k : List UInt8) (d : Int) (hk : k.length = 25) : (selK h k d (fil (preB k d) (allL (preB k d) o))).map (·.k) = ((allO o).filter fun x => hasP k d x.1).map (·.1) := by
  have e : ∀ l : List (LV o), (selK h k d l).map (·.k) = ((l.map (·.val.2)).filter fun x => hasP k d x.1).map (·.1) := by
    intro l
    unfold selK
    induction l with
    | nil => rfl
    | cons x l ih =>
      simp only [List.map_cons, List.filter_cons]
      split
      · simp only [List.map_cons, List.cons.injEq, true_and]; exact ih
      · exact ih
  rw [e, fil_all h, List.filter_filter]
  congr 1
  apply List.filter_congr
  intro x hx
  have hl : x.1.length = 25 := by
    cases o with
    | none => cases hx
    | some t => exact T.WF.len h _ (T.key_mem hx)
  cases hh : hasP k d x.1 with
  | false => simp
  | true => rw [has_pre hk hl hh]; rfl
theorem sizKs : (Try.prog.info? 64).map (·.size) = some 1 := by kernel_rfl
theorem agKs (w : World) : (isAgg 64).run Try.prog w = .ok false w := by simp [isAgg, run_underlying Try.underlying64]
set_option maxRecDepth 100000 in
set_option maxHeartbeats 4000000 in
theorem keys_any (o : Option T) (k : List UInt8) (d : Int) (w : World) (B tb : Nat) (hk : k.length = 25) (hT : TreeAt w B tb o) (hn : (allO o).length ≤ 1000000) :
    Calls Try.prog 24 #[ptrA tb, .agg (pC k d).toArray] w fun e W' => ∃ v xs, e = .returned v ∧ OwnE encK 30 25 W' w.heap.size v xs ∧ xs.map (·.k) = ((allO o).filter fun x => hasP k d x.1).map (·.1) ∧ Below w.heap.size w W' := by
  refine (callsIn_wide (n := 5)).1 ?_
  refine callsIn_of_wp_marks Try.func24 rfl trivial ?_ rfl
  simp only [Try.ntmps24, List.size_toArray, List.length_cons, List.length_nil, Nat.reduceAdd, Nat.reduceSub, Array.replicate_succ, Array.replicate_zero, List.push_toArray, List.append_toArray, List.nil_append, List.cons_append]
  have HB1 := Lib.hid (below_alloc2 w (.cells (pC k d).toArray 63) (.cells #[.slice none 0 0] 64))
  have HG0 := Lib.hid (heap_alloc2_old w (.cells (pC k d).toArray 63) (.cells #[.slice none 0 0] 64))
  have HG1 := Lib.hid (heap_alloc2_new w (.cells (pC k d).toArray 63) (.cells #[.slice none 0 0] 64))
  have HK := Lib.hid hk
  have HT := Lib.hid hT
  clear hk hT
  gi_upto_region 2 with fail
  generalize ((w.alloc (.cells (pC k d).toArray 63)).alloc (.cells #[.slice none 0 0] 64)) = W1 at *
  gi_wp2_with (first
    | ((refine inl_ldr rfl 63 _ rfl w.heap.size 0 (pC k d) _ Try.underlying63 rfl (by rw [sizPre, pC_len HK.out]) rfl (range_whole (by simpa using HG0.out)) ?_))
    | (refine ⟨trivial, ?_⟩; gi_at_call 46; (refine (callsIn_wide.2 (pbytes_any k d _ HK.out)).mono ?_); rintro e w3 ⟨q, c, rfl, hf3, hb3⟩; have HF3 := Lib.hid hf3; have HB3 := Lib.hid hb3; clear hb3 hf3)
    | (refine ⟨trivial, ?_⟩; gi_at_call 45; (refine (callsIn_wide.2 (leaves_any _ q _ c _)).mono ?_); rintro e w5 ⟨rfl, rfl⟩))
  have hbl := below_alloc2 w3 (.cells #[.pointer (some ⟨tb, 0, none⟩)] 31) (.cells #[.slice q (preB k d).length c] 109)
  have HB3w : Hid (Below w.heap.size w w3) := HB1.out.trans (HB3.out.mono HB1.out.size)
  have HB2 : Hid (Below w.heap.size w ((w3.alloc (.cells #[.pointer (some ⟨tb, 0, none⟩)] 31)).alloc (.cells #[.slice q (preB k d).length c] 109))) := HB3w.out.trans (hbl.mono HB3w.out.size)
  have HGp : Hid (((w3.alloc (.cells #[.pointer (some ⟨tb, 0, none⟩)] 31)).alloc (.cells #[.slice q (preB k d).length c] 109)).heap[w.heap.size]? = some (.cells (pC k d).toArray 63 (0, 0))) := (hbl.block _ (Nat.lt_of_lt_of_le (lt_heap HG0.out) HB3.out.size)).trans ((HB3.out.block _ (lt_heap HG0.out)).trans HG0.out)
  have HGo : Hid (Boxed ((w3.alloc (.cells #[.pointer (some ⟨tb, 0, none⟩)] 31)).alloc (.cells #[.slice q (preB k d).length c] 109)) (w.heap.size + 1) 64 (.slice none 0 0)) := (hbl.block _ (Nat.lt_of_lt_of_le (lt_heap HG1.out) HB3.out.size)).trans ((HB3.out.block _ (lt_heap HG1.out)).trans HG1.out)
  have HGt : Hid (((w3.alloc (.cells #[.pointer (some ⟨tb, 0, none⟩)] 31)).alloc (.cells #[.slice q (preB k d).length c] 109)).heap[w3.heap.size]? = some (.cells #[.pointer (some ⟨tb, 0, none⟩)] 31 (0, 0))) := heap_alloc2_old _ _ _
  have HGb : Hid (((w3.alloc (.cells #[.pointer (some ⟨tb, 0, none⟩)] 31)).alloc (.cells #[.slice q (preB k d).length c] 109)).heap[w3.heap.size + 1]? = some (.cells #[.slice q (preB k d).length c] 109 (0, 0))) := heap_alloc2_new _ _ _
  have HFf : Hid (FrAt ((w3.alloc (.cells #[.pointer (some ⟨tb, 0, none⟩)] 31)).alloc (.cells #[.slice q (preB k d).length c] 109)) q (preB k d)) := HF3.out.below hbl
  generalize ((w3.alloc (.cells #[.pointer (some ⟨tb, 0, none⟩)] 31)).alloc (.cells #[.slice q (preB k d).length c] 109)) = W0 at *
  generalize w3.heap.size = nb at *
  have hBsz := HB2.out.size
  have hT0 := HT.out.below HB2.out
  have hall : (fil (preB k d) (allL (preB k d) o)).length ≤ 1000000 := by
    have := congrArg List.length (fil_all (fr := preB k d) hT0.wf)
    rw [List.length_map] at this
    rw [this]
    exact Nat.le_trans (List.length_filter_le _ _) hn
  have hgl := lt_heap HGo.out
  clear hbl HB1 HG0 HG1 HF3 HB3 HB3w
  refine wpIn_rangeFunc_ownH (F := Fence.wide) rfl (by omega) (gf := 55) (lb := #[.pointer (some ⟨nb, 0, none⟩), .pointer (some ⟨nb + 1, 0, none⟩)]) rfl trivial (enters_of Try.func55 (by kernel_rfl) rfl)
    (lv_stops 4 nb (nb + 1) w.heap.size tb B _ o q (preB k d).length c (preB k d) W0 [64, 30] (by decide) (by decide) (by decide) (by decide) rfl (preB_len k d HK.out) hBsz hT0.n HGt.out HGb.out HFf.out) KpT.trans (KpT.put hBsz) (Below.refl _ _) (fun _ => rfl)
    (fun pre W => (∃ v, Boxed W (w.heap.size + 1) 64 v ∧ W.ownsRow w.heap.size 30 25 v (selK hT0.wf k d pre).length ((selK hT0.wf k d pre).flatMap encK) ∧ True) ∧ (InO W o ∧ W.heap[w.heap.size]? = some (.cells (pC k d).toArray 63 (0, 0)) ∧ Below w.heap.size w W))
    (fun _ _ _ => False)
    (OwnFrom.and (Own.from (holdsRow_own w.heap.size (w.heap.size + 1) 64 30 25 (fun pre : List (LV o) => (selK hT0.wf k d pre).length) (fun pre => (selK hT0.wf k d pre).flatMap encK) (fun _ _ => True)) _) (OwnFrom.and (ownFrom_inO _ o) (OwnFrom.and (ownFrom_cells _ _ _ _) (ownFrom_below (Nat.le_refl _) hBsz))))
    (fun _ _ _ _ _ hs _ _ => hs)
    ⟨⟨_, HGo.out, OwnE.nil _ _, trivial⟩, hT0.ins, HGp.out, HB2.out⟩
    (fun x a' _ => a' = { tmps := #[ptrA tb, .agg (pC k d).toArray, undef, .pointer (some ⟨w.heap.size, 0, none⟩), .slice none 0 0, .pointer (some ⟨w.heap.size + 1, 0, none⟩), .pointer (some ⟨x.val.1, 0, none⟩), ptrA tb, .agg (pC k d).toArray, .slice q (preB k d).length c, .func (.func 55) #[] #[.pointer (some ⟨nb, 0, none⟩), .pointer (some ⟨nb + 1, 0, none⟩)], .pointer (some ⟨x.val.1, 0, none⟩), undef, undef, undef, undef, undef, undef, undef, undef, undef, undef, undef, undef, undef, undef], defers := [] })
    (fun x a' _ X Y row hs _ _ => hs)
    ?assign ?body ?done ?stop
  case assign =>
    rintro l pre x W K hI hK
    have HI := Lib.hid hI
    have HK := Lib.hid hK
    clear hI hK
    unfold encL
    gi_wp2
    exact HK.out _ _ ((KeepsOthers.refl _).from _) (KpT.below HI.out.2.2.2.size (Below.refl _ _)) HI.out rfl
  case body =>
    rintro l pre x a' W hWl _ ⟨⟨v, hv, ho, -⟩, hI, hF, hB⟩ rfl hlt
    have hx := hI.leafAt x.val x.mem
    have hkx := lvsO_len hT0.wf x.val x.mem
    obtain ⟨vq, cap, hve, -⟩ := OwnE.at encK_len ho
    have hlen : (selK hT0.wf k d pre).length ≤ 1000000 := by
      have := selK_len hT0.wf k d pre
      omega
    subst hve
    have HV := Lib.hid hv
    have HO := Lib.hid ho
    have HI := Lib.hid hI
    have HF := Lib.hid hF
    have HB := Lib.hid hB
    have HX := Lib.hid hx
    clear hv ho hI hF hB hlt
    gi_upto_region 4 with fail
    refine wpIn_region_any (by kernel_rfl) (any_round (by kernel_rfl) (fun h => ?_) _ _ _ _ (wpAny_of_held (S := fun w' => Below W.heap.size W w') _ _ _ _ ?_))
    · obtain ⟨_, _, h⟩ := h
      exact h
    show wpAnyH Try.prog Region.Mode.any _ _ _ 6 #[false, false, false, false, false, false] _ (World.drew _)
    have hbd : Below W.heap.size W W.drew := ⟨rfl, rfl, rfl, Nat.le_refl _, fun _ _ => rfl⟩
    generalize W.drew = Wd at *
    refine takeD (i := 0) (v := .agg (pC k d).toArray) 12 rfl rfl (by kernel_rfl) (by kernel_rfl) (by kernel_rfl) (fun _ _ _ h => h) (Or.inl ⟨rfl, fun w' hS => exec_ldr 63 (.tmp 3) rfl w.heap.size 0 (pC k d) _ Try.underlying63 rfl (by rw [sizPre, pC_len HK.out]) rfl (range_whole (by simpa using (hS.block _ (lt_heap HF.out)).trans HF.out))⟩) hbd ?_
    simp only [Act.put, List.setIfInBounds_toArray, List.set_cons_zero, List.set_cons_succ]
    refine takeD (i := 1) (v := .pointer (some ⟨x.val.1, 0, none⟩)) 13 rfl rfl (by kernel_rfl) (by kernel_rfl) (by kernel_rfl) (fun _ _ _ h => h) (Or.inl ⟨rfl, fun w' hS => rfl⟩) hbd ?_
    simp only [Act.put, List.setIfInBounds_toArray, List.set_cons_zero, List.set_cons_succ]
    refine takeD (i := 2) (v := .pointer (some ⟨x.val.1, 0, none⟩)) 14 rfl rfl (by kernel_rfl) (by kernel_rfl) (by kernel_rfl) (fun _ _ _ h => h) (Or.inl ⟨rfl, fun w' hS => exec_nilc (.tmp 13) rfl ⟨x.val.1, 0, none⟩ rfl⟩) hbd ?_
    simp only [Act.put, List.setIfInBounds_toArray, List.set_cons_zero, List.set_cons_succ]
    refine takeD (i := 3) (v := .pointer (some ⟨x.val.1, 1, none⟩)) 15 rfl rfl (by kernel_rfl) (by kernel_rfl) (by kernel_rfl) (fun _ _ _ h => h) (Or.inl ⟨rfl, fun w' hS => by kernel_rfl⟩) hbd ?_
    simp only [Act.put, List.setIfInBounds_toArray, List.set_cons_zero, List.set_cons_succ]
    refine takeD (i := 4) (v := .agg (bC x.val.2.1)) 16 rfl rfl (by kernel_rfl) (by kernel_rfl) (by kernel_rfl) (fun _ _ _ h => h) (Or.inl ⟨rfl, fun w' hS => exec_ldr 30 (.tmp 15) rfl x.val.1 1 (bC x.val.2.1).toList _ Try.underlying30 rfl (by rw [sizKey]; simp [bC, hkx]) rfl (nodeV_key (range_whole ((hS.block _ (lt_heap HX.out)).trans HX.out)))⟩) hbd ?_
    simp only [Act.put, List.setIfInBounds_toArray, List.set_cons_zero, List.set_cons_succ]
    refine oneH 5 (by kernel_rfl) (wpOp_enter rfl rfl (exec_calls rfl (enters_of Try.func47 (by kernel_rfl) rfl) (vs := #[.agg (pC k d).toArray, .agg (bC x.val.2.1)]) (by simp [Act.eval]) Wd) (has_any k d x.val.2.1 Wd HK.out hkx) (fun W3 hb3 => ?_))
    have hb23 : Below W.heap.size W W3 := hbd.trans (hb3.mono hbd.size)
    refine ⟨hb23, ?_⟩
    simp only [Act.put, List.getElem_toArray, List.getElem_cons_zero, List.getElem_cons_succ, List.setIfInBounds_toArray, List.set_cons_zero, List.set_cons_succ]
    refine wpAnyH_done (by kernel_rfl) ?_ _
    have hk3 : KpT w.heap.size [64, 30] W W3 := KpT.below HB.out.size hb23
    have hB3 := HB.out.trans (hb23.mono HB.out.size)
    have HI3 : Hid (InO W3 o) := HI.out.kp (by decide) hk3
    have HF3 : Hid (W3.heap[w.heap.size]? = some (.cells (pC k d).toArray 63 (0, 0))) := (hb23.block _ (lt_heap HF.out)).trans HF.out
    have HO3 : Hid (OwnE encK 30 25 W3 w.heap.size (.slice vq (selK hT0.wf k d pre).length cap) (selK hT0.wf k d pre)) := OwnE.below HO.out hb23
    have HV3 : Hid (Boxed W3 (w.heap.size + 1) 64 (.slice vq (selK hT0.wf k d pre).length cap)) := (hb23.block _ HV.out.lt).trans HV.out
    have HKO := Lib.hid (keeps_below hb23)
    have HX3 : Hid (W3.heap[x.val.1]? = some (.cells (leafC x.val.2.1 x.val.2.2).toArray NODE (0, 0))) := (hb23.block _ (lt_heap HX.out)).trans HX.out
    have HK3 := Lib.hid hk3
    have HB3 := Lib.hid hB3
    have hsn := selK_snoc hT0.wf k d pre x
    clear hk3 hB3 hb3 hb23 hbd HV HO HI HF HB HX hx
    cases hh : hasP k d x.val.2.1 with
    | false =>
      rw [hh, if_neg (by simp)] at hsn
      clear hh
      have HSn := Lib.hid hsn
      clear hsn
      gi_wp2
      exact ⟨HKO.out.from _, HK3.out, ⟨_, HV3.out, by rw [HSn.out]; exact HO3.out, trivial⟩, HI3.out, HF3.out, HB3.out⟩
    | true =>
      rw [hh, if_pos rfl] at hsn
      clear hh
      obtain ⟨y, hyk, hsy⟩ : ∃ y : K25, (Value.agg (bC x.val.2.1) = Value.agg (encK y).toArray) ∧ selK hT0.wf k d (pre ++ [x]) = selK hT0.wf k d pre ++ [y] := ⟨⟨x.val.2.1, lvsO_len hT0.wf x.val x.mem⟩, rfl, hsn⟩
      have HSn := Lib.hid hsy
      clear hsn hsy
      generalize selK hT0.wf k d pre = sl at *
      gi_upto_region 5 with fail
      refine wpIn_region_any (by kernel_rfl) (any_round (by kernel_rfl) (fun h => ?_) _ _ _ _ (wpAny_of_held (S := KpT w.heap.size [64, 30] W3) _ _ _ _ ?_))
      · obtain ⟨_, _, h⟩ := h
        exact h
      show wpAnyH Try.prog Region.Mode.any _ _ _ 8 #[false, false, false, false, false, false, false, false] _ (World.drew _)
      have hbd : Below W3.heap.size W3 W3.drew := ⟨rfl, rfl, rfl, Nat.le_refl _, fun _ _ => rfl⟩
      have hS0 : KpT w.heap.size [64, 30] W3 W3.drew := KpT.below HB3.out.size hbd
      have hSx : ∀ w', KpT w.heap.size [64, 30] W3 w' → w'.heap[x.val.1]? = some (.cells (leafC x.val.2.1 x.val.2.2).toArray NODE (0, 0)) := fun w' h => (h.2 _ _ _ HX3.out (by decide)).trans HX3.out
      have hVd : Boxed W3.drew (w.heap.size + 1) 64 (.slice vq sl.length cap) := HV3.out
      have hOd : OwnE encK 30 25 W3.drew w.heap.size (.slice vq sl.length cap) sl := OwnE.below HO3.out hbd
      have hds : w.heap.size ≤ W3.drew.heap.size := HB3.out.size
      have hkd := keeps_below hbd
      clear hbd
      generalize W3.drew = Wd at *
      refine takeD (i := 1) (v := .pointer (some ⟨x.val.1, 0, none⟩)) 19 rfl rfl (by kernel_rfl) (by kernel_rfl) (by kernel_rfl) (fun _ _ _ h => h) (Or.inl ⟨rfl, fun w' hS => rfl⟩) hS0 ?_
      simp only [Act.put, List.setIfInBounds_toArray, List.set_cons_zero, List.set_cons_succ]
      refine takeD (i := 2) (v := .pointer (some ⟨x.val.1, 0, none⟩)) 20 rfl rfl (by kernel_rfl) (by kernel_rfl) (by kernel_rfl) (fun _ _ _ h => h) (Or.inl ⟨rfl, fun w' hS => exec_nilc (.tmp 19) rfl ⟨x.val.1, 0, none⟩ rfl⟩) hS0 ?_
      simp only [Act.put, List.setIfInBounds_toArray, List.set_cons_zero, List.set_cons_succ]
      refine takeD (i := 3) (v := .pointer (some ⟨x.val.1, 1, none⟩)) 21 rfl rfl (by kernel_rfl) (by kernel_rfl) (by kernel_rfl) (fun _ _ _ h => h) (Or.inl ⟨rfl, fun w' hS => by kernel_rfl⟩) hS0 ?_
      simp only [Act.put, List.setIfInBounds_toArray, List.set_cons_zero, List.set_cons_succ]
      refine takeD (i := 4) (v := .agg (bC x.val.2.1)) 22 rfl rfl (by kernel_rfl) (by kernel_rfl) (by kernel_rfl) (fun _ _ _ h => h) (Or.inl ⟨rfl, fun w' hS => exec_ldr 30 (.tmp 21) rfl x.val.1 1 (bC x.val.2.1).toList _ Try.underlying30 rfl (by rw [sizKey]; simp [bC, hkx]) rfl (nodeV_key (range_whole (hSx w' hS)))⟩) hS0 ?_
      simp only [Act.put, List.setIfInBounds_toArray, List.set_cons_zero, List.set_cons_succ]
      have hba := below_alloc1 Wd (.cells (encK y).toArray 30)
      have hkb := hS0.trans (KpT.below hds hba)
      refine free_bs (.cells (encK y).toArray 30) hS0 hkb 0 5 18 23 (.slice vq sl.length cap) rfl rfl rfl rfl rfl rfl (by decide) (by decide) (by kernel_rfl) (by kernel_rfl) (by kernel_rfl)
        (exec_ld1G _ agKs (.tmp 5) rfl _ 0 _ rfl hVd.cell) (exec_ld1G _ agKs (.tmp 5) rfl _ 0 _ rfl ((cell_of (hba.block _ hVd.lt) 0).trans hVd.cell))
        (exec_bs1 (enc := encK) (k := 25) 64 30 25 _ Try.underlying64 infoKey (by omega) (by omega) encK_len (.tmp 22) rfl y (by exact hyk)) (exec_bs1 (enc := encK) (k := 25) 64 30 25 _ Try.underlying64 infoKey (by omega) (by omega) encK_len (.tmp 22) rfl y (by exact hyk)) ?_
      simp only [Act.put, List.setIfInBounds_toArray, List.set_cons_zero, List.set_cons_succ]
      refine oneH 6 (by kernel_rfl) (wpOp_wp rfl rfl (op_app (enc := encK) (k := 25) 64 30 25 _ Try.underlying64 infoKey kz_sz (by omega) encK_len encK_one (.tmp 18) (.tmp 23) rfl w.heap.size _ sl rfl (hOd.below hba) (some ⟨Wd.heap.size, 0, none⟩) 1 1 [y] rfl rfl (slat1 Wd _ _) (fun e => by cases e) (by omega) (by unfold maxLen; omega) (by simp; omega) (fun v' w3 ho3 hg3 _ => ?_)))
      obtain ⟨hv1, hv3, hr3, hk3, hb3⟩ := hVd.appended (by decide) hOd hds (Nat.le_succ _) ho3 hg3
      have hk1 : KpT w.heap.size [64, 30] W3 w3 := hkb.trans (kpT_grow (hOd.below hba) (by simp) hg3 (Nat.le_trans hds hba.size))
      have hk2 := hk1.trans (kpT_set (v' := v') hv1 (by simp) (Nat.le_succ _))
      refine ⟨hk1, ?_⟩
      simp only [Act.put, List.setIfInBounds_toArray, List.set_cons_zero, List.set_cons_succ]
      refine oneH 7 (by kernel_rfl) (wpOp_skip rfl rfl (w' := w3.setCell ⟨w.heap.size + 1, 0, none⟩ v') ?_ ⟨hk2, ?_⟩)
      · exact exec_stB sizKs (.tmp 5) (.tmp 24) rfl _ v' hv1 rfl rfl (oneSlice ho3)
      refine wpAnyH_done (by kernel_rfl) ?_ _
      have hk4 := HK3.out.trans hk2
      refine ⟨(HKO.out.trans (hkd.trans hk3)).from _, hk4, ⟨v', hv3, ?_, trivial⟩, HI3.out.kp (by decide) hk2, (hk2.2 _ _ _ HF3.out (by decide)).trans HF3.out, HB3.out.trans hk2.1⟩
      rw [HSn.out]
      exact hr3
  case done =>
    rintro D ys W hD rfl ⟨⟨v, hv, ho, _⟩, hI, hF, hB⟩ hK
    have hc := hv.cell
    have HKs := Lib.hid (selK_keys hT0.wf k d HK.out)
    gi_wp2
    refine ⟨by simp, .inl ⟨_, _, rfl, run_takeDeferred hK, ?_⟩⟩
    exact ⟨_, results_tmp rfl _ _ _, v, selK hT0.wf k d _, rfl, ownsRow_putObj ho _ hK rfl, HKs.out, hB.trans (belowK_b (w := w) (Nat.le_refl _) W D _ _ (by omega) hK rfl rfl)⟩
  case stop =>
    rintro D c pre W _ _ h _
    exact h.elim
end Go.Proofs.Ytagdedjclbmlkaa

/- The first key. -/
namespace Go.Proofs.Ytagdedjclbmlkaa
open Go.RowKit

attribute [local go_sem] Oper.semAt_some

set_option maxRecDepth 100000 in
set_option maxHeartbeats 4000000 in
theorem first_any (o : Option T) (w : World) (B tb : Nat) (hT : TreeAt w B tb o) :
    Calls Try.prog 28 #[ptrA tb] w fun e w' => e = .returned (nextR ((allO o).head?.map (·.1))) ∧ Below w.heap.size w w' := by
  refine (callsIn_wide (n := 5)).1 ?_
  refine callsIn_of_wp_marks Try.func28 rfl trivial ?_ rfl
  simp only [Try.ntmps28, List.size_toArray, List.length_cons, List.length_nil, Nat.reduceAdd, Nat.reduceSub, Array.replicate_succ, Array.replicate_zero, List.push_toArray, List.append_toArray, List.nil_append, List.cons_append]
  have HT := Lib.hid hT
  have HBw := Lib.hid (below_alloc2 w (.cells (bC z25) 30) (.cells #[.bool false] 4))
  have HZ1 : Hid (((w.alloc (.cells (bC z25) 30)).alloc (.cells #[.bool false] 4)).heap.size = w.heap.size + 2) := by show _ = _; simp
  have HE1 : Hid (((w.alloc (.cells (bC z25) 30)).alloc (.cells #[.bool false] 4)).heap[w.heap.size]? = some (.cells (bC z25) 30 (0, 0))) := heap_alloc2_old _ _ _
  have HE2 : Hid (((w.alloc (.cells (bC z25) 30)).alloc (.cells #[.bool false] 4)).heap[w.heap.size + 1]? = some (.cells #[.bool false] 4 (0, 0))) := heap_alloc2_new _ _ _
  clear hT
  gi_upto_region 1 with fail
  show Code.wpIn _ _ _ _ _ _ ((w.alloc (.cells (bC z25) 30)).alloc (.cells #[.bool false] 4))
  generalize ((w.alloc (.cells (bC z25) 30)).alloc (.cells #[.bool false] 4)) = W3 at *
  gi_wp2_with (first
    | (refine ⟨trivial, ?_⟩; gi_at_call 45; (refine (callsIn_wide.2 (leaves_any _ none 0 0 _)).mono ?_); rintro e w5 ⟨rfl, rfl⟩))
  have hbl := below_alloc2 W3 (.cells #[.pointer (some ⟨tb, 0, none⟩)] 31) (.cells #[.slice none 0 0] 109)
  have HB0 : Hid (Below w.heap.size w ((W3.alloc (.cells #[.pointer (some ⟨tb, 0, none⟩)] 31)).alloc (.cells #[.slice none 0 0] 109))) := HBw.out.trans (hbl.mono HBw.out.size)
  have HD1 : Hid (((W3.alloc (.cells #[.pointer (some ⟨tb, 0, none⟩)] 31)).alloc (.cells #[.slice none 0 0] 109)).heap[w.heap.size]? = some (.cells (bC z25) 30 (0, 0))) := (hbl.block _ (lt_heap HE1.out)).trans HE1.out
  have HD2 : Hid (((W3.alloc (.cells #[.pointer (some ⟨tb, 0, none⟩)] 31)).alloc (.cells #[.slice none 0 0] 109)).heap[w.heap.size + 1]? = some (.cells #[.bool false] 4 (0, 0))) := (hbl.block _ (lt_heap HE2.out)).trans HE2.out
  have HDt : Hid (((W3.alloc (.cells #[.pointer (some ⟨tb, 0, none⟩)] 31)).alloc (.cells #[.slice none 0 0] 109)).heap[W3.heap.size]? = some (.cells #[.pointer (some ⟨tb, 0, none⟩)] 31 (0, 0))) := heap_alloc2_old _ _ _
  have HDb : Hid (((W3.alloc (.cells #[.pointer (some ⟨tb, 0, none⟩)] 31)).alloc (.cells #[.slice none 0 0] 109)).heap[W3.heap.size + 1]? = some (.cells #[.slice none 0 0] 109 (0, 0))) := heap_alloc2_new _ _ _
  clear hbl HBw HE1 HE2 HZ1
  generalize ((W3.alloc (.cells #[.pointer (some ⟨tb, 0, none⟩)] 31)).alloc (.cells #[.slice none 0 0] 109)) = W0 at *
  generalize W3.heap.size = nb at *
  have hBsz := HB0.out.size
  have hT0 := HT.out.below HB0.out
  refine wpIn_rangeFunc_ownH (F := Fence.wide) rfl (by omega) (gf := 55) (lb := #[.pointer (some ⟨nb, 0, none⟩), .pointer (some ⟨nb + 1, 0, none⟩)]) rfl trivial (enters_of Try.func55 (by kernel_rfl) rfl)
    (lv_stops 4 nb (nb + 1) w.heap.size tb B _ o none 0 0 [] W0 [] (by decide) (by decide) (by decide) (by decide) rfl (by omega) hBsz hT0.n HDt.out HDb.out (.inl rfl)) KpT.trans (KpT.put hBsz) (Below.refl _ _) (fun _ => rfl)
    (fun pre W => (InO W o ∧ W.heap[w.heap.size]? = some (.cells (bC z25) 30 (0, 0)) ∧ W.heap[w.heap.size + 1]? = some (.cells #[.bool false] 4 (0, 0)) ∧ Below w.heap.size w W) ∧ pre = [])
    (fun c pre W => ∃ x, (W.heap[w.heap.size]? = some (.cells (bC x.val.2.1) 30 (0, 0)) ∧ W.heap[w.heap.size + 1]? = some (.cells #[.bool true] 4 (0, 0)) ∧ Below w.heap.size w W) ∧ c = .ret ∧ pre = [x])
    (OwnFrom.and (OwnFrom.and (ownFrom_inO _ o) (OwnFrom.and (ownFrom_cells _ _ _ _) (OwnFrom.and (ownFrom_cells _ _ _ _) (ownFrom_below (Nat.le_refl _) hBsz)))) (fun _ _ _ _ hs _ _ => hs))
    (fun c s X Y row hs hg hrow => by obtain ⟨x, hs, hr⟩ := hs; exact ⟨x, ⟨ownFrom_cells (β := Unit) _ _ _ _ () X Y row hs.1 hg hrow, ownFrom_cells (β := Unit) _ _ _ _ () X Y row hs.2.1 hg hrow, ownFrom_below (β := Unit) (Nat.le_refl _) hBsz () X Y row hs.2.2 hg hrow⟩, hr⟩)
    ⟨⟨hT0.ins, HD1.out, HD2.out, HB0.out⟩, rfl⟩
    (fun x a' _ => a' = { tmps := #[ptrA tb, undef, .pointer (some ⟨w.heap.size, 0, none⟩), .pointer (some ⟨w.heap.size + 1, 0, none⟩), .pointer (some ⟨x.val.1, 0, none⟩), ptrA tb, .func (.func 55) #[] #[.pointer (some ⟨nb, 0, none⟩), .pointer (some ⟨nb + 1, 0, none⟩)], .pointer (some ⟨x.val.1, 0, none⟩), undef, undef, undef, undef, undef], defers := [] })
    (fun x a' _ X Y row hs _ _ => hs)
    ?assign ?body ?done ?stop
  case assign =>
    rintro l pre x W K hI hK
    have HI := Lib.hid hI
    have HK2 := Lib.hid hK
    clear hI hK
    unfold encL
    gi_wp2
    exact HK2.out _ _ ((KeepsOthers.refl _).from _) (KpT.below HI.out.1.2.2.2.size (Below.refl _ _)) HI.out rfl
  case body =>
    rintro l pre x a' W hWl _ ⟨⟨hI, h1, h2, hB⟩, rfl⟩ rfl hlt
    have hx := hI.leafAt x.val x.mem
    have hkx := lvsO_len hT0.wf x.val x.mem
    have HX := Lib.hid hx
    have H1 := Lib.hid h1
    have H2 := Lib.hid h2
    have HB := Lib.hid hB
    have HKx := Lib.hid hkx
    clear hI h1 h2 hB hlt hx hkx
    gi_wp2_with (first
      | ((refine inl_ldr rfl 30 _ rfl x.val.1 1 (bC x.val.2.1).toList _ Try.underlying30 rfl (by rw [sizKey]; simp [bC, HKx.out]) rfl (nodeV_key (range_whole HX.out)) ?_))
      | ((refine inl_str rfl 30 _ _ rfl w.heap.size (bC x.val.2.1) (bC z25) 30 (by rw [sizKey, bC_size, HKx.out]) (by rw [bC_size, bC_size, HKx.out]; rfl) (bC_one _) rfl rfl H1.out ?_))
      | ((refine in_skip rfl (by intro c hc; cases hc) (by intro c hc; cases hc) _ (exec_st1G 4 siz4c _ _ rfl (w.heap.size + 1) 0 (.bool true) rfl rfl rfl [.bool false] 4 ((setRow_other _ _ _ _ (by omega)).trans H2.out) (by simp)) ?_)))
    have hg2 : ((W.setRow w.heap.size (bC x.val.2.1)).heap[w.heap.size + 1]? = some (.cells #[.bool false] 4 (0, 0))) := (setRow_other _ _ _ _ (by omega)).trans H2.out
    refine ⟨((keeps_setRow H1.out).trans (keeps_setRow hg2)).from _, x, ⟨(setRow_other _ _ _ _ (by omega)).trans (setRow_at H1.out), setRow_at hg2, setRow_below (setRow_below HB.out (Nat.le_refl _) _) (by omega) _⟩, rfl, rfl⟩
  case done =>
    rintro D ys W hD rfl ⟨⟨hI, h1, h2, hB⟩, hn⟩ hK
    have HN : Hid ((allO o).head?.map (·.1) = none) := by
      show _ = _
      rw [allO_fil hT0.wf, hn]; rfl
    have H1 := Lib.hid h1
    have H2 := Lib.hid h2
    have HB := Lib.hid hB
    have HKd := Lib.hid hK
    have HD := Lib.hid hD
    clear hn h1 h2 hB hK hI hD
    gi_wp2_with (first
      | ((refine inl_str rfl 30 _ _ rfl w.heap.size (bC z25) (bC z25) 30 (by rw [sizKey, bC_size]; rfl) rfl (bC_one _) rfl rfl H1.out ?_))
      | ((refine in_skip rfl (by intro c hc; cases hc) (by intro c hc; cases hc) _ (exec_st1G 4 siz4c _ _ rfl (w.heap.size + 1) 0 (.bool false) rfl rfl rfl [.bool false] 4 ((setRow_other _ _ _ _ (by omega)).trans H2.out) (by simp)) ?_)))
    have hsz := lt_heap HD2.out
    have hlD := HD.out
    have hg2 : ((W.setRow w.heap.size (bC z25)).heap[w.heap.size + 1]? = some (.cells #[.bool false] 4 (0, 0))) := (setRow_other _ _ _ _ (by omega)).trans H2.out
    have e1 : ((W.setRow w.heap.size (bC z25)).setRow (w.heap.size + 1) #[.bool false]).heap[w.heap.size]? = some (.cells (bC z25) 30 (0, 0)) := (setRow_other _ _ _ _ (by omega)).trans (setRow_at H1.out)
    have e2 : ((W.setRow w.heap.size (bC z25)).setRow (w.heap.size + 1) #[.bool false]).heap[w.heap.size + 1]? = some (.cells #[.bool false] 4 (0, 0)) := setRow_at hg2
    have e3 : ((W.setRow w.heap.size (bC z25)).setRow (w.heap.size + 1) #[.bool false]).heap[D]? = some (.deferred (some [])) := (setRow_other _ _ _ _ (by omega)).trans ((setRow_other _ _ _ _ (by omega)).trans HKd.out)
    have e4 : Below w.heap.size w ((W.setRow w.heap.size (bC z25)).setRow (w.heap.size + 1) #[.bool false]) := setRow_below (setRow_below HB.out (Nat.le_refl _) _) (by omega) _
    show bodyPostM _ _ _ _ _ _ _ ((W.setRow w.heap.size (bC z25)).setRow (w.heap.size + 1) #[.bool false])
    generalize (W.setRow w.heap.size (bC z25)).setRow (w.heap.size + 1) #[.bool false] = W8 at *
    refine ⟨by simp, .inl ⟨_, _, rfl, run_takeDeferred e3, ?_⟩⟩
    refine ⟨_, res_rowc_cell rfl _ _ w.heap.size (w.heap.size + 1) (bC z25) (0, 0) (.bool false) rfl ((World.putObj_heap_other (by omega)).trans e1) Try.underlying30 rfl (by rw [sizKey, bC_size]; rfl) rfl (load_bool ((World.putObj_heap_other (by omega)).trans e2)), ?_, e4.trans (belowK_b (w := w) (Nat.le_refl _) W8 D _ _ (by omega) e3 rfl rfl)⟩
    rw [HN.out]
    rfl
  case stop =>
    rintro D c pre W hD hp ⟨x, ⟨h1, h2, hB⟩, rfl, rfl⟩ hK
    have HN : Hid ((allO o).head?.map (·.1) = some x.val.2.1) := by
      show _ = _
      obtain ⟨r, hr⟩ := hp
      rw [allO_fil hT0.wf, ← hr]; rfl
    have hkx := lvsO_len hT0.wf x.val x.mem
    have hsz := lt_heap HD2.out
    gi_wp2
    refine ⟨by simp, .inl ⟨_, _, rfl, run_takeDeferred hK, ?_⟩⟩
    refine ⟨_, res_rowc_cell rfl _ _ w.heap.size (w.heap.size + 1) (bC x.val.2.1) (0, 0) (.bool true) rfl ((World.putObj_heap_other (by omega)).trans h1) Try.underlying30 rfl (by rw [sizKey, bC_size, hkx]) rfl (load_bool ((World.putObj_heap_other (by omega)).trans h2)), ?_, hB.trans (belowK_b (w := w) (Nat.le_refl _) W D _ _ (by omega) hK rfl rfl)⟩
    rw [HN.out]
    rfl
end Go.Proofs.Ytagdedjclbmlkaa
