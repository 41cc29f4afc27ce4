/- Put. -/
import Derived.Test.YtagdedjclbmlkaaC9
import Derived.Test.YtagdedjclbmlkaaGX
namespace Go.Proofs.Ytagdedjclbmlkaa
open Go.RowKit

theorem near_addr (k : List UInt8) : ∀ t : T, (T.near k t).1 ∈ t.addrs
  | .leaf _ _ _ => by simp [T.near, T.addrs]
  | .fork a b l r => by
    unfold T.near
    split
    · simp [T.addrs, near_addr k r]
    · simp [T.addrs, near_addr k l]
theorem tick {W : World} {B tb : Nat} {n : Int} {o : Option T} (h : TreeN W B tb n o) (m : Int) : TreeN (W.setCell ⟨tb, 1, none⟩ (.int .i64 m)) B tb m o where
  tree := heap_setCell_self _ h.tree
  ins := by
    have hn := h.nod
    rw [List.nodup_cons] at hn
    cases o with
    | none => trivial
    | some t => exact InT.keep (t := t) h.ins fun a ha => heap_setCell_other _ (fun e => hn.1 (e ▸ ha))
  nod := h.nod
  wf := h.wf
  base := h.base
theorem exec_nilc {P : Program} {o : Oper} {a : Act} {w : World} (x : Operand) (ho : o.op = .nilCheck x) (p : Addr) (hx : a.eval x = .pointer (some p)) : (execOp a.eval o).run P w = .ok (.value (.pointer (some p))) w := by
  unfold execOp
  simp only [ho, hx]
  simp [go_sem]
theorem exec_kids {o : Oper} {a : Act} {w : World} (x : Operand) (ho : o.op = .fieldAddr NODE x 5) (b : Nat) (hx : a.eval x = .pointer (some ⟨b, 0, none⟩)) : (execOp a.eval o).run Try.prog w = .ok (.value (.pointer (some ⟨b, 53, none⟩))) w := by
  unfold execOp
  simp only [ho, hx]
  kernel_rfl
theorem exec_kid {o : Oper} {a : Act} {w : World} (x y : Operand) (ho : o.op = .indexAddr 88 x y) (b s : Nat) (hs : s < 2) (hx : a.eval x = .pointer (some ⟨b, 53, none⟩)) (hy : a.eval y = .int .i64 (s : Int)) : (execOp a.eval o).run Try.prog w = .ok (.value (.pointer (some ⟨b, 53 + s, none⟩))) w := by
  unfold execOp
  simp only [ho, hx, hy]
  obtain rfl | rfl : s = 0 ∨ s = 1 := by omega
  · kernel_rfl
  · kernel_rfl
theorem exec_1s {o : Oper} {a : Act} {w : World} (x : Operand) (ho : o.op = .binOp .sub 3 (.const (.int .i64 1)) x 3) (s : Nat) (hs : s < 2) (hx : a.eval x = .int .i64 (s : Int)) : (execOp a.eval o).run Try.prog w = .ok (.value (.int .i64 ((1 - s : Nat) : Int))) w := by
  have h1 : a.eval (.const (.int .i64 1)) = .int .i64 1 := rfl
  unfold execOp
  simp only [ho, hx, h1]
  obtain rfl | rfl : s = 0 ∨ s = 1 := by omega
  · simp [go_sem]; decide
  · simp [go_sem]; decide
theorem sizPt : (Try.prog.info? 80).map (·.size) = some 1 := by kernel_rfl
theorem slot_mem (tb : Nat) (z : Zip) (t : T) : (slotZ tb z).block ∈ tb :: (plug z t).addrs := by
  refine (List.Perm.cons tb (plug_addrs z t)).mem_iff.2 ?_
  rcases slot_blk tb z with e | e
  · rw [e]; simp
  · exact List.mem_cons_of_mem _ (List.mem_append.2 (.inr e))
/-- A pointer stored in one cell of a row. -/
theorem exec_stP {o : Oper} {a : Act} {w : World} (x y : Operand) (ho : o.op = .store 80 x y) (b i : Nat) (v : Value) (hv : v.oneCell' = true) (cs : Array Value) (T' : TypeId) (hx : a.eval x = .pointer (some ⟨b, i, none⟩)) (hy : a.eval y = v) (hg : w.heap[b]? = some (.cells cs T' (0, 0))) (hi : i < cs.size) :
    ∃ w', (execOp a.eval o).run Try.prog w = .ok .skip w' ∧ w'.heap[b]? = some (.cells (cs.setIfInBounds i v) T' (0, 0)) ∧ Turn [b] w w' := by
  have h := exec_st1G (P := Try.prog) (a := a) (w := w) 80 sizPt x y ho b i v hx hy hv cs.toList T' (by simpa using hg) (by simp; omega)
  refine ⟨_, h, ?_, ⟨rfl, rfl, rfl, by simp, fun k _ hr => setRow_other _ _ _ _ (by simpa using hr)⟩⟩
  rw [setRow_at hg]
  congr 1
  congr 1
  apply Array.ext'
  simp [List.set_eq_take_append_cons_drop, show i < cs.size from hi]
theorem wpOp_stP {Q : Exit → Act → World → Prop} {ops : Array Oper} {i : Nat} {o : Oper} {a : Act} {w : World} {K : Act → World → Prop} (hi : ops[i]? = some o) (hgd : o.guard = none) (x y : Operand) (ho : o.op = .store 80 x y) (b j : Nat) (v : Value) (hv : v.oneCell' = true) (cs : Array Value) (T' : TypeId) (hx : a.eval x = .pointer (some ⟨b, j, none⟩)) (hy : a.eval y = v) (hg : w.heap[b]? = some (.cells cs T' (0, 0))) (hj : j < cs.size)
    (h : ∀ w', w'.heap[b]? = some (.cells (cs.setIfInBounds j v) T' (0, 0)) → Turn [b] w w' → K (a.put o.dst undef) w') : wpOp Try.prog ops Q i K a w :=
  have ⟨w', h1, h2, h3⟩ := exec_stP x y ho b j v hv cs T' hx hy hg hj
  wpOp_skip hi hgd h1 (h w' h2 h3)
theorem ins_mem (la fa : Nat) (k : List UInt8) (v : Int) (d : Nat) : ∀ (t : T) (x : Nat), x ∈ (T.ins la fa k v d t).addrs → x ∈ t.addrs ∨ x = la ∨ x = fa
  | .leaf a y u, x, h => by
    unfold T.ins at h
    split at h
    · simp only [T.addrs, List.mem_cons, List.mem_append, List.not_mem_nil, or_false] at h ⊢
      rcases h with h | h | h <;> simp [h]
    · simp only [T.addrs, List.mem_cons, List.mem_append, List.not_mem_nil, or_false] at h ⊢
      rcases h with h | h | h <;> simp [h]
  | .fork a b l r, x, h => by
    unfold T.ins at h
    split at h
    · split at h
      · simp only [T.addrs, List.mem_cons, List.mem_append] at h ⊢
        rcases h with h | h | h
        · simp [h]
        · simp [h]
        · rcases ins_mem la fa k v d r x h with h | h | h <;> simp [h]
      · simp only [T.addrs, List.mem_cons, List.mem_append] at h ⊢
        rcases h with h | h | h
        · simp [h]
        · rcases ins_mem la fa k v d l x h with h | h | h <;> simp [h]
        · simp [h]
    · split at h
      · simp only [T.addrs, List.mem_cons, List.mem_append, List.not_mem_nil, or_false] at h ⊢
        rcases h with h | (h | h | h) | h <;> simp [h]
      · simp only [T.addrs, List.mem_cons, List.mem_append, List.not_mem_nil, or_false] at h ⊢
        rcases h with h | h | h | h | h <;> simp [h]
set_option maxRecDepth 100000 in
set_option maxHeartbeats 16000000 in
theorem put_anyS (k : List UInt8) (v : Int) (w : World) (B tb : Nat) (o : Option T) (hk : k.length = 25) (hT : TreeAt w B tb o) (hB : B ≤ w.heap.size) (hsz : (allO o).length ≤ 1000000) :
    Calls Try.prog 13 #[ptrA tb, .agg (bC k), .int .i64 v] w fun e w' => e = .returned (.bool (!hasO k o)) ∧ ∃ o', TreeAt w' B tb o' ∧ allO o' = putL (allO o) k v ∧ Turn (tb :: addrsO o) w w' ∧ ∀ x ∈ addrsO o', x ∈ addrsO o ∨ w.heap.size ≤ x := by
  have HN0 := Lib.hid (heap_alloc_new w (.cells (bC k) 30))
  have HB0 := Lib.hid (below_alloc1 w (.cells (bC k) 30))
  have HT := Lib.hid (hT.below (below_alloc1 w (.cells (bC k) 30)))
  have KB := Lib.hid (fun W => keyBytes_any k W hk)
  have HK := Lib.hid hk
  have HBs := Lib.hid hB
  have HSz := Lib.hid hsz
  have HFr : Hid (∀ a ∈ tb :: addrsO o, a < w.heap.size) := hT.lt
  have KF : Hid (∀ W, TreeAt W B tb o → Calls Try.prog 34 #[.pointer (some ⟨tb, 0, none⟩), .agg (bC k)] W fun e w' => e = .returned (findV k o) ∧ Below W.heap.size W w') := fun W h => find_any k W B tb o HK.out h
  have KN : Hid (∀ W n, TreeN W B tb n o → Calls Try.prog 38 #[.pointer (some ⟨tb, 0, none⟩), .agg (bC k)] W fun e w' => e = .returned (nearV k o) ∧ Below W.heap.size W w') := fun W n h => near_any k W B tb n o HK.out h
  clear hT hk hB hsz
  unfold ptrA
  cases o with
  | none =>
    simp only [findV, nearV] at KF KN
    go_enter Try.func13, Try.ntmps13
    go_upto_region 1 with fail
    generalize w.alloc (.cells (bC k) 30) = W0 at *
    go_upto_region 7 with (first
      | ((with_reducible refine gate_ld 30 (.tmp 4) rfl ?_); refine wl_ldr rfl 30 _ rfl w.heap.size 0 (bC k).toList _ Try.underlying30 rfl (by rw [sizKey]; simp [bC, HK.out]) rfl (range_whole (by simpa using HN0.out)) ?_)
      | (go_at_call 34; (refine (KF.out _ HT.out).mono ?_); rintro e W2 ⟨rfl, hb2⟩; have HB2 : Hid (Below W0.heap.size W0 W2) := hb2; clear hb2))
    refine wp_region_below_tail 5 (by kernel_rfl) (by kernel_rfl) ?_
    simp only [List.take_succ_cons, List.take_zero, List.drop_succ_cons, List.drop_zero]
    have HK2 : Hid (W2.heap[w.heap.size]? = some (.cells (bC k) 30 (0, 0))) := (HB2.out.block _ (lt_heap HN0.out)).trans HN0.out
    repeat (first
      | (with_reducible refine wq_ldr rfl 30 (.tmp 4) rfl w.heap.size 0 (bC k).toList _ Try.underlying30 rfl (by rw [sizKey]; simp [bC, HK.out]) rfl (range_whole (by simpa using HK2.out)) (lt_heap HK2.out) ?_; simp only [Act.put, List.setIfInBounds_toArray, List.set_cons_zero, List.set_cons_succ])
      | (refine wq_bd _ rfl NODE [(0, .const (.bool true)), (1, .tmp 25), (2, .tmp 27), (3, .tmp 28)] rfl [(0, .bool true), (1, .agg (bC k)), (2, .agg (bC k)), (3, .int .i64 v)] rfl (leafC k v).toArray (builtLeaf k HK.out v) ?_; simp only [Act.put, List.setIfInBounds_toArray, List.set_cons_zero, List.set_cons_succ])
      | go_big_quiet_step (first | (with_reducible exact rg_call KB.out _ _)))
    refine wpQuiet_nil ?_
    rintro _ ⟨⟨dq, osq⟩, rfl⟩
    have HB3 : Hid (Below w.heap.size w (Sort.grow (redrawn W2 dq) osq)) := (HB0.out.trans (HB2.out.mono HB0.out.size)).trans ((below_regrown W2 dq osq).mono (Nat.le_trans HB0.out.size HB2.out.size))
    have HT3 : Hid (TreeAt (Sort.grow (redrawn W2 dq) osq) B tb none) := (HT.out.below HB2.out).below (below_regrown W2 dq osq)

    clear HB2 HK2
    generalize Sort.grow (redrawn W2 dq) osq = W3 at *
    obtain ⟨la, hla⟩ : ∃ la, la = W3.heap.size := ⟨_, rfl⟩
    have HL4 : Hid ((W3.alloc (.cells (leafC k v).toArray NODE)).heap[la]? = some (.cells (leafC k v).toArray NODE (0, 0))) := by show _ = _; rw [hla]; exact heap_alloc_new _ _
    have HT4 : Hid (TreeAt (W3.alloc (.cells (leafC k v).toArray NODE)) B tb none) := HT3.out.below (below_alloc1 _ _)
    have HB4 : Hid (Below w.heap.size w (W3.alloc (.cells (leafC k v).toArray NODE))) := HB3.out.alloc HB3.out.size _
    have HLB : Hid (B ≤ la) := by have h1 := HBs.out; have h2 := HB3.out.size; show _ ≤ _; omega
    have HLw : Hid (w.heap.size ≤ la) := by have h2 := HB3.out.size; show _ ≤ _; omega
    have HLn : Hid (la ≠ tb) := fun e => by have h1 := HT3.out.lt tb (by simp); omega
    have HLm : Hid (la ∉ tb :: addrsO none) := fun e => by have h1 := HT3.out.lt la e; omega

    go_upto_region 8 with fail
    rw [← hla]
    generalize W3.alloc (.cells (leafC k v).toArray NODE) = W4 at *
    clear hla HT3 HB3
    have hc4 : W4.cell? ⟨tb, 1, none⟩ = some (.int .i64 (0 : Int)) := by rw [cell_blk HT4.out.tree]; rfl
    have hf4 : W4.frozen? ⟨tb, 1, none⟩ = false := by simp [World.frozen?, HT4.out.tree]
    have HT5 : Hid (TreeN (W4.setCell ⟨tb, 1, none⟩ (.int .i64 1)) B tb 1 none) := tick HT4.out.n _
    have HL5 : Hid ((W4.setCell ⟨tb, 1, none⟩ (.int .i64 1)).heap[la]? = some (.cells (leafC k v).toArray NODE (0, 0))) := (heap_setCell_other _ HLn.out).trans HL4.out
    have HRg5 : Hid ((W4.setCell ⟨tb, 1, none⟩ (.int .i64 1)).rangeAt la 26 (bC k).toList) := nodeV_bytes (range_whole HL5.out) HK.out

    have HTu5 : Hid (Turn (tb :: addrsO none) w (W4.setCell ⟨tb, 1, none⟩ (.int .i64 1))) := (Turn.of_below HB4.out).trans ((Turn.setCell tb 1 _ W4).mono fun x _ hx => by simp at hx; subst hx; simp)
    clear HT4 HL4 HB4
    go_upto_region 9 with fail
    generalize W4.setCell ⟨tb, 1, none⟩ _ = W5 at *
    go_upto_region 11 with (first
      | ((with_reducible refine gate_ld 85 (.tmp 41) rfl ?_); refine wl_ldr rfl 85 _ rfl la 26 (bC k).toList _ Try.underlying85 rfl (by rw [siz25]; simp [bC, HK.out]) rfl HRg5.out ?_)
      | (go_at_call 38; (refine (KN.out _ _ HT5.out).mono ?_); rintro e W6 ⟨rfl, hb6⟩; have HB6 : Hid (Below W5.heap.size W5 W6) := hb6; clear hb6))
    have HT6 : Hid (TreeN W6 B tb 1 none) := HT5.out.below HB6.out
    have HL6 : Hid (W6.heap[la]? = some (.cells (leafC k v).toArray NODE (0, 0))) := (HB6.out.block _ (lt_heap HL5.out)).trans HL5.out
    have hc6 : W6.cell? ⟨tb, 0, none⟩ = some (.pointer none) := by rw [cell_blk HT6.out.tree]; rfl
    have hf6 : W6.frozen? ⟨tb, 0, none⟩ = false := by simp [World.frozen?, HT6.out.tree]
    go_wp2_with fail
    go_ret
    refine ⟨rfl, some (.leaf la k v), ⟨?_, ?_, ?_, HK.out, ?_⟩, rfl, ?_, ?_⟩
    · exact heap_setCell_self _ HT6.out.tree
    · exact (heap_setCell_other _ HLn.out).trans HL6.out
    · show (tb :: [la]).Nodup
      simp [show tb ≠ la from fun e => HLn.out e.symm]
    · intro x hx
      have hx : x ∈ tb :: [la] := hx
      rcases List.mem_cons.1 hx with rfl | hx
      · exact HT6.out.base _ (by simp)
      · rw [List.mem_singleton] at hx
        rw [hx]; exact HLB.out
    · refine HTu5.out.trans ((Turn.of_below HB6.out).trans ?_)
      exact (Turn.setCell tb 0 _ W6).mono fun x _ hx => by simp at hx; subst hx; simp
    · intro x hx
      have hx : x ∈ [la] := hx
      rw [List.mem_singleton] at hx
      rw [hx]; exact .inr HLw.out
  | some t =>
    by_cases hfound : (T.near k t).2.1 = k
    · have HFd := Lib.hid hfound
      simp only [findV, ptrA, if_pos hfound] at KF
      have HLf : Hid ((w.alloc (.cells (bC k) 30)).heap[(T.near k t).1]? = some (.cells (leafC k (T.near k t).2.2).toArray NODE (0, 0))) := by
        have := near_leaf (k := k) (t := t) (w := w.alloc (.cells (bC k) 30)) HT.out.ins
        rw [hfound] at this; exact this
      have HUp : Hid (∀ W, TreeAt W B tb (some t) → TreeAt (W.setCell ⟨(T.near k t).1, 51, none⟩ (.int .i64 v)) B tb (some (T.upd k v t))) := fun W h => upd_in v h HFd.out HK.out
      have HMem := Lib.hid (near_addr k t)
      have HAll : Hid (allO (some (T.upd k v t)) = putL (allO (some t)) k v) := by
        have := putTr_all (la := 0) (fa := 0) (v := v) HK.out HT.out.wf
        rw [show putTr 0 0 k v (some t) = some (T.upd k v t) from if_pos hfound] at this
        exact this
      have HHas : Hid (hasO k (some t) = true) := by show ((T.near k t).2.1 == k) = true; rw [hfound]; simp
      clear hfound KN
      obtain ⟨nr, hnr⟩ : ∃ nr, nr = T.near k t := ⟨_, rfl⟩
      rw [← hnr] at KF HLf HUp HMem
      clear hnr HFd
      obtain ⟨a, x, u⟩ := nr
      simp only at KF HLf HUp HMem
      rw [HHas.out]
      go_enter Try.func13, Try.ntmps13
      go_upto_region 1 with fail
      generalize w.alloc (.cells (bC k) 30) = W0 at *
      go_upto_region 4 with (first
        | ((with_reducible refine gate_ld 30 (.tmp 4) rfl ?_); refine wl_ldr rfl 30 _ rfl w.heap.size 0 (bC k).toList _ Try.underlying30 rfl (by rw [sizKey]; simp [bC, HK.out]) rfl (range_whole (by simpa using HN0.out)) ?_)
        | (go_at_call 34; (refine (KF.out _ HT.out).mono ?_); rintro e W2 ⟨rfl, hb2⟩; have HB2 : Hid (Below W0.heap.size W0 W2) := hb2; clear hb2))
      have HL2 : Hid (W2.heap[a]? = some (.cells (leafC k u).toArray NODE (0, 0))) := (HB2.out.block _ (lt_heap HLf.out)).trans HLf.out
      have hc2 : W2.cell? ⟨a, 51, none⟩ = some (.int .i64 u) := by
        have := nodeV_tail (range_whole HL2.out) HK.out HK.out 0 _ rfl
        simpa using this
      have hf2 : W2.frozen? ⟨a, 51, none⟩ = false := by simp [World.frozen?, HL2.out]
      go_wp2_with fail
      go_ret
      refine ⟨rfl, _, HUp.out _ (HT.out.below HB2.out), HAll.out, ?_, fun x hx => .inl (by have hx : x ∈ (T.upd k v t).addrs := hx; rw [upd_addrs] at hx; exact hx)⟩
      refine (Turn.of_below (HB0.out.trans (HB2.out.mono HB0.out.size))).trans ((Turn.setCell a 51 _ W2).mono fun x _ hx => ?_)
      rw [List.mem_singleton] at hx
      rw [hx]
      exact List.mem_cons_of_mem _ HMem.out
    · simp only [findV, if_neg hfound] at KF
      simp only [nearV, ptrA] at KN
      have hxl := near_len (k := k) HT.out.wf
      obtain ⟨d, hd⟩ := differ_new HK.out hxl hfound
      obtain ⟨hd200, hd1, hd2⟩ := differ_some hd
      have HHas : Hid (hasO k (some t) = false) := by show ((T.near k t).2.1 == k) = false; simpa using hfound
      have HWF : Hid (∀ la fa, (T.ins la fa k v d t).WF) := fun la fa => T.ins_WF HK.out hd200 HT.out.wf hd1 hd2
      have HAll : Hid (∀ la fa, allO (some (T.ins la fa k v d t)) = putL (allO (some t)) k v) := fun la fa => by
        have := putTr_all (la := la) (fa := fa) (v := v) HK.out HT.out.wf
        rw [show putTr la fa k v (some t) = some (T.ins la fa k v ((differ k (T.near k t).2.1).getD 0) t) from if_neg hfound, hd] at this
        exact this
      have HLf : Hid ((w.alloc (.cells (bC k) 30)).heap[(T.near k t).1]? = some (.cells (leafC (T.near k t).2.1 (T.near k t).2.2).toArray NODE (0, 0))) := near_leaf (k := k) (t := t) HT.out.ins
      have KD := Lib.hid (fun W => differ_any k (T.near k t).2.1 W HK.out hxl)
      rw [hd] at KD
      simp only [dI] at KD
      have HXl := Lib.hid hxl
      have HD200 := Lib.hid hd200
      clear hd hd1 hd2 hfound hxl hd200
      obtain ⟨nr, hnr⟩ : ∃ nr, nr = T.near k t := ⟨_, rfl⟩
      rw [← hnr] at KN HLf KD HXl
      clear hnr
      obtain ⟨a, x, u⟩ := nr
      simp only at KN HLf KD HXl
      rw [HHas.out]
      obtain ⟨m, hm⟩ : ∃ m, m = t.all.length := ⟨_, rfl⟩
      have HM := Lib.hid hm
      have hmsz : m ≤ 1000000 := by have := HSz.out; rw [show allO (some t) = t.all from rfl, ← hm] at this; exact this
      clear hm
      have KS := Lib.hid (fun W => side_any k d W HK.out HD200.out)
      go_enter Try.func13, Try.ntmps13
      go_upto_region 1 with fail
      generalize w.alloc (.cells (bC k) 30) = W0 at *
      go_upto_region 7 with (first
        | ((with_reducible refine gate_ld 30 (.tmp 4) rfl ?_); refine wl_ldr rfl 30 _ rfl w.heap.size 0 (bC k).toList _ Try.underlying30 rfl (by rw [sizKey]; simp [bC, HK.out]) rfl (range_whole (by simpa using HN0.out)) ?_)
        | (go_at_call 34; (refine (KF.out _ HT.out).mono ?_); rintro e W2 ⟨rfl, hb2⟩; have HB2 : Hid (Below W0.heap.size W0 W2) := hb2; clear hb2))
      refine wp_region_below_tail 5 (by kernel_rfl) (by kernel_rfl) ?_
      simp only [List.take_succ_cons, List.take_zero, List.drop_succ_cons, List.drop_zero]
      have HK2 : Hid (W2.heap[w.heap.size]? = some (.cells (bC k) 30 (0, 0))) := (HB2.out.block _ (lt_heap HN0.out)).trans HN0.out
      repeat (first
        | (with_reducible refine wq_ldr rfl 30 (.tmp 4) rfl w.heap.size 0 (bC k).toList _ Try.underlying30 rfl (by rw [sizKey]; simp [bC, HK.out]) rfl (range_whole (by simpa using HK2.out)) (lt_heap HK2.out) ?_; simp only [Act.put, List.setIfInBounds_toArray, List.set_cons_zero, List.set_cons_succ])
        | (refine wq_bd _ rfl NODE [(0, .const (.bool true)), (1, .tmp 25), (2, .tmp 27), (3, .tmp 28)] rfl [(0, .bool true), (1, .agg (bC k)), (2, .agg (bC k)), (3, .int .i64 v)] rfl (leafC k v).toArray (builtLeaf k HK.out v) ?_; simp only [Act.put, List.setIfInBounds_toArray, List.set_cons_zero, List.set_cons_succ])
        | go_big_quiet_step (first | (with_reducible exact rg_call KB.out _ _)))
      refine wpQuiet_nil ?_
      rintro _ ⟨⟨dq, osq⟩, rfl⟩
      have HB3 : Hid (Below w.heap.size w (Sort.grow (redrawn W2 dq) osq)) := (HB0.out.trans (HB2.out.mono HB0.out.size)).trans ((below_regrown W2 dq osq).mono (Nat.le_trans HB0.out.size HB2.out.size))
      have HT3 : Hid (TreeAt (Sort.grow (redrawn W2 dq) osq) B tb (some t)) := (HT.out.below HB2.out).below (below_regrown W2 dq osq)
      have HA3 : Hid ((Sort.grow (redrawn W2 dq) osq).heap[a]? = some (.cells (leafC x u).toArray NODE (0, 0))) := by
        have h1 := (HB2.out.block _ (lt_heap HLf.out)).trans HLf.out
        exact ((below_regrown W2 dq osq).block _ (lt_heap h1)).trans h1
      have HAt : Hid (a ≠ tb) := fun e => by
        have h1 := HT.out.tree
        have h2 := HLf.out
        rw [e, h1] at h2
        simp only [Option.some.injEq, Obj.cells.injEq] at h2
        exact absurd h2.2.1 (by decide)
      clear HB2 HK2
      generalize Sort.grow (redrawn W2 dq) osq = W3 at *
      obtain ⟨la, hla⟩ : ∃ la, la = W3.heap.size := ⟨_, rfl⟩
      have HL4 : Hid ((W3.alloc (.cells (leafC k v).toArray NODE)).heap[la]? = some (.cells (leafC k v).toArray NODE (0, 0))) := by show _ = _; rw [hla]; exact heap_alloc_new _ _
      have HT4 : Hid (TreeAt (W3.alloc (.cells (leafC k v).toArray NODE)) B tb (some t)) := HT3.out.below (below_alloc1 _ _)
      have HB4 : Hid (Below w.heap.size w (W3.alloc (.cells (leafC k v).toArray NODE))) := HB3.out.alloc HB3.out.size _
      have HLB : Hid (B ≤ la) := by have h1 := HBs.out; have h2 := HB3.out.size; show _ ≤ _; omega
      have HLw : Hid (w.heap.size ≤ la) := by have h2 := HB3.out.size; show _ ≤ _; omega
      have HLn : Hid (la ≠ tb) := fun e => by have h1 := HT3.out.lt tb (by simp); omega
      have HLm : Hid (la ∉ tb :: addrsO (some t)) := fun e => by have h1 := HT3.out.lt la e; omega
      have HA4 : Hid ((W3.alloc (.cells (leafC k v).toArray NODE)).heap[a]? = some (.cells (leafC x u).toArray NODE (0, 0))) := (heap_alloc_old _ _ (lt_heap HA3.out)).trans HA3.out
      go_upto_region 8 with fail
      rw [← hla]
      generalize W3.alloc (.cells (leafC k v).toArray NODE) = W4 at *
      clear hla HT3 HB3
      have hc4 : W4.cell? ⟨tb, 1, none⟩ = some (.int .i64 (m : Int)) := by rw [cell_blk HT4.out.tree]; show some (Value.int .i64 (t.all.length : Int)) = _; rw [← HM.out]
      have hf4 : W4.frozen? ⟨tb, 1, none⟩ = false := by simp [World.frozen?, HT4.out.tree]
      have HT5 : Hid (TreeN (W4.setCell ⟨tb, 1, none⟩ (.int .i64 ((m : Int) + 1))) B tb ((m : Int) + 1) (some t)) := tick HT4.out.n _
      have HL5 : Hid ((W4.setCell ⟨tb, 1, none⟩ (.int .i64 ((m : Int) + 1))).heap[la]? = some (.cells (leafC k v).toArray NODE (0, 0))) := (heap_setCell_other _ HLn.out).trans HL4.out
      have HRg5 : Hid ((W4.setCell ⟨tb, 1, none⟩ (.int .i64 ((m : Int) + 1))).rangeAt la 26 (bC k).toList) := nodeV_bytes (range_whole HL5.out) HK.out
      have HA5 : Hid ((W4.setCell ⟨tb, 1, none⟩ (.int .i64 ((m : Int) + 1))).heap[a]? = some (.cells (leafC x u).toArray NODE (0, 0))) := (heap_setCell_other _ HAt.out).trans HA4.out
      have HTu5 : Hid (Turn (tb :: addrsO (some t)) w (W4.setCell ⟨tb, 1, none⟩ (.int .i64 ((m : Int) + 1)))) := (Turn.of_below HB4.out).trans ((Turn.setCell tb 1 _ W4).mono fun x _ hx => by simp at hx; subst hx; simp)
      clear HT4 HL4 HB4
      go_upto_region 9 with fail
      generalize W4.setCell ⟨tb, 1, none⟩ _ = W5 at *
      go_upto_region 13 with (first
        | ((with_reducible refine gate_ld 85 (.tmp 41) rfl ?_); refine wl_ldr rfl 85 _ rfl la 26 (bC k).toList _ Try.underlying85 rfl (by rw [siz25]; simp [bC, HK.out]) rfl HRg5.out ?_)
        | (go_at_call 38; (refine (KN.out _ _ HT5.out).mono ?_); rintro e W6 ⟨rfl, hb6⟩; have HB6 : Hid (Below W5.heap.size W5 W6) := hb6; clear hb6))
      have HT6 : Hid (TreeN W6 B tb ((m : Int) + 1) (some t)) := HT5.out.below HB6.out
      have HL6 : Hid (W6.heap[la]? = some (.cells (leafC k v).toArray NODE (0, 0))) := (HB6.out.block _ (lt_heap HL5.out)).trans HL5.out
      have HA6 : Hid (W6.heap[a]? = some (.cells (leafC x u).toArray NODE (0, 0))) := (HB6.out.block _ (lt_heap HA5.out)).trans HA5.out
      have HTu6 : Hid (Turn (tb :: addrsO (some t)) w W6) := HTu5.out.trans (Turn.of_below HB6.out)
      clear HT5 HL5 HA5 HTu5 HB6 HRg5 KN KF
      have HRl : Hid (W6.rangeAt la 26 (bC k).toList) := nodeV_bytes (range_whole HL6.out) HK.out
      have HRx : Hid (W6.rangeAt a 26 (bC x).toList) := nodeV_bytes (range_whole HA6.out) HXl.out
      refine wp_region_quiet_below (by kernel_rfl) (by kernel_rfl) ?_
      repeat (first
        | (with_reducible refine wq_ldr rfl 85 (.tmp 52) rfl la 26 (bC k).toList _ Try.underlying85 rfl (by rw [siz25]; simp [bC, HK.out]) rfl HRl.out (lt_heap HL6.out) ?_; simp only [Act.put, List.setIfInBounds_toArray, List.set_cons_zero, List.set_cons_succ])
        | (with_reducible refine wq_ldr rfl 85 (.tmp 56) rfl a 26 (bC x).toList _ Try.underlying85 rfl (by rw [siz25]; simp [bC, HXl.out]) rfl HRx.out (lt_heap HA6.out) ?_; simp only [Act.put, List.setIfInBounds_toArray, List.set_cons_zero, List.set_cons_succ])
        | go_big_quiet_step (first | (with_reducible exact rg_call KD.out _ _)))
      refine wpQuiet_nil ?_
      rintro _ ⟨⟨dq, osq⟩, rfl⟩
      have HB7 : Hid (Below W6.heap.size W6 (Sort.grow (redrawn W6 dq) osq)) := below_regrown W6 dq osq
      have HT7 : Hid (TreeN (Sort.grow (redrawn W6 dq) osq) B tb ((m : Int) + 1) (some t)) := HT6.out.below HB7.out
      have HL7 : Hid ((Sort.grow (redrawn W6 dq) osq).heap[la]? = some (.cells (leafC k v).toArray NODE (0, 0))) := (HB7.out.block _ (lt_heap HL6.out)).trans HL6.out
      have HTu7 : Hid (Turn (tb :: addrsO (some t)) w (Sort.grow (redrawn W6 dq) osq)) := HTu6.out.trans (Turn.of_below HB7.out)
      clear HT6 HL6 HA6 HTu6 HB7 HRl HRx KD
      generalize Sort.grow (redrawn W6 dq) osq = W7 at *
      go_wp2_with fail
      go_loopg [11] (t.sz + 1) (fun g vv wr => ∃ (z : Zip) (t' : T), plug z t' = t ∧ vv = .pointer (some (slotZ tb z)) ∧ t'.sz + 1 ≤ g ∧ Hid (Along k z) ∧ Hid (∀ x ∈ z, x.2.1 < d) ∧ Hid (Below W7.heap.size W7 wr))
      case atStart => exact ⟨[], t, rfl, rfl, Nat.le_refl _, (fun x hx => by cases hx), (fun x hx => by cases hx), Below.refl _ _⟩
      case round =>
        obtain ⟨z, t', hz, rfl, hg, HAl, HDz, HB⟩ := hrel
        have HZ := Lib.hid hz
        clear hz
        have HTr : Hid (TreeN wr B tb ((m : Int) + 1) (some (plug z t'))) := by show TreeN _ _ _ _ _; rw [HZ.out]; exact HT7.out.below HB.out
        have hin := (in_plug (w := wr) (tb := tb) (n := ((m : Int) + 1)) z t').2 ⟨HTr.out.tree, HTr.out.ins⟩
        have HIn := Lib.hid hin
        clear hin
        obtain ⟨sb, so, hs⟩ : ∃ sb so, slotZ tb z = ⟨sb, so, none⟩ := by
          match z with
          | [] => exact ⟨_, _, rfl⟩
          | (_, _, true, _) :: _ => exact ⟨_, _, rfl⟩
          | (_, _, false, _) :: _ => exact ⟨_, _, rfl⟩
        have hcs := HIn.out.1.cell
        have hfs := HIn.out.1.frozen
        rw [hs] at hcs hfs ⊢
        have HS := Lib.hid hs
        clear hs
        unfold ptrA at hcs
        cases t' with
        | leaf a2 x2 v2 =>
          have hroot : wr.heap[a2]? = some (.cells (leafC x2 v2).toArray NODE (0, 0)) := HIn.out.2
          have hc0 : wr.cell? ⟨a2, 0, none⟩ = some (.bool true) := by rw [cell_blk hroot]; rfl
          have HStop : Hid (Stop d (.leaf a2 x2 v2)) := trivial
          obtain ⟨p, hp⟩ : ∃ p, p = T.addr (.leaf a2 x2 v2) := ⟨_, rfl⟩
          have HP := Lib.hid hp
          have hp2 : p = a2 := hp
          rw [← hp2] at hc0
          rw [← hp] at hcs
          clear hroot hg hp hp2
          go_upto_region 17 with fail
          have HLr : Hid (wr.heap[la]? = some (.cells (leafC k v).toArray NODE (0, 0))) := (HB.out.block _ (lt_heap HL7.out)).trans HL7.out
          have hsbr := lt_of_cell hcs
          obtain ⟨fa, hfa⟩ : ∃ fa, fa = wr.heap.size := ⟨_, rfl⟩
          have HF8 : Hid ((wr.alloc (.cells (nodeV false z25 z25 0 d (.pointer none) (.pointer none)).toArray NODE)).heap[fa]? = some (.cells (nodeV false z25 z25 0 d (.pointer none) (.pointer none)).toArray NODE (0, 0))) := by show _ = _; rw [hfa]; exact heap_alloc_new _ _
          have HB8 : Hid (Below wr.heap.size wr (wr.alloc (.cells (nodeV false z25 z25 0 d (.pointer none) (.pointer none)).toArray NODE))) := below_alloc1 _ _
          have HFB : Hid (B ≤ fa) := by have h1 := HBs.out; have h2 := (HTu7.out.size); have h3 := HB.out.size; show _ ≤ _; omega
          have HFn : Hid (¬ fa < w.heap.size) := by have h2 := (HTu7.out.size); have h3 := HB.out.size; show ¬ _; omega
          have HFm : Hid (fa ∉ tb :: (plug z (.leaf a2 x2 v2)).addrs) := fun e => by have h1 := HTr.out.lt fa e; omega
          have HLF : Hid (la ≠ fa) := fun e => by have h1 := lt_heap HLr.out; omega
          have hsf : sb ≠ fa := fun e => by omega
          go_upto_region 18 with (first
            | ((with_reducible refine gate_bd NODE _ rfl ?_); refine wl_bd rfl NODE [(4, .tmp 96)] rfl _ rfl (nodeV false z25 z25 0 d (.pointer none) (.pointer none)).toArray (builtFork d) ?_))
          rw [← hfa]
          have HRl8 : Hid ((wr.alloc (.cells (nodeV false z25 z25 0 d (.pointer none) (.pointer none)).toArray NODE)).rangeAt la 26 (bC k).toList) := nodeV_bytes (range_whole ((HB8.out.block _ (lt_heap HLr.out)).trans HLr.out)) HK.out
          generalize wr.alloc (.cells (nodeV false z25 z25 0 d (.pointer none) (.pointer none)).toArray NODE) = W8 at *
          clear hfa
          cases hbit : bitOf k d
          all_goals
            rw [hbit] at KS
            simp only [sideI] at KS
            go_upto_region 19 with (first
              | ((with_reducible refine gate_ld 85 (.tmp 101) rfl ?_); refine wl_ldr rfl 85 _ rfl la 26 (bC k).toList _ Try.underlying85 rfl (by rw [siz25]; simp [bC, HK.out]) rfl HRl8.out ?_)
              | (go_at_call 36; (refine (KS.out _).mono ?_); rintro e W9 ⟨rfl, hb9⟩; have HB9 : Hid (Below wr.heap.size wr W9) := HB8.out.trans (hb9.mono HB8.out.size); have HF9 : Hid (W9.heap[fa]? = some (.cells (nodeV false z25 z25 0 d (.pointer none) (.pointer none)).toArray NODE (0, 0))) := (hb9.block _ (lt_heap HF8.out)).trans HF8.out; clear hb9))
            have HT9 : Hid (TreeN W9 B tb ((m : Int) + 1) (some (plug z (.leaf a2 x2 v2)))) := HTr.out.below HB9.out
            have HL9 : Hid (W9.heap[la]? = some (.cells (leafC k v).toArray NODE (0, 0))) := (HB9.out.block _ (lt_heap HLr.out)).trans HLr.out
            have hcs9 : W9.cell? ⟨sb, so, none⟩ = some (.pointer (some ⟨p, 0, none⟩)) := (cell_of (HB9.out.block _ hsbr) so).trans hcs
            have hfs9 : W9.frozen? ⟨sb, so, none⟩ = false := (frozen_of (HB9.out.block _ hsbr) so).trans hfs
            have hsb9 : sb < W9.heap.size := Nat.lt_of_lt_of_le hsbr HB9.out.size
            clear hcs hfs HTr HIn HLr HB8 HF8 HRl8
          · try simp only [Act.put]
            refine wp_region_chain (fun j v2 => Turn [fa] W9 v2 ∧ v2.heap[fa]? = some (.cells (match j with | 0 => (nodeV false z25 z25 0 d (.pointer none) (.pointer none)).toArray | 1 => (nodeV false z25 z25 0 d (.pointer (some ⟨la, 0, none⟩)) (.pointer none)).toArray | _ => (forkC d la p).toArray) NODE (0, 0)))
              [some (105, .pointer (some ⟨fa, 0, none⟩)), some (106, .int .i64 0), some (107, .pointer (some ⟨fa, 0, none⟩)), some (108, .int .i64 0), some (109, .int .i64 1), some (110, .pointer (some ⟨la, 0, none⟩)), some (111, .pointer (some ⟨sb, so, none⟩)), some (112, .pointer (some ⟨sb, so, none⟩)), some (113, .pointer (some ⟨p, 0, none⟩)), some (114, .pointer (some ⟨fa, 0, none⟩)), some (115, .pointer (some ⟨fa, 53, none⟩)), some (116, .pointer (some ⟨fa, 53, none⟩)), none, some (117, .pointer (some ⟨fa, 0, none⟩)), some (118, .pointer (some ⟨fa, 53, none⟩)), some (119, .pointer (some ⟨fa, 54, none⟩)), none] [12, 16]
              (by kernel_rfl) (by kernel_rfl) rfl (by simp) (by simp) (by decide) (by decide) (fun r hr => by have h2 : r + 1 < 2 := hr; obtain rfl : r = 0 := (by omega); show _ = true; kernel_rfl) ⟨Turn.drew _ _, HF9.out⟩ ?_ ?_ ?_
            · intro i hi hE a0 w0 j hfr hdep hC hkk K hK
              have hi17 : i < 17 := hi
              obtain rfl | rfl | rfl | rfl | rfl | rfl | rfl | rfl | rfl | rfl | rfl | rfl | rfl | rfl | rfl | rfl | rfl : i = 0 ∨ i = 1 ∨ i = 2 ∨ i = 3 ∨ i = 4 ∨ i = 5 ∨ i = 6 ∨ i = 7 ∨ i = 8 ∨ i = 9 ∨ i = 10 ∨ i = 11 ∨ i = 12 ∨ i = 13 ∨ i = 14 ∨ i = 15 ∨ i = 16 := by omega
              · exact wpOp_mv rfl rfl (.tmp 12) rfl _ (hfr.off 12 (by simp)) hK
              · exact wpOp_mv rfl rfl (.tmp 13) rfl _ (hfr.off 13 (by simp)) hK
              · exact wpOp_mv rfl rfl (.tmp 12) rfl _ (hfr.off 12 (by simp)) hK
              · exact wpOp_mv rfl rfl (.tmp 13) rfl _ (hfr.off 13 (by simp)) hK
              · exact wpOp_val rfl rfl (exec_1s (.tmp 108) rfl 0 (by omega) (hdep 3 (by kernel_rfl) 108 _ rfl)) hK
              · exact wpOp_mv rfl rfl (.tmp 8) rfl _ (hfr.off 8 (by simp)) hK
              · exact wpOp_mv rfl rfl (.tmp 11) rfl _ (hfr.off 11 (by simp)) hK
              · exact wpOp_val rfl rfl (exec_nilc (.tmp 111) rfl ⟨sb, so, none⟩ (hdep 6 (by kernel_rfl) 111 _ rfl)) hK
              · exact wpOp_val rfl rfl (exec_ld1G 80 agN (.tmp 112) rfl sb so _ (hdep 7 (by kernel_rfl) 112 _ rfl) (by rw [cell_of (hC.1.block _ hsb9 (by simpa using hsf)), hcs9])) hK
              · exact wpOp_val rfl rfl (exec_nilc (.tmp 105) rfl ⟨fa, 0, none⟩ (hdep 0 (by kernel_rfl) 105 _ rfl)) hK
              · exact wpOp_val rfl rfl (exec_kids (.tmp 114) rfl fa (hdep 9 (by kernel_rfl) 114 _ rfl)) hK
              · exact wpOp_val rfl rfl (exec_kid (.tmp 115) (.tmp 106) rfl fa 0 (by omega) (hdep 10 (by kernel_rfl) 115 _ rfl) (hdep 1 (by kernel_rfl) 106 _ rfl)) hK
              · exact absurd (by simp) hE
              · exact wpOp_val rfl rfl (exec_nilc (.tmp 107) rfl ⟨fa, 0, none⟩ (hdep 2 (by kernel_rfl) 107 _ rfl)) hK
              · exact wpOp_val rfl rfl (exec_kids (.tmp 117) rfl fa (hdep 13 (by kernel_rfl) 117 _ rfl)) hK
              · exact wpOp_val rfl rfl (exec_kid (.tmp 118) (.tmp 109) rfl fa 1 (by omega) (hdep 14 (by kernel_rfl) 118 _ rfl) (hdep 4 (by kernel_rfl) 109 _ rfl)) hK
              · exact absurd (by simp) hE
            · intro r hr a0 w0 hfr hdep hC K hK
              have hr2 : r < 2 := hr
              obtain rfl | rfl : r = 0 ∨ r = 1 := by omega
              · exact wpOp_stP rfl rfl (.tmp 116) (.tmp 110) rfl fa 53 (.pointer (some ⟨la, 0, none⟩)) rfl _ NODE (hdep 11 (by kernel_rfl) 116 _ rfl) (hdep 5 (by kernel_rfl) 110 _ rfl) hC.2 (by show _ < (nodeV _ _ _ _ _ _ _).toArray.size; rw [List.size_toArray, nodeV_len rfl rfl]; omega) (fun w1 h2 h3 => hK w1 ⟨hC.1.trans h3, h2⟩)
              · exact wpOp_stP rfl rfl (.tmp 119) (.tmp 113) rfl fa 54 (.pointer (some ⟨p, 0, none⟩)) rfl _ NODE (hdep 15 (by kernel_rfl) 119 _ rfl) (hdep 8 (by kernel_rfl) 113 _ rfl) hC.2 (by show _ < (nodeV _ _ _ _ _ _ _).toArray.size; rw [List.size_toArray, nodeV_len rfl rfl]; omega) (fun w1 h2 h3 => hK w1 ⟨hC.1.trans h3, h2⟩)
            · intro W10 hC
              have HTu10 : Hid (Turn [fa] W9 W10) := hC.1
              have HF10 : Hid (W10.heap[fa]? = some (.cells (forkC d la p).toArray NODE (0, 0))) := hC.2
              clear hC
              simp only [List.filterMap_cons, List.filterMap_nil, id, puts, List.setIfInBounds_toArray, List.set_cons_zero, List.set_cons_succ]
              have HT10 : Hid (TreeN W10 B tb ((m : Int) + 1) (some (plug z (.leaf a2 x2 v2)))) := HT9.out.keep fun x hx => HTu10.out.block x (HT9.out.lt x hx) (fun e => HFm.out (by rw [List.mem_singleton] at e; rw [← e]; exact hx))
              have hcs10 : W10.cell? ⟨sb, so, none⟩ = some (.pointer (some ⟨p, 0, none⟩)) := (cell_of (HTu10.out.block _ hsb9 (by simpa using hsf)) so).trans hcs9
              have hfs10 : W10.frozen? ⟨sb, so, none⟩ = false := (frozen_of (HTu10.out.block _ hsb9 (by simpa using hsf)) so).trans hfs9
              have HL10 : Hid (W10.heap[la]? = some (.cells (leafC k v).toArray NODE (0, 0))) := (HTu10.out.block _ (lt_heap HL9.out) (by simpa using HLF.out)).trans HL9.out
              have HTu11 : Hid (Turn (tb :: addrsO (some t)) w W10) := by
                have g1 : Turn (fa :: tb :: addrsO (some t)) w W9 := (HTu7.out.trans (Turn.of_below (HB.out.trans (HB9.out.mono HB.out.size)))).mono fun x _ e => List.mem_cons_of_mem _ e
                have g2 : Turn (fa :: tb :: addrsO (some t)) W9 W10 := HTu10.out.mono fun x _ e => by rw [List.mem_singleton] at e; rw [e]; simp
                refine (g1.trans g2).mono fun x hx e => ?_
                rcases List.mem_cons.1 e with rfl | e
                · exact absurd hx HFn.out
                · exact e
              clear HT9 HTu10 hcs9 hfs9 HL9 hsb9
              go_wp2_with fail
              go_ret
              have hfin := ins_in (W := W10) (B := B) (tb := tb) (n := ((m : Int) + 1)) (z := z) (t' := (.leaf a2 x2 v2)) (k := k) (v := v) (d := d) (la := la) (fa := fa) HT10.out HAl.out HDz.out HStop.out
                (by rw [HZ.out]; exact HWF.out la fa) (by rw [HZ.out, ins_len, ← HM.out]; omega) HL10.out (by rw [hbit, ← HP.out]; exact HF10.out) (by rw [HZ.out]; exact HLm.out) HFm.out HLF.out HLB.out HFB.out
              rw [HS.out, HZ.out] at hfin
              exact ⟨rfl, _, hfin, HAll.out la fa, HTu11.out.trans ((Turn.setCell sb so _ W10).mono fun x _ hx => by
                rw [List.mem_singleton] at hx
                rw [hx]
                have h9 := slot_mem tb z (.leaf a2 x2 v2)
                rw [HS.out, HZ.out] at h9
                exact h9), fun x hx => by
                rcases ins_mem la fa k v d t x hx with h | h | h
                · exact .inl h
                · rw [h]; exact .inr HLw.out
                · rw [h]; exact .inr (Nat.not_lt.1 HFn.out)⟩
          · try simp only [Act.put]
            refine wp_region_chain (fun j v2 => Turn [fa] W9 v2 ∧ v2.heap[fa]? = some (.cells (match j with | 0 => (nodeV false z25 z25 0 d (.pointer none) (.pointer none)).toArray | 1 => (nodeV false z25 z25 0 d (.pointer none) (.pointer (some ⟨la, 0, none⟩))).toArray | _ => (forkC d p la).toArray) NODE (0, 0)))
              [some (105, .pointer (some ⟨fa, 0, none⟩)), some (106, .int .i64 1), some (107, .pointer (some ⟨fa, 0, none⟩)), some (108, .int .i64 1), some (109, .int .i64 0), some (110, .pointer (some ⟨la, 0, none⟩)), some (111, .pointer (some ⟨sb, so, none⟩)), some (112, .pointer (some ⟨sb, so, none⟩)), some (113, .pointer (some ⟨p, 0, none⟩)), some (114, .pointer (some ⟨fa, 0, none⟩)), some (115, .pointer (some ⟨fa, 53, none⟩)), some (116, .pointer (some ⟨fa, 54, none⟩)), none, some (117, .pointer (some ⟨fa, 0, none⟩)), some (118, .pointer (some ⟨fa, 53, none⟩)), some (119, .pointer (some ⟨fa, 53, none⟩)), none] [12, 16]
              (by kernel_rfl) (by kernel_rfl) rfl (by simp) (by simp) (by decide) (by decide) (fun r hr => by have h2 : r + 1 < 2 := hr; obtain rfl : r = 0 := (by omega); show _ = true; kernel_rfl) ⟨Turn.drew _ _, HF9.out⟩ ?_ ?_ ?_
            · intro i hi hE a0 w0 j hfr hdep hC hkk K hK
              have hi17 : i < 17 := hi
              obtain rfl | rfl | rfl | rfl | rfl | rfl | rfl | rfl | rfl | rfl | rfl | rfl | rfl | rfl | rfl | rfl | rfl : i = 0 ∨ i = 1 ∨ i = 2 ∨ i = 3 ∨ i = 4 ∨ i = 5 ∨ i = 6 ∨ i = 7 ∨ i = 8 ∨ i = 9 ∨ i = 10 ∨ i = 11 ∨ i = 12 ∨ i = 13 ∨ i = 14 ∨ i = 15 ∨ i = 16 := by omega
              · exact wpOp_mv rfl rfl (.tmp 12) rfl _ (hfr.off 12 (by simp)) hK
              · exact wpOp_mv rfl rfl (.tmp 13) rfl _ (hfr.off 13 (by simp)) hK
              · exact wpOp_mv rfl rfl (.tmp 12) rfl _ (hfr.off 12 (by simp)) hK
              · exact wpOp_mv rfl rfl (.tmp 13) rfl _ (hfr.off 13 (by simp)) hK
              · exact wpOp_val rfl rfl (exec_1s (.tmp 108) rfl 1 (by omega) (hdep 3 (by kernel_rfl) 108 _ rfl)) hK
              · exact wpOp_mv rfl rfl (.tmp 8) rfl _ (hfr.off 8 (by simp)) hK
              · exact wpOp_mv rfl rfl (.tmp 11) rfl _ (hfr.off 11 (by simp)) hK
              · exact wpOp_val rfl rfl (exec_nilc (.tmp 111) rfl ⟨sb, so, none⟩ (hdep 6 (by kernel_rfl) 111 _ rfl)) hK
              · exact wpOp_val rfl rfl (exec_ld1G 80 agN (.tmp 112) rfl sb so _ (hdep 7 (by kernel_rfl) 112 _ rfl) (by rw [cell_of (hC.1.block _ hsb9 (by simpa using hsf)), hcs9])) hK
              · exact wpOp_val rfl rfl (exec_nilc (.tmp 105) rfl ⟨fa, 0, none⟩ (hdep 0 (by kernel_rfl) 105 _ rfl)) hK
              · exact wpOp_val rfl rfl (exec_kids (.tmp 114) rfl fa (hdep 9 (by kernel_rfl) 114 _ rfl)) hK
              · exact wpOp_val rfl rfl (exec_kid (.tmp 115) (.tmp 106) rfl fa 1 (by omega) (hdep 10 (by kernel_rfl) 115 _ rfl) (hdep 1 (by kernel_rfl) 106 _ rfl)) hK
              · exact absurd (by simp) hE
              · exact wpOp_val rfl rfl (exec_nilc (.tmp 107) rfl ⟨fa, 0, none⟩ (hdep 2 (by kernel_rfl) 107 _ rfl)) hK
              · exact wpOp_val rfl rfl (exec_kids (.tmp 117) rfl fa (hdep 13 (by kernel_rfl) 117 _ rfl)) hK
              · exact wpOp_val rfl rfl (exec_kid (.tmp 118) (.tmp 109) rfl fa 0 (by omega) (hdep 14 (by kernel_rfl) 118 _ rfl) (hdep 4 (by kernel_rfl) 109 _ rfl)) hK
              · exact absurd (by simp) hE
            · intro r hr a0 w0 hfr hdep hC K hK
              have hr2 : r < 2 := hr
              obtain rfl | rfl : r = 0 ∨ r = 1 := by omega
              · exact wpOp_stP rfl rfl (.tmp 116) (.tmp 110) rfl fa 54 (.pointer (some ⟨la, 0, none⟩)) rfl _ NODE (hdep 11 (by kernel_rfl) 116 _ rfl) (hdep 5 (by kernel_rfl) 110 _ rfl) hC.2 (by show _ < (nodeV _ _ _ _ _ _ _).toArray.size; rw [List.size_toArray, nodeV_len rfl rfl]; omega) (fun w1 h2 h3 => hK w1 ⟨hC.1.trans h3, h2⟩)
              · exact wpOp_stP rfl rfl (.tmp 119) (.tmp 113) rfl fa 53 (.pointer (some ⟨p, 0, none⟩)) rfl _ NODE (hdep 15 (by kernel_rfl) 119 _ rfl) (hdep 8 (by kernel_rfl) 113 _ rfl) hC.2 (by show _ < (nodeV _ _ _ _ _ _ _).toArray.size; rw [List.size_toArray, nodeV_len rfl rfl]; omega) (fun w1 h2 h3 => hK w1 ⟨hC.1.trans h3, h2⟩)
            · intro W10 hC
              have HTu10 : Hid (Turn [fa] W9 W10) := hC.1
              have HF10 : Hid (W10.heap[fa]? = some (.cells (forkC d p la).toArray NODE (0, 0))) := hC.2
              clear hC
              simp only [List.filterMap_cons, List.filterMap_nil, id, puts, List.setIfInBounds_toArray, List.set_cons_zero, List.set_cons_succ]
              have HT10 : Hid (TreeN W10 B tb ((m : Int) + 1) (some (plug z (.leaf a2 x2 v2)))) := HT9.out.keep fun x hx => HTu10.out.block x (HT9.out.lt x hx) (fun e => HFm.out (by rw [List.mem_singleton] at e; rw [← e]; exact hx))
              have hcs10 : W10.cell? ⟨sb, so, none⟩ = some (.pointer (some ⟨p, 0, none⟩)) := (cell_of (HTu10.out.block _ hsb9 (by simpa using hsf)) so).trans hcs9
              have hfs10 : W10.frozen? ⟨sb, so, none⟩ = false := (frozen_of (HTu10.out.block _ hsb9 (by simpa using hsf)) so).trans hfs9
              have HL10 : Hid (W10.heap[la]? = some (.cells (leafC k v).toArray NODE (0, 0))) := (HTu10.out.block _ (lt_heap HL9.out) (by simpa using HLF.out)).trans HL9.out
              have HTu11 : Hid (Turn (tb :: addrsO (some t)) w W10) := by
                have g1 : Turn (fa :: tb :: addrsO (some t)) w W9 := (HTu7.out.trans (Turn.of_below (HB.out.trans (HB9.out.mono HB.out.size)))).mono fun x _ e => List.mem_cons_of_mem _ e
                have g2 : Turn (fa :: tb :: addrsO (some t)) W9 W10 := HTu10.out.mono fun x _ e => by rw [List.mem_singleton] at e; rw [e]; simp
                refine (g1.trans g2).mono fun x hx e => ?_
                rcases List.mem_cons.1 e with rfl | e
                · exact absurd hx HFn.out
                · exact e
              clear HT9 HTu10 hcs9 hfs9 HL9 hsb9
              go_wp2_with fail
              go_ret
              have hfin := ins_in (W := W10) (B := B) (tb := tb) (n := ((m : Int) + 1)) (z := z) (t' := (.leaf a2 x2 v2)) (k := k) (v := v) (d := d) (la := la) (fa := fa) HT10.out HAl.out HDz.out HStop.out
                (by rw [HZ.out]; exact HWF.out la fa) (by rw [HZ.out, ins_len, ← HM.out]; omega) HL10.out (by rw [hbit, ← HP.out]; exact HF10.out) (by rw [HZ.out]; exact HLm.out) HFm.out HLF.out HLB.out HFB.out
              rw [HS.out, HZ.out] at hfin
              exact ⟨rfl, _, hfin, HAll.out la fa, HTu11.out.trans ((Turn.setCell sb so _ W10).mono fun x _ hx => by
                rw [List.mem_singleton] at hx
                rw [hx]
                have h9 := slot_mem tb z (.leaf a2 x2 v2)
                rw [HS.out, HZ.out] at h9
                exact h9), fun x hx => by
                rcases ins_mem la fa k v d t x hx with h | h | h
                · exact .inl h
                · rw [h]; exact .inr HLw.out
                · rw [h]; exact .inr (Nat.not_lt.1 HFn.out)⟩
        | fork a2 b2 l2 r2 =>
          have hroot : wr.heap[a2]? = some (.cells (forkC b2 l2.addr r2.addr).toArray NODE (0, 0)) := HIn.out.2.1
          have hc0 : wr.cell? ⟨a2, 0, none⟩ = some (.bool false) := by rw [cell_blk hroot]; rfl
          have hc52 : wr.cell? ⟨a2, 52, none⟩ = some (.int .i64 b2) := by rw [cell_blk hroot]; rfl
          have hal := lt_heap hroot
          have hb200 : b2 < 200 := by
            have := plug_WF z _ HTr.out.wf
            exact this.1
          obtain ⟨p, hp⟩ : ∃ p, p = T.addr (.fork a2 b2 l2 r2) := ⟨_, rfl⟩
          have HP := Lib.hid hp
          have hp2 : p = a2 := hp
          rw [← hp2] at hc0 hc52 hal
          rw [← hp] at hcs
          have HP2 := Lib.hid hp2
          clear hroot hp hp2
          by_cases hbd : b2 < d
          · have hbdi : (b2 : Int) < d := by omega
            have hsl := lt_of_cell hcs
            have HRl : Hid (wr.rangeAt la 26 (bC k).toList) := nodeV_bytes (range_whole ((HB.out.block _ (lt_heap HL7.out)).trans HL7.out)) HK.out
            have hll : la < wr.heap.size := Nat.lt_of_lt_of_le (lt_heap HL7.out) HB.out.size
            have KS1 := Lib.hid (fun W => side_any k b2 W HK.out hb200)
            have hsz : l2.sz + r2.sz + 1 + 1 ≤ gk := hg
            cases hcb : bitOf k b2
            all_goals
              rw [hcb] at KS1
              simp only [sideI] at KS1
              go_upto_region 16 with fail
              try simp only [Act.put]
              refine wp_region_quiet_below (by kernel_rfl) (by kernel_rfl) ?_
              repeat (first
                | (refine wq_ld1 rfl 80 (.tmp 80) rfl sb so (.pointer (some ⟨p, 0, none⟩)) agN rfl hcs hsl ?_; simp only [Act.put, List.setIfInBounds_toArray, List.set_cons_zero, List.set_cons_succ])
                | (refine wq_ld1 rfl 80 (.tmp 87) rfl sb so (.pointer (some ⟨p, 0, none⟩)) agN rfl hcs hsl ?_; simp only [Act.put, List.setIfInBounds_toArray, List.set_cons_zero, List.set_cons_succ])
                | (refine wq_ld1 rfl 3 (.tmp 90) rfl p 52 (.int .i64 (b2 : Int)) ag3 rfl hc52 hal ?_; simp only [Act.put, List.setIfInBounds_toArray, List.set_cons_zero, List.set_cons_succ])
                | (with_reducible refine wq_ldr rfl 85 (.tmp 84) rfl la 26 (bC k).toList _ Try.underlying85 rfl (by rw [siz25]; simp [bC, HK.out]) rfl HRl.out hll ?_; simp only [Act.put, List.setIfInBounds_toArray, List.set_cons_zero, List.set_cons_succ])
                | go_big_quiet_step (first | (exact rg_call KS1.out _ _)))
              refine wpQuiet_nil ?_
              rintro _ ⟨⟨dq2, osq2⟩, rfl⟩
              have HB8 : Hid (Below W7.heap.size W7 (Sort.grow (redrawn wr dq2) osq2)) := HB.out.trans ((below_regrown wr dq2 osq2).mono HB.out.size)
              clear hcs hfs hc0 hc52 hal HTr HIn HRl hll hsl KS1
              generalize Sort.grow (redrawn wr dq2) osq2 = W8 at *
              go_wp2_with fail
            · go_roundg (l2.sz + 1)
              case measure => omega
              case rel => exact ⟨(a2, b2, false, r2) :: z, l2, HZ.out, by rw [HP2.out]; rfl, Nat.le_refl _, (fun y hy => by
                rcases List.mem_cons.1 hy with rfl | hy
                · exact hcb.symm
                · exact HAl.out y hy), (fun y hy => by
                rcases List.mem_cons.1 hy with rfl | hy
                · exact hbd
                · exact HDz.out y hy), HB8⟩
            · go_roundg (r2.sz + 1)
              case measure => omega
              case rel => exact ⟨(a2, b2, true, l2) :: z, r2, HZ.out, by rw [HP2.out]; rfl, Nat.le_refl _, (fun y hy => by
                rcases List.mem_cons.1 hy with rfl | hy
                · exact hcb.symm
                · exact HAl.out y hy), (fun y hy => by
                rcases List.mem_cons.1 hy with rfl | hy
                · exact hbd
                · exact HDz.out y hy), HB8⟩
          · have hbdi : ¬ (b2 : Int) < d := by omega
            have HStop : Hid (Stop d (.fork a2 b2 l2 r2)) := hbd
            clear hg hal
            go_upto_region 17 with fail
            have HLr : Hid (wr.heap[la]? = some (.cells (leafC k v).toArray NODE (0, 0))) := (HB.out.block _ (lt_heap HL7.out)).trans HL7.out
            have hsbr := lt_of_cell hcs
            obtain ⟨fa, hfa⟩ : ∃ fa, fa = wr.heap.size := ⟨_, rfl⟩
            have HF8 : Hid ((wr.alloc (.cells (nodeV false z25 z25 0 d (.pointer none) (.pointer none)).toArray NODE)).heap[fa]? = some (.cells (nodeV false z25 z25 0 d (.pointer none) (.pointer none)).toArray NODE (0, 0))) := by show _ = _; rw [hfa]; exact heap_alloc_new _ _
            have HB8 : Hid (Below wr.heap.size wr (wr.alloc (.cells (nodeV false z25 z25 0 d (.pointer none) (.pointer none)).toArray NODE))) := below_alloc1 _ _
            have HFB : Hid (B ≤ fa) := by have h1 := HBs.out; have h2 := (HTu7.out.size); have h3 := HB.out.size; show _ ≤ _; omega
            have HFn : Hid (¬ fa < w.heap.size) := by have h2 := (HTu7.out.size); have h3 := HB.out.size; show ¬ _; omega
            have HFm : Hid (fa ∉ tb :: (plug z (.fork a2 b2 l2 r2)).addrs) := fun e => by have h1 := HTr.out.lt fa e; omega
            have HLF : Hid (la ≠ fa) := fun e => by have h1 := lt_heap HLr.out; omega
            have hsf : sb ≠ fa := fun e => by omega
            go_upto_region 18 with (first
              | ((with_reducible refine gate_bd NODE _ rfl ?_); refine wl_bd rfl NODE [(4, .tmp 96)] rfl _ rfl (nodeV false z25 z25 0 d (.pointer none) (.pointer none)).toArray (builtFork d) ?_))
            rw [← hfa]
            have HRl8 : Hid ((wr.alloc (.cells (nodeV false z25 z25 0 d (.pointer none) (.pointer none)).toArray NODE)).rangeAt la 26 (bC k).toList) := nodeV_bytes (range_whole ((HB8.out.block _ (lt_heap HLr.out)).trans HLr.out)) HK.out
            generalize wr.alloc (.cells (nodeV false z25 z25 0 d (.pointer none) (.pointer none)).toArray NODE) = W8 at *
            clear hfa
            cases hbit : bitOf k d
            all_goals
              rw [hbit] at KS
              simp only [sideI] at KS
              go_upto_region 19 with (first
                | ((with_reducible refine gate_ld 85 (.tmp 101) rfl ?_); refine wl_ldr rfl 85 _ rfl la 26 (bC k).toList _ Try.underlying85 rfl (by rw [siz25]; simp [bC, HK.out]) rfl HRl8.out ?_)
                | (go_at_call 36; (refine (KS.out _).mono ?_); rintro e W9 ⟨rfl, hb9⟩; have HB9 : Hid (Below wr.heap.size wr W9) := HB8.out.trans (hb9.mono HB8.out.size); have HF9 : Hid (W9.heap[fa]? = some (.cells (nodeV false z25 z25 0 d (.pointer none) (.pointer none)).toArray NODE (0, 0))) := (hb9.block _ (lt_heap HF8.out)).trans HF8.out; clear hb9))
              have HT9 : Hid (TreeN W9 B tb ((m : Int) + 1) (some (plug z (.fork a2 b2 l2 r2)))) := HTr.out.below HB9.out
              have HL9 : Hid (W9.heap[la]? = some (.cells (leafC k v).toArray NODE (0, 0))) := (HB9.out.block _ (lt_heap HLr.out)).trans HLr.out
              have hcs9 : W9.cell? ⟨sb, so, none⟩ = some (.pointer (some ⟨p, 0, none⟩)) := (cell_of (HB9.out.block _ hsbr) so).trans hcs
              have hfs9 : W9.frozen? ⟨sb, so, none⟩ = false := (frozen_of (HB9.out.block _ hsbr) so).trans hfs
              have hsb9 : sb < W9.heap.size := Nat.lt_of_lt_of_le hsbr HB9.out.size
              clear hcs hfs HTr HIn HLr HB8 HF8 HRl8
            · try simp only [Act.put]
              refine wp_region_chain (fun j v2 => Turn [fa] W9 v2 ∧ v2.heap[fa]? = some (.cells (match j with | 0 => (nodeV false z25 z25 0 d (.pointer none) (.pointer none)).toArray | 1 => (nodeV false z25 z25 0 d (.pointer (some ⟨la, 0, none⟩)) (.pointer none)).toArray | _ => (forkC d la p).toArray) NODE (0, 0)))
                [some (105, .pointer (some ⟨fa, 0, none⟩)), some (106, .int .i64 0), some (107, .pointer (some ⟨fa, 0, none⟩)), some (108, .int .i64 0), some (109, .int .i64 1), some (110, .pointer (some ⟨la, 0, none⟩)), some (111, .pointer (some ⟨sb, so, none⟩)), some (112, .pointer (some ⟨sb, so, none⟩)), some (113, .pointer (some ⟨p, 0, none⟩)), some (114, .pointer (some ⟨fa, 0, none⟩)), some (115, .pointer (some ⟨fa, 53, none⟩)), some (116, .pointer (some ⟨fa, 53, none⟩)), none, some (117, .pointer (some ⟨fa, 0, none⟩)), some (118, .pointer (some ⟨fa, 53, none⟩)), some (119, .pointer (some ⟨fa, 54, none⟩)), none] [12, 16]
                (by kernel_rfl) (by kernel_rfl) rfl (by simp) (by simp) (by decide) (by decide) (fun r hr => by have h2 : r + 1 < 2 := hr; obtain rfl : r = 0 := (by omega); show _ = true; kernel_rfl) ⟨Turn.drew _ _, HF9.out⟩ ?_ ?_ ?_
              · intro i hi hE a0 w0 j hfr hdep hC hkk K hK
                have hi17 : i < 17 := hi
                obtain rfl | rfl | rfl | rfl | rfl | rfl | rfl | rfl | rfl | rfl | rfl | rfl | rfl | rfl | rfl | rfl | rfl : i = 0 ∨ i = 1 ∨ i = 2 ∨ i = 3 ∨ i = 4 ∨ i = 5 ∨ i = 6 ∨ i = 7 ∨ i = 8 ∨ i = 9 ∨ i = 10 ∨ i = 11 ∨ i = 12 ∨ i = 13 ∨ i = 14 ∨ i = 15 ∨ i = 16 := by omega
                · exact wpOp_mv rfl rfl (.tmp 12) rfl _ (hfr.off 12 (by simp)) hK
                · exact wpOp_mv rfl rfl (.tmp 13) rfl _ (hfr.off 13 (by simp)) hK
                · exact wpOp_mv rfl rfl (.tmp 12) rfl _ (hfr.off 12 (by simp)) hK
                · exact wpOp_mv rfl rfl (.tmp 13) rfl _ (hfr.off 13 (by simp)) hK
                · exact wpOp_val rfl rfl (exec_1s (.tmp 108) rfl 0 (by omega) (hdep 3 (by kernel_rfl) 108 _ rfl)) hK
                · exact wpOp_mv rfl rfl (.tmp 8) rfl _ (hfr.off 8 (by simp)) hK
                · exact wpOp_mv rfl rfl (.tmp 11) rfl _ (hfr.off 11 (by simp)) hK
                · exact wpOp_val rfl rfl (exec_nilc (.tmp 111) rfl ⟨sb, so, none⟩ (hdep 6 (by kernel_rfl) 111 _ rfl)) hK
                · exact wpOp_val rfl rfl (exec_ld1G 80 agN (.tmp 112) rfl sb so _ (hdep 7 (by kernel_rfl) 112 _ rfl) (by rw [cell_of (hC.1.block _ hsb9 (by simpa using hsf)), hcs9])) hK
                · exact wpOp_val rfl rfl (exec_nilc (.tmp 105) rfl ⟨fa, 0, none⟩ (hdep 0 (by kernel_rfl) 105 _ rfl)) hK
                · exact wpOp_val rfl rfl (exec_kids (.tmp 114) rfl fa (hdep 9 (by kernel_rfl) 114 _ rfl)) hK
                · exact wpOp_val rfl rfl (exec_kid (.tmp 115) (.tmp 106) rfl fa 0 (by omega) (hdep 10 (by kernel_rfl) 115 _ rfl) (hdep 1 (by kernel_rfl) 106 _ rfl)) hK
                · exact absurd (by simp) hE
                · exact wpOp_val rfl rfl (exec_nilc (.tmp 107) rfl ⟨fa, 0, none⟩ (hdep 2 (by kernel_rfl) 107 _ rfl)) hK
                · exact wpOp_val rfl rfl (exec_kids (.tmp 117) rfl fa (hdep 13 (by kernel_rfl) 117 _ rfl)) hK
                · exact wpOp_val rfl rfl (exec_kid (.tmp 118) (.tmp 109) rfl fa 1 (by omega) (hdep 14 (by kernel_rfl) 118 _ rfl) (hdep 4 (by kernel_rfl) 109 _ rfl)) hK
                · exact absurd (by simp) hE
              · intro r hr a0 w0 hfr hdep hC K hK
                have hr2 : r < 2 := hr
                obtain rfl | rfl : r = 0 ∨ r = 1 := by omega
                · exact wpOp_stP rfl rfl (.tmp 116) (.tmp 110) rfl fa 53 (.pointer (some ⟨la, 0, none⟩)) rfl _ NODE (hdep 11 (by kernel_rfl) 116 _ rfl) (hdep 5 (by kernel_rfl) 110 _ rfl) hC.2 (by show _ < (nodeV _ _ _ _ _ _ _).toArray.size; rw [List.size_toArray, nodeV_len rfl rfl]; omega) (fun w1 h2 h3 => hK w1 ⟨hC.1.trans h3, h2⟩)
                · exact wpOp_stP rfl rfl (.tmp 119) (.tmp 113) rfl fa 54 (.pointer (some ⟨p, 0, none⟩)) rfl _ NODE (hdep 15 (by kernel_rfl) 119 _ rfl) (hdep 8 (by kernel_rfl) 113 _ rfl) hC.2 (by show _ < (nodeV _ _ _ _ _ _ _).toArray.size; rw [List.size_toArray, nodeV_len rfl rfl]; omega) (fun w1 h2 h3 => hK w1 ⟨hC.1.trans h3, h2⟩)
              · intro W10 hC
                have HTu10 : Hid (Turn [fa] W9 W10) := hC.1
                have HF10 : Hid (W10.heap[fa]? = some (.cells (forkC d la p).toArray NODE (0, 0))) := hC.2
                clear hC
                simp only [List.filterMap_cons, List.filterMap_nil, id, puts, List.setIfInBounds_toArray, List.set_cons_zero, List.set_cons_succ]
                have HT10 : Hid (TreeN W10 B tb ((m : Int) + 1) (some (plug z (.fork a2 b2 l2 r2)))) := HT9.out.keep fun x hx => HTu10.out.block x (HT9.out.lt x hx) (fun e => HFm.out (by rw [List.mem_singleton] at e; rw [← e]; exact hx))
                have hcs10 : W10.cell? ⟨sb, so, none⟩ = some (.pointer (some ⟨p, 0, none⟩)) := (cell_of (HTu10.out.block _ hsb9 (by simpa using hsf)) so).trans hcs9
                have hfs10 : W10.frozen? ⟨sb, so, none⟩ = false := (frozen_of (HTu10.out.block _ hsb9 (by simpa using hsf)) so).trans hfs9
                have HL10 : Hid (W10.heap[la]? = some (.cells (leafC k v).toArray NODE (0, 0))) := (HTu10.out.block _ (lt_heap HL9.out) (by simpa using HLF.out)).trans HL9.out
                have HTu11 : Hid (Turn (tb :: addrsO (some t)) w W10) := by
                  have g1 : Turn (fa :: tb :: addrsO (some t)) w W9 := (HTu7.out.trans (Turn.of_below (HB.out.trans (HB9.out.mono HB.out.size)))).mono fun x _ e => List.mem_cons_of_mem _ e
                  have g2 : Turn (fa :: tb :: addrsO (some t)) W9 W10 := HTu10.out.mono fun x _ e => by rw [List.mem_singleton] at e; rw [e]; simp
                  refine (g1.trans g2).mono fun x hx e => ?_
                  rcases List.mem_cons.1 e with rfl | e
                  · exact absurd hx HFn.out
                  · exact e
                clear HT9 HTu10 hcs9 hfs9 HL9 hsb9
                go_wp2_with fail
                go_ret
                have hfin := ins_in (W := W10) (B := B) (tb := tb) (n := ((m : Int) + 1)) (z := z) (t' := (.fork a2 b2 l2 r2)) (k := k) (v := v) (d := d) (la := la) (fa := fa) HT10.out HAl.out HDz.out HStop.out
                  (by rw [HZ.out]; exact HWF.out la fa) (by rw [HZ.out, ins_len, ← HM.out]; omega) HL10.out (by rw [hbit, ← HP.out]; exact HF10.out) (by rw [HZ.out]; exact HLm.out) HFm.out HLF.out HLB.out HFB.out
                rw [HS.out, HZ.out] at hfin
                exact ⟨rfl, _, hfin, HAll.out la fa, HTu11.out.trans ((Turn.setCell sb so _ W10).mono fun x _ hx => by
                  rw [List.mem_singleton] at hx
                  rw [hx]
                  have h9 := slot_mem tb z (.fork a2 b2 l2 r2)
                  rw [HS.out, HZ.out] at h9
                  exact h9), fun x hx => by
                  rcases ins_mem la fa k v d t x hx with h | h | h
                  · exact .inl h
                  · rw [h]; exact .inr HLw.out
                  · rw [h]; exact .inr (Nat.not_lt.1 HFn.out)⟩
            · try simp only [Act.put]
              refine wp_region_chain (fun j v2 => Turn [fa] W9 v2 ∧ v2.heap[fa]? = some (.cells (match j with | 0 => (nodeV false z25 z25 0 d (.pointer none) (.pointer none)).toArray | 1 => (nodeV false z25 z25 0 d (.pointer none) (.pointer (some ⟨la, 0, none⟩))).toArray | _ => (forkC d p la).toArray) NODE (0, 0)))
                [some (105, .pointer (some ⟨fa, 0, none⟩)), some (106, .int .i64 1), some (107, .pointer (some ⟨fa, 0, none⟩)), some (108, .int .i64 1), some (109, .int .i64 0), some (110, .pointer (some ⟨la, 0, none⟩)), some (111, .pointer (some ⟨sb, so, none⟩)), some (112, .pointer (some ⟨sb, so, none⟩)), some (113, .pointer (some ⟨p, 0, none⟩)), some (114, .pointer (some ⟨fa, 0, none⟩)), some (115, .pointer (some ⟨fa, 53, none⟩)), some (116, .pointer (some ⟨fa, 54, none⟩)), none, some (117, .pointer (some ⟨fa, 0, none⟩)), some (118, .pointer (some ⟨fa, 53, none⟩)), some (119, .pointer (some ⟨fa, 53, none⟩)), none] [12, 16]
                (by kernel_rfl) (by kernel_rfl) rfl (by simp) (by simp) (by decide) (by decide) (fun r hr => by have h2 : r + 1 < 2 := hr; obtain rfl : r = 0 := (by omega); show _ = true; kernel_rfl) ⟨Turn.drew _ _, HF9.out⟩ ?_ ?_ ?_
              · intro i hi hE a0 w0 j hfr hdep hC hkk K hK
                have hi17 : i < 17 := hi
                obtain rfl | rfl | rfl | rfl | rfl | rfl | rfl | rfl | rfl | rfl | rfl | rfl | rfl | rfl | rfl | rfl | rfl : i = 0 ∨ i = 1 ∨ i = 2 ∨ i = 3 ∨ i = 4 ∨ i = 5 ∨ i = 6 ∨ i = 7 ∨ i = 8 ∨ i = 9 ∨ i = 10 ∨ i = 11 ∨ i = 12 ∨ i = 13 ∨ i = 14 ∨ i = 15 ∨ i = 16 := by omega
                · exact wpOp_mv rfl rfl (.tmp 12) rfl _ (hfr.off 12 (by simp)) hK
                · exact wpOp_mv rfl rfl (.tmp 13) rfl _ (hfr.off 13 (by simp)) hK
                · exact wpOp_mv rfl rfl (.tmp 12) rfl _ (hfr.off 12 (by simp)) hK
                · exact wpOp_mv rfl rfl (.tmp 13) rfl _ (hfr.off 13 (by simp)) hK
                · exact wpOp_val rfl rfl (exec_1s (.tmp 108) rfl 1 (by omega) (hdep 3 (by kernel_rfl) 108 _ rfl)) hK
                · exact wpOp_mv rfl rfl (.tmp 8) rfl _ (hfr.off 8 (by simp)) hK
                · exact wpOp_mv rfl rfl (.tmp 11) rfl _ (hfr.off 11 (by simp)) hK
                · exact wpOp_val rfl rfl (exec_nilc (.tmp 111) rfl ⟨sb, so, none⟩ (hdep 6 (by kernel_rfl) 111 _ rfl)) hK
                · exact wpOp_val rfl rfl (exec_ld1G 80 agN (.tmp 112) rfl sb so _ (hdep 7 (by kernel_rfl) 112 _ rfl) (by rw [cell_of (hC.1.block _ hsb9 (by simpa using hsf)), hcs9])) hK
                · exact wpOp_val rfl rfl (exec_nilc (.tmp 105) rfl ⟨fa, 0, none⟩ (hdep 0 (by kernel_rfl) 105 _ rfl)) hK
                · exact wpOp_val rfl rfl (exec_kids (.tmp 114) rfl fa (hdep 9 (by kernel_rfl) 114 _ rfl)) hK
                · exact wpOp_val rfl rfl (exec_kid (.tmp 115) (.tmp 106) rfl fa 1 (by omega) (hdep 10 (by kernel_rfl) 115 _ rfl) (hdep 1 (by kernel_rfl) 106 _ rfl)) hK
                · exact absurd (by simp) hE
                · exact wpOp_val rfl rfl (exec_nilc (.tmp 107) rfl ⟨fa, 0, none⟩ (hdep 2 (by kernel_rfl) 107 _ rfl)) hK
                · exact wpOp_val rfl rfl (exec_kids (.tmp 117) rfl fa (hdep 13 (by kernel_rfl) 117 _ rfl)) hK
                · exact wpOp_val rfl rfl (exec_kid (.tmp 118) (.tmp 109) rfl fa 0 (by omega) (hdep 14 (by kernel_rfl) 118 _ rfl) (hdep 4 (by kernel_rfl) 109 _ rfl)) hK
                · exact absurd (by simp) hE
              · intro r hr a0 w0 hfr hdep hC K hK
                have hr2 : r < 2 := hr
                obtain rfl | rfl : r = 0 ∨ r = 1 := by omega
                · exact wpOp_stP rfl rfl (.tmp 116) (.tmp 110) rfl fa 54 (.pointer (some ⟨la, 0, none⟩)) rfl _ NODE (hdep 11 (by kernel_rfl) 116 _ rfl) (hdep 5 (by kernel_rfl) 110 _ rfl) hC.2 (by show _ < (nodeV _ _ _ _ _ _ _).toArray.size; rw [List.size_toArray, nodeV_len rfl rfl]; omega) (fun w1 h2 h3 => hK w1 ⟨hC.1.trans h3, h2⟩)
                · exact wpOp_stP rfl rfl (.tmp 119) (.tmp 113) rfl fa 53 (.pointer (some ⟨p, 0, none⟩)) rfl _ NODE (hdep 15 (by kernel_rfl) 119 _ rfl) (hdep 8 (by kernel_rfl) 113 _ rfl) hC.2 (by show _ < (nodeV _ _ _ _ _ _ _).toArray.size; rw [List.size_toArray, nodeV_len rfl rfl]; omega) (fun w1 h2 h3 => hK w1 ⟨hC.1.trans h3, h2⟩)
              · intro W10 hC
                have HTu10 : Hid (Turn [fa] W9 W10) := hC.1
                have HF10 : Hid (W10.heap[fa]? = some (.cells (forkC d p la).toArray NODE (0, 0))) := hC.2
                clear hC
                simp only [List.filterMap_cons, List.filterMap_nil, id, puts, List.setIfInBounds_toArray, List.set_cons_zero, List.set_cons_succ]
                have HT10 : Hid (TreeN W10 B tb ((m : Int) + 1) (some (plug z (.fork a2 b2 l2 r2)))) := HT9.out.keep fun x hx => HTu10.out.block x (HT9.out.lt x hx) (fun e => HFm.out (by rw [List.mem_singleton] at e; rw [← e]; exact hx))
                have hcs10 : W10.cell? ⟨sb, so, none⟩ = some (.pointer (some ⟨p, 0, none⟩)) := (cell_of (HTu10.out.block _ hsb9 (by simpa using hsf)) so).trans hcs9
                have hfs10 : W10.frozen? ⟨sb, so, none⟩ = false := (frozen_of (HTu10.out.block _ hsb9 (by simpa using hsf)) so).trans hfs9
                have HL10 : Hid (W10.heap[la]? = some (.cells (leafC k v).toArray NODE (0, 0))) := (HTu10.out.block _ (lt_heap HL9.out) (by simpa using HLF.out)).trans HL9.out
                have HTu11 : Hid (Turn (tb :: addrsO (some t)) w W10) := by
                  have g1 : Turn (fa :: tb :: addrsO (some t)) w W9 := (HTu7.out.trans (Turn.of_below (HB.out.trans (HB9.out.mono HB.out.size)))).mono fun x _ e => List.mem_cons_of_mem _ e
                  have g2 : Turn (fa :: tb :: addrsO (some t)) W9 W10 := HTu10.out.mono fun x _ e => by rw [List.mem_singleton] at e; rw [e]; simp
                  refine (g1.trans g2).mono fun x hx e => ?_
                  rcases List.mem_cons.1 e with rfl | e
                  · exact absurd hx HFn.out
                  · exact e
                clear HT9 HTu10 hcs9 hfs9 HL9 hsb9
                go_wp2_with fail
                go_ret
                have hfin := ins_in (W := W10) (B := B) (tb := tb) (n := ((m : Int) + 1)) (z := z) (t' := (.fork a2 b2 l2 r2)) (k := k) (v := v) (d := d) (la := la) (fa := fa) HT10.out HAl.out HDz.out HStop.out
                  (by rw [HZ.out]; exact HWF.out la fa) (by rw [HZ.out, ins_len, ← HM.out]; omega) HL10.out (by rw [hbit, ← HP.out]; exact HF10.out) (by rw [HZ.out]; exact HLm.out) HFm.out HLF.out HLB.out HFB.out
                rw [HS.out, HZ.out] at hfin
                exact ⟨rfl, _, hfin, HAll.out la fa, HTu11.out.trans ((Turn.setCell sb so _ W10).mono fun x _ hx => by
                  rw [List.mem_singleton] at hx
                  rw [hx]
                  have h9 := slot_mem tb z (.fork a2 b2 l2 r2)
                  rw [HS.out, HZ.out] at h9
                  exact h9), fun x hx => by
                  rcases ins_mem la fa k v d t x hx with h | h | h
                  · exact .inl h
                  · rw [h]; exact .inr HLw.out
                  · rw [h]; exact .inr (Nat.not_lt.1 HFn.out)⟩
theorem put_any (k : List UInt8) (v : Int) (w : World) (B tb : Nat) (o : Option T) (hk : k.length = 25) (hT : TreeAt w B tb o) (hB : B ≤ w.heap.size) (hsz : (allO o).length ≤ 1000000) :
    Calls Try.prog 13 #[ptrA tb, .agg (bC k), .int .i64 v] w fun e w' => e = .returned (.bool (!hasO k o)) ∧ ∃ o', TreeAt w' B tb o' ∧ allO o' = putL (allO o) k v ∧ Turn (tb :: addrsO o) w w' := by
  refine (put_anyS k v w B tb o hk hT hB hsz).mono ?_
  rintro e w' ⟨rfl, o', h1, h2, h3, -⟩
  exact ⟨rfl, o', h1, h2, h3⟩
end Go.Proofs.Ytagdedjclbmlkaa
