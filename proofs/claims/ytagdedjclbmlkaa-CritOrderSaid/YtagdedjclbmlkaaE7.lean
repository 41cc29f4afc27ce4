/- The bits at which a key leaves others: the tree's. -/
import Derived.Test.YtagdedjclbmlkaaC12

namespace Go.Proofs.Ytagdedjclbmlkaa
open Go.RowKit

def encI (n : Nat) : List Value := [.int .i64 (n : Int)]
theorem encI_len (n : Nat) : (encI n).length = 1 := rfl
theorem encI_one (n : Nat) : ∀ u ∈ encI n, u.oneCell' = true := fun u hu => by simp only [encI, List.mem_singleton] at hu; subst hu; rfl
theorem infoI : (Try.prog.info? 3).map (fun i => (i.zero, i.size, i.bytes)) = some (some (.int .i64 0), 1, 8) := by kernel_rfl
section
variable {ops : Array Oper} {o : Oper} {rest : List Oper} {a : Act} {w : World} {Q : Exit → Act → World → Prop}
theorem app_I (hgd : o.guard = none) (s x : Operand) (ho : o.op = .call { callee := .builtin .append, args := #[s, x], argTypes := #[58, 58] })
    (base : Nat) (v : Value) (xs : List Nat) (hs : a.eval s = v) (hown : OwnE encI 3 1 w base v xs) (b c : Nat) (y : Nat) (hx : a.eval x = .slice (some ⟨b, 0, none⟩) 1 c)
    (hr : w.rangeAt b 0 (encI y)) (hlen : xs.length ≤ 1000000) (hbase : base ≤ w.heap.size)
    (h : ∀ v' w', OwnE encI 3 1 w' base v' (xs ++ [y]) → w.grownBy w' v.ownBlock → wpList Try.prog ops Q rest (a.put o.dst v') w') : wpList Try.prog ops Q (o :: rest) a w :=
  wl_app1 58 3 8 (.int .i64 0) Try.underlying58 infoI rfl (by omega) encI_len encI_one hgd s x ho base v xs hs hown b c y hx hr (by omega) (by unfold maxLen; omega) hbase h
end
theorem OwnE.low {α : Type} {enc : α → List Value} {E : TypeId} {k : Nat} {w : World} {b b' : Nat} {v : Value} {xs : List α} (h : OwnE enc E k w b v xs) (hb : b' ≤ b) : OwnE enc E k w b' v xs := by
  obtain ⟨h1, h2 | ⟨g, cap, cur, hv, hg, hr⟩⟩ := h
  · exact ⟨h1, .inl h2⟩
  · exact ⟨h1, .inr ⟨g, cap, cur, hv, Nat.le_trans hb hg, hr⟩⟩
/-- The bits that Branch tells. -/
def brL (l : List (List UInt8 × Int)) (k : List UInt8) : List Nat := if (findL l k).isSome then branchL l k else []
set_option maxRecDepth 100000 in
set_option maxHeartbeats 8000000 in
theorem branch_any (o : Option T) (k : List UInt8) (w : World) (B tb : Nat) (hk : k.length = 25) (hT : TreeAt w B tb o) :
    Calls Try.prog 22 #[ptrA tb, .agg (bC k)] w fun e w' => ∃ v, e = .returned v ∧ OwnE encI 3 1 w' w.heap.size v (brL (allO o) k) ∧ Below w.heap.size w w' := by
  have HX1 := Lib.hid (heap_alloc_new w (.cells (bC k) 30))
  have HB1 := Lib.hid (below_alloc1 w (.cells (bC k) 30))
  have HT1 := Lib.hid (hT.below HB1.out)
  have HK := Lib.hid hk
  clear hk hT
  cases hf : findL (allO o) k with
  | none =>
    have HL : Hid (brL (allO o) k = []) := by show _ = _; unfold brL; rw [hf]; rfl
    have KF : Hid (∀ W, TreeAt W B tb o → Calls Try.prog 34 #[ptrA tb, .agg (bC k)] W fun e w' => e = .returned (.pointer none) ∧ Below W.heap.size W w') := fun W h => by
      have := find_any k W B tb o HK.out h
      rwa [find_none_of h.wf hf] at this
    clear hf
    go_enter Try.func22, Try.ntmps22
    go_upto_region 1 with fail
    generalize w.alloc (.cells (bC k) 30) = W1 at *
    go_wp2_with (first
      | ((with_reducible refine gate_ld 30 (.tmp 3) rfl ?_); refine wl_ldr rfl 30 _ rfl w.heap.size 0 (bC k).toList _ Try.underlying30 rfl (by rw [sizKey]; simp [bC, HK.out]) rfl (range_whole (by simpa using HX1.out)) ?_)
      | (go_at_call 34; (refine (KF.out W1 HT1.out).mono ?_); rintro e W2 ⟨rfl, hb2⟩; have HB2 := Lib.hid hb2; clear hb2))
    go_ret
    exact ⟨_, rfl, by rw [HL.out]; exact OwnE.nil _ _, HB1.out.trans (HB2.out.mono HB1.out.size)⟩
  | some i =>
    obtain ⟨t, rfl, hnk, hfv⟩ := find_some_of HT1.out.wf hf
    have HL : Hid (brL (allO (some t)) k = T.path k t) := by
      show _ = _
      unfold brL
      rw [hf]
      exact (path_branch k HT1.out.wf ((T.mem_iff HT1.out.wf k).2 hnk)).symm
    have HPl : Hid ((T.path k t).length ≤ 200) := T.path_len k HT1.out.wf
    have KF : Hid (∀ W, TreeAt W B tb (some t) → Calls Try.prog 34 #[ptrA tb, .agg (bC k)] W fun e w' => e = .returned (.pointer (some ⟨(T.near k t).1, 0, none⟩)) ∧ Below W.heap.size W w') := fun W h => by
      have := find_any k W B tb (some t) HK.out h
      rwa [hfv] at this
    clear hf hfv hnk
    generalize (T.near k t).1 = na at *
    have KB := Lib.hid (fun W => keyBytes_any k W HK.out)
    have KS := Lib.hid (fun i W (hi : i < 200) => side_any k i W HK.out hi)
    go_enter Try.func22, Try.ntmps22
    go_upto_region 1 with fail
    generalize w.alloc (.cells (bC k) 30) = W1 at *
    go_upto_region 4 with (first
      | ((with_reducible refine gate_ld 30 (.tmp 3) rfl ?_); refine wl_ldr rfl 30 _ rfl w.heap.size 0 (bC k).toList _ Try.underlying30 rfl (by rw [sizKey]; simp [bC, HK.out]) rfl (range_whole (by simpa using HX1.out)) ?_)
      | (go_at_call 34; (refine (KF.out W1 HT1.out).mono ?_); rintro e W2 ⟨rfl, hb2⟩; have HT2 := Lib.hid (HT1.out.below hb2); have HX2 := Lib.hid ((hb2.block _ (lt_heap HX1.out)).trans HX1.out); have HB2 := Lib.hid (HB1.out.trans (hb2.mono HB1.out.size)); clear hb2))
    clear KF HX1 HB1 HT1
    go_upto_region 5 with (first
      | ((with_reducible refine gate_ld 30 (.tmp 3) rfl ?_); refine wl_ldr rfl 30 _ rfl w.heap.size 0 (bC k).toList _ Try.underlying30 rfl (by rw [sizKey]; simp [bC, HK.out]) rfl (range_whole (by simpa using HX2.out)) ?_)
      | (go_at_call 35; (refine (KB.out W2).mono ?_); rintro e W3 ⟨rfl, hb3⟩; have HT3 := Lib.hid (HT2.out.below hb3); have HB3 := Lib.hid (HB2.out.trans (hb3.mono HB2.out.size)); clear hb3)
      | ((with_reducible refine gate_st 85 (.tmp 6) _ rfl ?_); refine wl_strn rfl _ _ _ rfl (bC k) z25A _ (by rw [siz25, bC_size, HK.out]) (by rw [bC_size, HK.out]; rfl) (bC_one k) (by simp [Act.eval]) rfl ?_))
    have HN0 : Hid ((W3.alloc (.cells (bC k) 85)).heap[W3.heap.size]? = some (.cells (bC k) 85 (0, 0))) := heap_alloc_new _ _
    have HT4 := Lib.hid (HT3.out.below (below_alloc1 W3 (.cells (bC k) 85)))
    have HB4 : Hid (Below w.heap.size w (W3.alloc (.cells (bC k) 85))) := HB3.out.alloc HB3.out.size _
    obtain ⟨bb, hbb⟩ : ∃ b, b = W3.heap.size := ⟨_, rfl⟩
    rw [← hbb] at HN0 ⊢
    generalize W3.alloc (.cells (bC k) 85) = W0 at *
    clear hbb HT2 HX2 HB2 HT3 HB3 KB
    have hc : W0.cell? ⟨tb, 0, none⟩ = some (ptrA t.addr) := by rw [cell_blk HT4.out.tree]; rfl
    have HIn : Hid (InT W0 t) := HT4.out.ins
    have HWf : Hid t.WF := HT4.out.wf
    unfold ptrA at hc
    unfold ptrA
    obtain ⟨ta, hta⟩ : ∃ ta, ta = t.addr := ⟨_, rfl⟩
    rw [← hta] at hc
    have HTa := Lib.hid hta
    clear hta
    go_wp2_with fail
    go_loopg [5, 7] (t.sz + 1) (fun g vo vn wr => ∃ (s : T) (pre : List Nat), vn = ptrA s.addr ∧ s.sz + 1 ≤ g ∧ Hid (T.path k t = pre ++ T.path k s) ∧ Hid (InT W0 s) ∧ Hid s.WF ∧ Hid (OwnE encI 3 1 wr W0.heap.size vo pre) ∧ Hid (Below W0.heap.size W0 wr))
    case atStart => exact ⟨t, [], by rw [← HTa.out]; rfl, Nat.le_refl _, rfl, HIn, HWf, OwnE.nil _ _, Below.refl _ _⟩
    case round =>
      clear hc
      obtain ⟨s, pre, rfl, hg, HP, HI, HW, HO, HB⟩ := hrel
      cases s with
      | leaf a x v =>
        have h0 : W0.heap[a]? = some (.cells (leafC x v).toArray NODE (0, 0)) := HI.out
        have hc0 : wr.cell? ⟨a, 0, none⟩ = some (.bool true) := by rw [cell_blk ((HB.out.block _ (lt_heap h0)).trans h0)]; rfl
        have HE : Hid (T.path k t = pre) := by show _ = _; rw [HP.out]; simp [T.path]
        clear h0
        unfold ptrA T.addr
        go_wp2_with fail
        go_ret
        exact ⟨_, rfl, by rw [HL.out, HE.out]; exact HO.out.low HB4.out.size, HB4.out.trans (HB.out.mono HB4.out.size)⟩
      | fork a b l r =>
        have h0 : W0.heap[a]? = some (.cells (forkC b l.addr r.addr).toArray NODE (0, 0)) := HI.out.1
        have h1 := (HB.out.block _ (lt_heap h0)).trans h0
        have hc0 : wr.cell? ⟨a, 0, none⟩ = some (.bool false) := by rw [cell_blk h1]; rfl
        have hc52' : wr.cell? ⟨a, 52, none⟩ = some (.int .i64 b) := by rw [cell_blk h1]; rfl
        have hb200 : b < 200 := HW.out.1
        have HH0 := Lib.hid h0
        have hpl : pre.length ≤ 1000000 := by
          have h3 := HPl.out
          rw [HP.out, List.length_append] at h3
          omega
        have HO1 : Hid (OwnE encI 3 1 (wr.alloc (.cells (encI b).toArray 3)) W0.heap.size u5 pre) := HO.out.below (below_alloc1 _ _)
        have hz1 : W0.heap.size ≤ (wr.alloc (.cells (encI b).toArray 3)).heap.size := by have := HB.out.size; simp; omega
        have HZ1 := Lib.hid hz1
        have HB5 : Hid (∀ w', (wr.alloc (.cells (encI b).toArray 3)).grownBy w' (Value.ownBlock u5) → Below W0.heap.size W0 w') := fun w' hg => (HB.out.trans ((below_alloc1 wr _).mono HB.out.size)).trans (grown_below hg (fun g' hg' => (HO.out.lt g' hg').1) hz1)
        clear h0 h1 hz1
        unfold ptrA
        simp only [T.addr]
        go_upto_region 7 with (at_builtin; (refine app_I rfl _ _ rfl W0.heap.size u5 pre rfl HO1.out wr.heap.size 1 b rfl (range_whole (heap_alloc_new _ _)) hpl HZ1.out ?_); intro v' w3 ho3 hg3)
        have HO3 := Lib.hid ho3
        have HB3 := Lib.hid (HB5.out w3 hg3)
        clear ho3 hg3 hc0 hc52' HO1 HZ1 HB5
        try simp only [Act.put]
        have h1 := (HB3.out.block _ (lt_heap HH0.out)).trans HH0.out
        have hc52 : w3.cell? ⟨a, 52, none⟩ = some (.int .i64 b) := by rw [cell_blk h1]; rfl
        have hc53 : w3.cell? ⟨a, 53, none⟩ = some (.pointer (some ⟨l.addr, 0, none⟩)) := by rw [cell_blk h1]; rfl
        have hc54 : w3.cell? ⟨a, 54, none⟩ = some (.pointer (some ⟨r.addr, 0, none⟩)) := by rw [cell_blk h1]; rfl
        have hal := lt_heap h1
        have HKb : Hid (w3.heap[bb]? = some (.cells (bC k) 85 (0, 0))) := (HB3.out.block _ (lt_heap HN0.out)).trans HN0.out
        have KS1 := Lib.hid (fun W => KS.out b W hb200)
        have hsz : l.sz + r.sz + 1 + 1 ≤ gk := hg
        have HPp : ∀ c, bitOf k b = c → Hid (T.path k t = (pre ++ [b]) ++ T.path k (if c then r else l)) := fun c hc => by
          show _ = _
          rw [HP.out, show T.path k (.fork a b l r) = b :: (if bitOf k b then T.path k r else T.path k l) from rfl, hc]
          cases c <;> simp
        clear h1
        cases hcb : bitOf k b
        all_goals
          have HNr2 := HPp _ hcb
          rw [hcb] at KS1
          clear HPp
          have KS2 : Hid (∀ W, Calls Try.prog 36 #[.agg (bC k), .int .i64 (b : Int)] W fun e w' => e = .returned (.int .i64 (sideI _ : Nat)) ∧ Below W.heap.size W w') := KS1.out
          unfold sideI at KS2
          clear KS1
          refine wp_region_quiet_below (by kernel_rfl) (by kernel_rfl) ?_
          repeat (first
            | (with_reducible refine wq_ldr rfl 85 (.tmp 6) rfl bb 0 (bC k).toList _ Try.underlying85 rfl (by rw [siz25]; simp [bC, HK.out]) rfl (range_whole (by simpa using HKb.out)) (lt_heap HKb.out) ?_; simp only [Act.put, List.setIfInBounds_toArray, List.set_cons_zero, List.set_cons_succ])
            | (refine wq_ld1 rfl 3 (.tmp 27) rfl a 52 (.int .i64 (b : Int)) ag3 rfl hc52 hal ?_; simp only [Act.put, List.setIfInBounds_toArray, List.set_cons_zero, List.set_cons_succ])
            | (refine wq_ld1 rfl 80 (.tmp 32) rfl a 53 (.pointer (some ⟨l.addr, 0, none⟩)) agN rfl hc53 hal ?_; simp only [Act.put, List.setIfInBounds_toArray, List.set_cons_zero, List.set_cons_succ])
            | (refine wq_ld1 rfl 80 (.tmp 32) rfl a 54 (.pointer (some ⟨r.addr, 0, none⟩)) agN rfl hc54 hal ?_; simp only [Act.put, List.setIfInBounds_toArray, List.set_cons_zero, List.set_cons_succ])
            | go_big_quiet_step (first | (exact rg_call KS2.out _ _)))
          refine wpQuiet_nil ?_
          rintro _ ⟨⟨dq, osq⟩, rfl⟩
          have hb9 := below_regrown w3 dq osq
          have HB9 : Hid (Below W0.heap.size W0 (Sort.grow (redrawn w3 dq) osq)) := HB3.out.trans (hb9.mono HB3.out.size)
          have HO9 : Hid (OwnE encI 3 1 (Sort.grow (redrawn w3 dq) osq) W0.heap.size v' (pre ++ [b])) := HO3.out.below hb9
          clear HB HB3 HO3 hc52 hc53 hc54 hal HKb hb9
          generalize Sort.grow (redrawn w3 dq) osq = W9 at *
          go_wp2_with fail
        · go_roundg (l.sz + 1)
          case measure => omega
          case rel => exact ⟨l, pre ++ [b], rfl, Nat.le_refl _, HNr2, HI.out.2.1, HW.out.2.1, HO9, HB9⟩
        · go_roundg (r.sz + 1)
          case measure => omega
          case rel => exact ⟨r, pre ++ [b], rfl, Nat.le_refl _, HNr2, HI.out.2.2, HW.out.2.2.1, HO9, HB9⟩
end Go.Proofs.Ytagdedjclbmlkaa
