/- leaves: the iterator. -/
import Derived.Test.YtagdedjclbmlkaaC15
namespace Go.Proofs.Ytagdedjclbmlkaa
open Go.RowKit

def pd (fr : List UInt8) : List UInt8 := ovl z25 0 fr
theorem pd_len {fr : List UInt8} (h : fr.length ≤ 25) : (pd fr).length = 25 := by
  unfold pd
  rw [ovl_len (by show 0 + fr.length ≤ 25; omega)]; rfl
theorem pd_at {fr : List UInt8} (j : Nat) (hj : j < fr.length) : (pd fr).getD j 0 = fr.getD j 0 := by
  unfold pd ovl
  rw [List.take_zero, List.nil_append, List.getD_eq_getElem?_getD, List.getD_eq_getElem?_getD, List.getElem?_append_left hj]
theorem sub_lvs (p : List UInt8) (m : Nat) : ∀ t : T, ∀ x ∈ lvs (T.sub p m t), x ∈ lvs t
  | .leaf _ _ _, x, h => h
  | .fork a b l r, x, h => by
    unfold T.sub at h
    split at h
    · split at h
      · exact List.mem_append.2 (.inr (sub_lvs p m r x h))
      · exact List.mem_append.2 (.inl (sub_lvs p m l x h))
    · exact h
def subO (fr : List UInt8) (o : Option T) : Option T := o.map (T.sub (pd fr) (8 * fr.length))
theorem subO_mem (fr : List UInt8) (o : Option T) : ∀ x ∈ lvsO (subO fr o), x ∈ lvsO o := by
  cases o with
  | none => intro x h; exact h
  | some t => exact sub_lvs _ _ t
/-- All leaves that the walk comes by; those of the prefix. -/
def allL (fr : List UInt8) (o : Option T) : List (LV o) := lvIn o (lvsO (subO fr o)) (subO_mem fr o)
def fil {o : Option T} (fr : List UInt8) (l : List (LV o)) : List (LV o) := l.filter fun x => pre fr x.val.2.1
theorem fil_all {o : Option T} (h : WFO o) {fr : List UInt8} : (fil fr (allL fr o)).map (·.val.2) = (allO o).filter (fun x => pre fr x.1) := by
  unfold fil
  have e : ∀ l : List (LV o), (l.filter fun x => pre fr x.val.2.1).map (·.val.2) = ((l.map LV.val).map (·.2)).filter (fun x => pre fr x.1) := by
    intro l
    induction l with
    | nil => rfl
    | cons x l ih =>
      simp only [List.map_cons, List.filter_cons]
      split
      · rw [List.map_cons, ih]
      · exact ih
  rw [e, allL, lvIn_map, lvsO_all]
  cases o with
  | none => rfl
  | some t => exact sub_pre (fun j hj => pd_at j hj) h
/-- Where the iterator's captured front lies. -/
def FrAt (W : World) (fq : Option Addr) (fr : List UInt8) : Prop := fr = [] ∨ ∃ b o cs, fq = some ⟨b, o, none⟩ ∧ W.heap[b]? = some (.cells cs 5 (0, 0)) ∧ W.rangeAt b o (bC fr).toList
theorem FrAt.below {W W' : World} {fq : Option Addr} {fr : List UInt8} (h : FrAt W fq fr) (hb : Below W.heap.size W W') : FrAt W' fq fr :=
  h.imp (fun e => e) fun ⟨b, o, cs, h1, h2, h3⟩ => ⟨b, o, cs, h1, (hb.block _ (lt_heap h2)).trans h2, range_of_block h3 (hb.block _ (lt_heap h2))⟩
theorem exec_mul8 {o : Oper} {a : Act} {w : World} (x : Operand) (ho : o.op = .binOp .mul 3 (.const (.int .i64 8)) x 3) (r : Nat) (hr : r ≤ 25) (hx : a.eval x = .int .i64 (r : Int)) : (execOp a.eval o).run Try.prog w = .ok (.value (.int .i64 ((8 * r : Nat) : Int))) w := by
  have h1 : a.eval (.const (.int .i64 8)) = .int .i64 8 := rfl
  unfold execOp
  simp only [ho, hx, h1]
  simp [go_sem]
  rw [show (8 : Int) * (r : Int) = ((8 * r : Nat) : Int) by omega]
  exact wrap_small _ (.inl rfl) _ (by omega)
theorem exec_ltN {o : Oper} {a : Act} {w : World} (x y : Operand) (ho : o.op = .binOp .lss 3 x y 3) (m n : Nat) (b : Bool) (hb : decide (m < n) = b) (hx : a.eval x = .int .i64 (m : Int)) (hy : a.eval y = .int .i64 (n : Int)) : (execOp a.eval o).run Try.prog w = .ok (.value (.bool b)) w := by
  subst hb
  unfold execOp
  simp only [ho, hx, hy]
  by_cases h : m < n
  · have h2 : (m : Int) < n := by omega
    simp [go_sem, h]
  · have h2 : ¬ (m : Int) < n := by omega
    simp [go_sem, h]
theorem agT (w : World) : (isAgg 31).run Try.prog w = .ok false w := by simp [isAgg, run_underlying Try.underlying31]
theorem exec_slB {o : Oper} {a : Act} {t : Nat} {b : Nat} (w : World) (ho : o.op = .slice 85 (.tmp t) none none none) (hx : a.eval (.tmp t) = .pointer (some ⟨b, 0, none⟩)) : (execOp a.eval o).run Try.prog w = .ok (.value (.slice (some ⟨b, 0, none⟩) 25 25)) w := by
  unfold execOp
  simp only [ho, hx]
  simp [go_sem, Try.underlying85]
theorem copy_src {W : World} {bb : Nat} {fq : Option Addr} {fr : List UInt8} (h : FrAt W fq fr) : 0 < (bC fr).toList.length → (some (⟨bb, 0, none⟩ : Addr)) = some ⟨bb, 0, none⟩ ∧ ∃ ad, fq = some ad ∧ ∀ j v, (bC fr).toList[j]? = some v → W.cell? (ad.add j) = some v := fun hp => by
  rcases h with rfl | ⟨b, o, cs, rfl, _, h3⟩
  · simp [bC] at hp
  · exact ⟨rfl, _, rfl, fun j v hv => by rw [Addr.add_mid]; exact h3 j v hv⟩
theorem bC_one' (l : List UInt8) : ∀ v ∈ (bC l).toList, v.oneCell' = true := fun v hv => by
  simp only [bC, List.mem_map] at hv
  obtain ⟨c, _, rfl⟩ := hv
  rfl
theorem splice_pd (fr : List UInt8) : some (Obj.cells (splice (bC z25).toList 0 (bC fr).toList).toArray 85 (0, 0)) = some (Obj.cells (bC (pd fr)) 85 (0, 0)) := by
  congr 2
  simp [splice, bC, pd, ovl, List.map_drop]
theorem lvIn_eq {o : Option T} {l m : List (Nat × List UInt8 × Int)} (e : l = m) (h : ∀ x ∈ l, x ∈ lvsO o) (h' : ∀ x ∈ m, x ∈ lvsO o) : lvIn o l h = lvIn o m h' := by subst e; rfl
theorem fil_snoc {o : Option T} (fr : List UInt8) (p : List (LV o)) (x : LV o) : fil fr (p ++ [x]) = if pre fr x.val.2.1 = true then fil fr p ++ [x] else fil fr p := by
  unfold fil
  rw [List.filter_append, List.filter_cons]
  split
  · rfl
  · simp
theorem fil_prefix {o : Option T} (fr : List UInt8) {p q : List (LV o)} (h : p <+: q) : fil fr p <+: fil fr q := by
  obtain ⟨r, rfl⟩ := h
  exact ⟨fil fr r, (List.filter_append ..).symm⟩
theorem walk_call (n l fb yb n₀ : Nat) (o : Option T) (s : T) (fq : Option Addr) (fn fc : Nat) (fr : List UInt8) (W : World) (Ts : List TypeId) (hN : NODE ∉ Ts) (hF : 109 ∉ Ts) (hYT : 120 ∉ Ts) (hU : 5 ∉ Ts) (hfn : fr.length = fn) (hw : WFO o)
    (hM : LvM o fb yb l fq fn fc fr W) (hs : subO fr o = some s)
    (J Jx : List (LV o) → World → Prop) (hJ : ∀ s A A', Below A.heap.size A A' → J s A → J s A')
    (hY : ∀ p x W1, J p W1 → p.length < (fil fr (allL fr o)).length → YieldAt Fence.wide (n - 1) Try.prog l #[.pointer (some ⟨x.val.1, 0, none⟩)] W1 fun e W' =>
      (e = .returned (.bool true) ∧ J (p ++ [x]) W' ∧ KpT n₀ Ts W1 W') ∨ (e = .returned (.bool false) ∧ Jx (p ++ [x]) W')) (h0 : J [] W) :
    Calls Try.prog 56 #[.pointer (some ⟨s.addr, 0, none⟩), .func (.func 57) #[] #[.pointer (some ⟨fb, 0, none⟩), .pointer (some ⟨yb, 0, none⟩)]] W fun e W' =>
      ∃ b : Bool, e = .returned (.bool b) ∧ ((∃ ys, ys = fil fr (allL fr o) ∧ J ys W') ∨ (∃ p, p <+: fil fr (allL fr o) ∧ Jx p W')) := by
  have hls : ∀ x ∈ lvs s, x ∈ lvsO o := fun x hx => subO_mem fr o x (by rw [hs]; exact hx)
  have hAll : lvIn o (lvs s) hls = allL fr o := lvIn_eq (by rw [hs]; rfl) _ _
  have hsub : ∀ W', InO W' o → InT W' s := by
    intro W' h
    cases o with
    | none => cases hs
    | some t =>
      have : ∀ t : T, InT W' t → InT W' (T.sub (pd fr) (8 * fr.length) t) := by
        intro t
        induction t with
        | leaf a k v => intro h; exact h
        | fork a b l r ihl ihr =>
          intro h
          unfold T.sub
          split
          · split
            · exact ihr h.2.2
            · exact ihl h.2.1
          · exact h
      have h2 := this t h
      have h3 : T.sub (pd fr) (8 * fr.length) t = s := by
        have := hs
        simpa [subO] using this
      rwa [h3] at h2
  have hw := walk_in fb yb n o (fun p W' => J (fil fr p) W' ∧ LvM o fb yb l fq fn fc fr W') (fun p W' => Jx (fil fr p) W') (allL fr o) (fun p x W1 hp hst => by
      have hxl := lvsO_len hw x.val x.mem
      have hsn := fil_snoc fr p x
      refine lf11_in n l fb yb x.val.1 fq fn fc x.val.2.1 fr x.val.2.2 W1 _ hxl hfn (hst.2.ins.leafAt x.val x.mem) hst.2.fbx hst.2.front hst.2.ybx (fun hpre W' hb => ?_) (fun hpre W' hb => ?_)
      · rw [hpre] at hsn
        exact .inl ⟨rfl, by rw [hsn]; exact hJ _ _ _ hb hst.1, hst.2.below hb⟩
      · rw [hpre, if_pos rfl] at hsn
        have hlen : (fil fr p).length < (fil fr (allL fr o)).length := by
          have := (fil_prefix fr hp).length_le
          rw [hsn, List.length_append, List.length_singleton] at this
          omega
        obtain ⟨fn2, tmps, assign, body, h1, h2⟩ := hY (fil fr p) x W' (hJ _ _ _ hb hst.1) hlen
        refine ⟨fn2, tmps, assign, body, h1, h2.mono fun e W'' h => ?_⟩
        rcases h with ⟨rfl, hj, hk⟩ | ⟨rfl, hj⟩
        · exact ⟨true, rfl, .inl ⟨rfl, by rw [hsn]; exact hj, (hst.2.below hb).kp hN hF hYT hU hk⟩⟩
        · exact ⟨false, rfl, .inr ⟨rfl, by rw [hsn]; exact hj⟩⟩)
    s hls [] W (fun q W' hq => hsub W' hq.2.ins) (by rw [hAll]; exact List.prefix_refl _) ⟨h0, hM⟩
  refine (callsIn_wide.1 hw).mono fun e W' h => ?_
  rw [hAll] at h
  rcases h with ⟨rfl, h1, _⟩ | ⟨rfl, q, hq, h1⟩
  · exact ⟨true, rfl, .inl ⟨_, rfl, h1⟩⟩
  · exact ⟨false, rfl, .inr ⟨_, fil_prefix fr hq, h1⟩⟩
set_option maxRecDepth 100000 in
set_option maxHeartbeats 16000000 in
theorem leaves1_in (n l bx fb n₀ tb B : Nat) (m : Int) (o : Option T) (fq : Option Addr) (fn fc : Nat) (fr : List UInt8) (W : World) (Ts : List TypeId) (hN : NODE ∉ Ts) (hF : 109 ∉ Ts) (hYT : 120 ∉ Ts) (hU : 5 ∉ Ts) (hfn : fr.length = fn) (h25 : fn ≤ 25) (hn₀ : n₀ ≤ W.heap.size)
    (hT : TreeN W B tb m o) (hbx : W.heap[bx]? = some (.cells #[.pointer (some ⟨tb, 0, none⟩)] 31 (0, 0))) (hfb : W.heap[fb]? = some (.cells #[.slice fq fn fc] 109 (0, 0))) (hfr : FrAt W fq fr)
    (J Jx : List (LV o) → World → Prop) (hJ : ∀ s A A', Below A.heap.size A A' → J s A → J s A')
    (hY : ∀ p x W1, J p W1 → p.length < (fil fr (allL fr o)).length → YieldAt Fence.wide (n - 1) Try.prog l #[.pointer (some ⟨x.val.1, 0, none⟩)] W1 fun e W' =>
      (e = .returned (.bool true) ∧ J (p ++ [x]) W' ∧ KpT n₀ Ts W1 W') ∨ (e = .returned (.bool false) ∧ Jx (p ++ [x]) W')) (h0 : J [] W) :
    CallsIn Fence.wide n Try.prog 55 #[.func (.yield l) #[] #[], .pointer (some ⟨bx, 0, none⟩), .pointer (some ⟨fb, 0, none⟩)] W fun e W' =>
      (∃ v, e = .returned v) ∧ ((∃ ys, ys = fil fr (allL fr o) ∧ J ys W') ∨ (∃ p, p <+: fil fr (allL fr o) ∧ Jx p W')) := by
  have HX3 : Hid ((W.alloc (.cells #[.func (.yield l) #[] #[]] 120)).heap[W.heap.size]? = some (.cells #[.func (.yield l) #[] #[]] 120 (0, 0))) := heap_alloc_new _ _
  have hb3 := below_alloc1 W (.cells #[.func (.yield l) #[] #[]] 120)
  have HT3 := Lib.hid (hT.below hb3)
  have hbx3 : (W.alloc (.cells #[.func (.yield l) #[] #[]] 120)).heap[bx]? = some (.cells #[.pointer (some ⟨tb, 0, none⟩)] 31 (0, 0)) := (hb3.block _ (lt_heap hbx)).trans hbx
  have hfb3 : (W.alloc (.cells #[.func (.yield l) #[] #[]] 120)).heap[fb]? = some (.cells #[.slice fq fn fc] 109 (0, 0)) := (hb3.block _ (lt_heap hfb)).trans hfb
  have HBx3 := Lib.hid hbx3
  have HFb3 := Lib.hid hfb3
  have HFr3 := Lib.hid (hfr.below hb3)
  have HJ0 := Lib.hid (hJ _ _ _ hb3 h0)
  have HN₀ : Hid (n₀ ≤ (W.alloc (.cells #[.func (.yield l) #[] #[]] 120)).heap.size) := Nat.le_trans hn₀ hb3.size
  have HJ := Lib.hid hJ
  have HY := Lib.hid hY
  have HTs : Hid (NODE ∉ Ts ∧ 109 ∉ Ts ∧ 120 ∉ Ts ∧ 5 ∉ Ts) := ⟨hN, hF, hYT, hU⟩
  have HFn := Lib.hid hfn
  have hct : (W.alloc (.cells #[.func (.yield l) #[] #[]] 120)).cell? ⟨bx, 0, none⟩ = some (.pointer (some ⟨tb, 0, none⟩)) := by rw [cell_blk hbx3]; rfl
  clear hN hF hYT hU hfn hn₀ hT hbx hfb hfr hJ hY h0 hb3 hbx3 hfb3
  refine callsIn_wide.2 ?_
  go_enter Try.func55, Try.ntmps55
  go_upto_region 1 with fail
  obtain ⟨yb, hyb⟩ : ∃ yb, yb = W.heap.size := ⟨_, rfl⟩
  rw [← hyb] at HX3 ⊢
  generalize W.alloc (.cells #[.func (.yield l) #[] #[]] 120) = W3 at *
  clear hyb
  have HX4 : Hid ((W3.alloc (.cells (bC z25) 85)).heap[W3.heap.size]? = some (.cells (bC z25) 85 (0, 0))) := heap_alloc_new _ _
  have HB4 : Hid (Below W3.heap.size W3 (W3.alloc (.cells (bC z25) 85))) := below_alloc1 _ _
  go_upto_region 3 with fail
  show Code.wp _ _ _ _ (W3.alloc (.cells (bC z25) 85))
  generalize W3.alloc (.cells (bC z25) 85) = W4 at *
  obtain ⟨bb, hbb⟩ : ∃ bb, bb = W3.heap.size := ⟨_, rfl⟩
  have HBb : Hid (W3.heap.size ≤ bb) := by show _ ≤ _; omega
  rw [← hbb] at HX4 ⊢
  clear hbb hct
  have HFb4 : Hid (W4.heap[fb]? = some (.cells #[.slice fq fn fc] 109 (0, 0))) := (HB4.out.block _ (lt_heap HFb3.out)).trans HFb3.out
  have hcf : W4.cell? ⟨fb, 0, none⟩ = some (.slice fq fn fc) := by rw [cell_blk HFb4.out]; rfl
  have hlf := lt_heap HFb4.out
  refine wp_region_below_tail 2 (by kernel_rfl) (by kernel_rfl) ?_
  simp only [List.take_succ_cons, List.take_zero, List.drop_succ_cons, List.drop_zero]
  repeat (first
    | (refine wq_val (.slice (some ⟨bb, 0, none⟩) 25 25) rfl (fun w => exec_slB w rfl rfl) ?_; simp only [Act.put, List.setIfInBounds_toArray, List.set_cons_zero, List.set_cons_succ])
    | (refine wq_ld1 rfl 109 (.tmp 2) rfl fb 0 (.slice fq fn fc) agSb rfl hcf hlf ?_; simp only [Act.put, List.setIfInBounds_toArray, List.set_cons_zero, List.set_cons_succ]))
  refine wpQuiet_nil ?_
  rintro _ ⟨⟨dq, osq⟩, rfl⟩
  have HB5 : Hid (Below W3.heap.size W3 (Sort.grow (redrawn W4 dq) osq)) := HB4.out.trans ((below_regrown W4 dq osq).mono HB4.out.size)
  have HX5 : Hid ((Sort.grow (redrawn W4 dq) osq).heap[bb]? = some (.cells (bC z25) 85 (0, 0))) := ((below_regrown W4 dq osq).block _ (lt_heap HX4.out)).trans HX4.out
  clear HX4 HB4 HFb4 hcf hlf
  generalize Sort.grow (redrawn W4 dq) osq = W5 at *
  have HFr5 : Hid (FrAt W5 fq fr) := HFr3.out.below HB5.out
  refine wpList_copy_splice rfl (.tmp 8) (.tmp 9) 109 109 rfl 5 Try.underlying109 (by kernel_rfl) (some ⟨bb, 0, none⟩) fq 25 25 fn fc rfl rfl bb 0 (bC z25).toList 85 (by simpa using HX5.out) (bC fr).toList (by show (bC fr).toList.length = Nat.min fn 25; rw [show Nat.min fn 25 = fn from Nat.min_eq_left h25, ← HFn.out]; simp [bC]) (copy_src HFr5.out) (by have := HFn.out; simp [bC, z25]; omega) (bC_one' fr) W3.heap.size W3 HB5.out HBb.out (fun W6 hx6 hb6 => ?_)
  have HX6 : Hid (W6.heap[bb]? = some (.cells (bC (pd fr)) 85 (0, 0))) := (hx6.out.trans (by rw [splice_pd]))
  have HB6 := Lib.hid hb6
  clear hx6 hb6
  go_upto_region 4 with fail
  clear HX5 HB5 HFr5
  have HN6 : Hid (TreeN W6 B tb m o) := HT3.out.below HB6.out
  have HBx6 : Hid (W6.heap[bx]? = some (.cells #[.pointer (some ⟨tb, 0, none⟩)] 31 (0, 0))) := (HB6.out.block _ (lt_heap HBx3.out)).trans HBx3.out
  have HFb6 : Hid (W6.heap[fb]? = some (.cells #[.slice fq fn fc] 109 (0, 0))) := (HB6.out.block _ (lt_heap HFb3.out)).trans HFb3.out
  have HX36 : Hid (W6.heap[yb]? = some (.cells #[.func (.yield l) #[] #[]] 120 (0, 0))) := (HB6.out.block _ (lt_heap HX3.out)).trans HX3.out
  have HFr6 : Hid (FrAt W6 fq fr) := HFr3.out.below HB6.out
  have HJ6 : Hid (J [] W6) := HJ.out _ _ _ HB6.out HJ0.out
  have HN₆ : Hid (n₀ ≤ W6.heap.size) := Nat.le_trans HN₀.out HB6.out.size
  clear HT3 HBx3 HFb3 HX3 HFr3 HJ0 HB6 HN₀ HBb
  have hct : W6.cell? ⟨bx, 0, none⟩ = some (.pointer (some ⟨tb, 0, none⟩)) := by rw [cell_blk HBx6.out]; rfl
  obtain ⟨R, hR⟩ : ∃ R, R = rootV o := ⟨_, rfl⟩
  have hcr : W6.cell? ⟨tb, 0, none⟩ = some R := by rw [cell_blk HN6.out.tree, hR]; rfl
  have HR := Lib.hid hR
  clear hR
  go_wp2_with fail
  go_loopg [5] ((o.map T.sz).getD 0 + 1) (fun g v wr => ∃ s : Option T, v = rootV s ∧ (s.map T.sz).getD 0 + 1 ≤ g ∧ Hid (subO fr s = subO fr o) ∧ Hid (InO W6 s) ∧ Hid (WFO s) ∧ Hid (Below W6.heap.size W6 wr))
  case atStart => exact ⟨o, HR.out, Nat.le_refl _, rfl, HN6.out.ins, HN6.out.wf, Below.refl _ _⟩
  case round =>
    clear hct hcr
    obtain ⟨s, rfl, hg, HV, HI, HW, HB⟩ := hrel
    have hcf : wr.cell? ⟨fb, 0, none⟩ = some (.slice fq fn fc) := by rw [cell_blk ((HB.out.block _ (lt_heap HFb6.out)).trans HFb6.out)]; rfl
    have hlf : fb < wr.heap.size := Nat.lt_of_lt_of_le (lt_heap HFb6.out) HB.out.size
    have HXr : Hid (wr.heap[bb]? = some (.cells (bC (pd fr)) 85 (0, 0))) := (HB.out.block _ (lt_heap HX6.out)).trans HX6.out
    have HFin : Hid (∀ W9, Below W6.heap.size W6 W9 → J [] W9 ∧ LvM o fb yb l fq fn fc fr W9 ∧ n₀ ≤ W9.heap.size) := fun W9 hb => ⟨HJ.out _ _ _ hb HJ6.out, ⟨by
        have := (HN6.out.below hb).ins
        exact this, (hb.block _ (lt_heap HFb6.out)).trans HFb6.out, (hb.block _ (lt_heap HX36.out)).trans HX36.out, HFr6.out.below hb⟩, Nat.le_trans HN₆.out hb.size⟩
    cases s with
    | none =>
      unfold rootV
      go_upto_region 5 with fail
      try simp only [Act.put]
      refine wp_region_quiet_below (by kernel_rfl) (by kernel_rfl) ?_
      repeat (first
        | go_big_quiet_skip
        | go_big_quiet_step (fail))
      refine wpQuiet_nil ?_
      rintro _ ⟨⟨dq, osq⟩, rfl⟩
      have HB9 : Hid (Below W6.heap.size W6 (Sort.grow (redrawn wr dq) osq)) := HB.out.trans ((below_regrown wr dq osq).mono HB.out.size)
      have HJ9 := Lib.hid (HFin.out _ HB9.out).1
      have HE : Hid (fil fr (allL fr o) = []) := by
        show _ = _
        have : lvsO (subO fr o) = [] := by rw [← HV.out]; rfl
        have h2 : (allL fr o).map LV.val = lvsO (subO fr o) := lvIn_map _
        rw [this] at h2
        have h3 : allL fr o = [] := List.map_eq_nil_iff.1 h2
        rw [h3]; rfl
      go_wp2_with (go_at_call 56; (refine (walkNil_any _ _).mono ?_); rintro e W9 ⟨rfl, rfl⟩)
      go_end0
      exact ⟨⟨_, rfl⟩, .inl ⟨_, rfl, by rw [HE.out]; exact HJ9.out⟩⟩
    | some t =>
      have HSub : Hid (∀ W9, Below W6.heap.size W6 W9 → subO fr o = some t → Calls Try.prog 56 #[.pointer (some ⟨t.addr, 0, none⟩), .func (.func 57) #[] #[.pointer (some ⟨fb, 0, none⟩), .pointer (some ⟨yb, 0, none⟩)]] W9 fun e W' =>
          ∃ b : Bool, e = .returned (.bool b) ∧ ((∃ ys, ys = fil fr (allL fr o) ∧ J ys W') ∨ (∃ p, p <+: fil fr (allL fr o) ∧ Jx p W'))) := fun W9 hb hs =>
        walk_call n l fb yb n₀ o t fq fn fc fr W9 Ts HTs.out.1 HTs.out.2.1 HTs.out.2.2.1 HTs.out.2.2.2 HFn.out HN6.out.wf (HFin.out W9 hb).2.1 hs J Jx HJ.out HY.out (HFin.out W9 hb).1
      have hTin : InT wr t := InT.below (t := t) HI.out HB.out
      cases t with
      | leaf a x v =>
        have hc0 : wr.cell? ⟨a, 0, none⟩ = some (.bool true) := by rw [cell_blk (show wr.heap[a]? = _ from hTin)]; rfl
        have hal := lt_of_cell hc0
        have HE : Hid (subO fr o = some (.leaf a x v)) := by show _ = _; rw [← HV.out]; rfl
        simp only [rootV, ptrA, T.addr] at HSub ⊢
        clear hTin
        go_upto_region 5 with fail
        try simp only [Act.put]
        refine wp_region_quiet_below (by kernel_rfl) (by kernel_rfl) ?_
        repeat (first
          | go_big_quiet_skip
          | (refine wq_ld1 rfl 4 (.tmp 20) rfl a 0 (.bool true) ag4 rfl hc0 hal ?_; simp only [Act.put, List.setIfInBounds_toArray, List.set_cons_zero, List.set_cons_succ])
          | go_big_quiet_step (fail))
        refine wpQuiet_nil ?_
        rintro _ ⟨⟨dq, osq⟩, rfl⟩
        have HB9 : Hid (Below W6.heap.size W6 (Sort.grow (redrawn wr dq) osq)) := HB.out.trans ((below_regrown wr dq osq).mono HB.out.size)
        have KW := Lib.hid (HSub.out _ HB9.out HE.out)
        clear HB hc0 hal hcf hlf HXr
        generalize Sort.grow (redrawn wr dq) osq = W9 at *
        go_wp2_with (go_at_call 56; (refine KW.out.mono ?_); rintro e W10 ⟨b, rfl, hr⟩; have HRs := Lib.hid hr; clear hr)
        go_end0
        exact ⟨⟨_, rfl⟩, HRs.out⟩
      | fork a b l2 r2 =>
        have hroot : wr.heap[a]? = some (.cells (forkC b l2.addr r2.addr).toArray NODE (0, 0)) := hTin.1
        have hc0 : wr.cell? ⟨a, 0, none⟩ = some (.bool false) := by rw [cell_blk hroot]; rfl
        have hc52 : wr.cell? ⟨a, 52, none⟩ = some (.int .i64 b) := by rw [cell_blk hroot]; rfl
        have hc53 : wr.cell? ⟨a, 53, none⟩ = some (.pointer (some ⟨l2.addr, 0, none⟩)) := by rw [cell_blk hroot]; rfl
        have hc54 : wr.cell? ⟨a, 54, none⟩ = some (.pointer (some ⟨r2.addr, 0, none⟩)) := by rw [cell_blk hroot]; rfl
        have hal := lt_heap hroot
        have hb200 : b < 200 := HW.out.1
        simp only [rootV, ptrA, T.addr] at HSub ⊢
        clear hTin hroot
        by_cases hbd : b < 8 * fn
        · have KS1 := Lib.hid (fun W => side_any (pd fr) b W (pd_len (by rw [HFn.out]; exact h25)) hb200)
          have HE : ∀ c, bitOf (pd fr) b = c → Hid (subO fr (some (if c then r2 else l2)) = subO fr o) := fun c hc => by
            show _ = _
            rw [← HV.out]
            show some (T.sub _ _ _) = some (T.sub _ _ (.fork a b l2 r2))
            have hu : T.sub (pd fr) (8 * fr.length) (.fork a b l2 r2) = if bitOf (pd fr) b = true then T.sub (pd fr) (8 * fr.length) r2 else T.sub (pd fr) (8 * fr.length) l2 := by
              conv => lhs; unfold T.sub
              exact if_pos (by rw [HFn.out]; exact hbd)
            rw [hu, hc]
            cases c <;> rfl
          have hsz : l2.sz + r2.sz + 1 + 1 ≤ gk := hg
          cases hcb : bitOf (pd fr) b
          all_goals
            have HE2 := HE _ hcb
            rw [hcb] at KS1
            simp only [sideI, Bool.false_eq_true, if_false, if_true] at KS1 HE2
            clear HE
            go_upto_region 5 with fail
            try simp only [Act.put]
            refine wp_region_quiet_below (by kernel_rfl) (by kernel_rfl) ?_
            repeat (first
              | (refine wq_ld1 rfl 4 (.tmp 20) rfl a 0 (.bool false) ag4 rfl hc0 hal ?_; simp only [Act.put, List.setIfInBounds_toArray, List.set_cons_zero, List.set_cons_succ])
              | (refine wq_ld1 rfl 3 (.tmp 27) rfl a 52 (.int .i64 (b : Int)) ag3 rfl hc52 hal ?_; simp only [Act.put, List.setIfInBounds_toArray, List.set_cons_zero, List.set_cons_succ])
              | (refine wq_ld1 rfl 109 (.tmp 2) rfl fb 0 (.slice fq fn fc) agSb rfl hcf hlf ?_; simp only [Act.put, List.setIfInBounds_toArray, List.set_cons_zero, List.set_cons_succ])
              | (refine wq_val (.int .i64 ((8 * fn : Nat) : Int)) rfl (fun w => exec_mul8 (.tmp 30) rfl fn h25 rfl) ?_; simp only [Act.put, List.setIfInBounds_toArray, List.set_cons_zero, List.set_cons_succ])
              | (refine wq_val (.bool true) rfl (fun w => exec_ltN (.tmp 28) (.tmp 31) rfl b (8 * fn) true (decide_eq_true hbd) rfl rfl) ?_; simp only [Act.put, List.setIfInBounds_toArray, List.set_cons_zero, List.set_cons_succ])
              | go_big_quiet_step (fail))
            refine wpQuiet_nil ?_
            rintro _ ⟨⟨dq, osq⟩, rfl⟩
            have hbel := below_regrown wr dq osq
            have HB9 : Hid (Below W6.heap.size W6 (Sort.grow (redrawn wr dq) osq)) := HB.out.trans (hbel.mono HB.out.size)
            have hd52 : (Sort.grow (redrawn wr dq) osq).cell? ⟨a, 52, none⟩ = some (.int .i64 b) := (cell_of (hbel.block _ hal) 52).trans hc52
            have hd53 : (Sort.grow (redrawn wr dq) osq).cell? ⟨a, 53, none⟩ = some (.pointer (some ⟨l2.addr, 0, none⟩)) := (cell_of (hbel.block _ hal) 53).trans hc53
            have hd54 : (Sort.grow (redrawn wr dq) osq).cell? ⟨a, 54, none⟩ = some (.pointer (some ⟨r2.addr, 0, none⟩)) := (cell_of (hbel.block _ hal) 54).trans hc54
            have HX9 : Hid ((Sort.grow (redrawn wr dq) osq).heap[bb]? = some (.cells (bC (pd fr)) 85 (0, 0))) := (hbel.block _ (lt_heap HXr.out)).trans HXr.out
            have hal9 : a < (Sort.grow (redrawn wr dq) osq).heap.size := Nat.lt_of_lt_of_le hal hbel.size
            clear hbel HB hc0 hc52 hc53 hc54 hal hcf hlf HXr HSub
            generalize Sort.grow (redrawn wr dq) osq = W9 at *
            go_upto_region 6 with fail
            refine wp_region_quiet_below (by kernel_rfl) (by kernel_rfl) ?_
            repeat (first
              | (with_reducible refine wq_ldr rfl 85 (.tmp 4) rfl bb 0 (bC (pd fr)).toList _ Try.underlying85 rfl (by rw [siz25]; simp [bC, pd_len (show fr.length ≤ 25 by rw [HFn.out]; exact h25)]) rfl (range_whole (by simpa using HX9.out)) (lt_heap HX9.out) ?_; simp only [Act.put, List.setIfInBounds_toArray, List.set_cons_zero, List.set_cons_succ])
              | (refine wq_ld1 rfl 3 (.tmp 38) rfl a 52 (.int .i64 (b : Int)) ag3 rfl hd52 hal9 ?_; simp only [Act.put, List.setIfInBounds_toArray, List.set_cons_zero, List.set_cons_succ])
              | (refine wq_ld1 rfl 80 (.tmp 43) rfl a 53 (.pointer (some ⟨l2.addr, 0, none⟩)) agN rfl hd53 hal9 ?_; simp only [Act.put, List.setIfInBounds_toArray, List.set_cons_zero, List.set_cons_succ])
              | (refine wq_ld1 rfl 80 (.tmp 43) rfl a 54 (.pointer (some ⟨r2.addr, 0, none⟩)) agN rfl hd54 hal9 ?_; simp only [Act.put, List.setIfInBounds_toArray, List.set_cons_zero, List.set_cons_succ])
              | go_big_quiet_step (first | (exact rg_call KS1.out _ _)))
            refine wpQuiet_nil ?_
            rintro _ ⟨⟨dq2, osq2⟩, rfl⟩
            have HB10 : Hid (Below W6.heap.size W6 (Sort.grow (redrawn W9 dq2) osq2)) := HB9.out.trans ((below_regrown W9 dq2 osq2).mono HB9.out.size)
            clear hd52 hd53 hd54 hal9 HX9 HB9 KS1
            generalize Sort.grow (redrawn W9 dq2) osq2 = W10 at *
            go_wp2_with fail
          · go_roundg (l2.sz + 1)
            case measure => omega
            case rel => exact ⟨some l2, rfl, Nat.le_refl _, HE2, HI.out.2.1, HW.out.2.1, HB10⟩
          · go_roundg (r2.sz + 1)
            case measure => omega
            case rel => exact ⟨some r2, rfl, Nat.le_refl _, HE2, HI.out.2.2, HW.out.2.2.1, HB10⟩
        · have HE : Hid (subO fr o = some (.fork a b l2 r2)) := by
            show _ = _
            rw [← HV.out]
            show some (T.sub _ _ (.fork a b l2 r2)) = _
            congr 1
            unfold T.sub
            rw [if_neg (by rw [HFn.out]; exact hbd)]
          go_upto_region 5 with fail
          try simp only [Act.put]
          refine wp_region_quiet_below (by kernel_rfl) (by kernel_rfl) ?_
          repeat (first
            | (refine wq_ld1 rfl 4 (.tmp 20) rfl a 0 (.bool false) ag4 rfl hc0 hal ?_; simp only [Act.put, List.setIfInBounds_toArray, List.set_cons_zero, List.set_cons_succ])
            | (refine wq_ld1 rfl 3 (.tmp 27) rfl a 52 (.int .i64 (b : Int)) ag3 rfl hc52 hal ?_; simp only [Act.put, List.setIfInBounds_toArray, List.set_cons_zero, List.set_cons_succ])
            | (refine wq_ld1 rfl 109 (.tmp 2) rfl fb 0 (.slice fq fn fc) agSb rfl hcf hlf ?_; simp only [Act.put, List.setIfInBounds_toArray, List.set_cons_zero, List.set_cons_succ])
            | (refine wq_val (.int .i64 ((8 * fn : Nat) : Int)) rfl (fun w => exec_mul8 (.tmp 30) rfl fn h25 rfl) ?_; simp only [Act.put, List.setIfInBounds_toArray, List.set_cons_zero, List.set_cons_succ])
            | (refine wq_val (.bool false) rfl (fun w => exec_ltN (.tmp 28) (.tmp 31) rfl b (8 * fn) false (decide_eq_false hbd) rfl rfl) ?_; simp only [Act.put, List.setIfInBounds_toArray, List.set_cons_zero, List.set_cons_succ])
            | go_big_quiet_step (fail))
          refine wpQuiet_nil ?_
          rintro _ ⟨⟨dq, osq⟩, rfl⟩
          have HB9 : Hid (Below W6.heap.size W6 (Sort.grow (redrawn wr dq) osq)) := HB.out.trans ((below_regrown wr dq osq).mono HB.out.size)
          have KW := Lib.hid (HSub.out _ HB9.out HE.out)
          clear HB hc0 hc52 hc53 hc54 hal hcf hlf HXr
          generalize Sort.grow (redrawn wr dq) osq = W9 at *
          go_wp2_with (go_at_call 56; (refine KW.out.mono ?_); rintro e W10 ⟨b, rfl, hr⟩; have HRs := Lib.hid hr; clear hr)
          go_end0
          exact ⟨⟨_, rfl⟩, HRs.out⟩
end Go.Proofs.Ytagdedjclbmlkaa
