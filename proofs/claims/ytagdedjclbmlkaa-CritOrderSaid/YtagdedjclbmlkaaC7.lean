/- near, find, Get, Len, New. -/
import Derived.Test.YtagdedjclbmlkaaC6
import Derived.Deep.LoopGhost
namespace Go.Proofs.Ytagdedjclbmlkaa
open Go.RowKit

namespace T
def sz : T → Nat
  | leaf _ _ _ => 0
  | fork _ _ l r => l.sz + r.sz + 1
end T
/-- Where a key's bits lead: the leaf, its place. -/
theorem exists_zip (k : List UInt8) : ∀ t : T, ∃ z, t = plug z (.leaf (T.near k t).1 (T.near k t).2.1 (T.near k t).2.2) ∧ Along k z := by
  have main : ∀ (t : T) (z : Zip), Along k z → ∃ z', plug z t = plug z' (.leaf (T.near k t).1 (T.near k t).2.1 (T.near k t).2.2) ∧ Along k z' := by
    intro t
    induction t with
    | leaf a x v => intro z hz; exact ⟨z, rfl, hz⟩
    | fork a b l r ihl ihr =>
      intro z hz
      have hn : T.near k (.fork a b l r) = if bitOf k b = true then T.near k r else T.near k l := rfl
      cases hb : bitOf k b with
      | true =>
        rw [hn, hb]
        exact ihr ((a, b, true, l) :: z) (fun x hx => by
          rcases List.mem_cons.1 hx with rfl | hx
          · exact hb.symm
          · exact hz x hx)
      | false =>
        rw [hn, hb]
        exact ihl ((a, b, false, r) :: z) (fun x hx => by
          rcases List.mem_cons.1 hx with rfl | hx
          · exact hb.symm
          · exact hz x hx)
  intro t
  exact main t [] (fun x hx => by cases hx)
def nearV (k : List UInt8) : Option T → Value
  | none => .pointer none
  | some t => ptrA (T.near k t).1
def findV (k : List UInt8) : Option T → Value
  | none => .pointer none
  | some t => if (T.near k t).2.1 = k then ptrA (T.near k t).1 else .pointer none
theorem near_leaf {w : World} {k : List UInt8} {t : T} (h : InT w t) : w.heap[(T.near k t).1]? = some (.cells (leafC (T.near k t).2.1 (T.near k t).2.2).toArray NODE (0, 0)) := by
  obtain ⟨z, hz, _⟩ := exists_zip k t
  rw [hz] at h
  have : ∀ (z : Zip) (t : T), InT w (plug z t) → InT w t := by
    intro z
    induction z with
    | nil => intro t h; exact h
    | cons x z ih =>
      intro t h
      obtain ⟨a, b, s, o⟩ := x
      cases s with
      | true => exact (ih (.fork a b o t) h).2.2
      | false => exact (ih (.fork a b t o) h).2.1
  exact this z _ h
theorem neqKey (w : World) (xs ys : List UInt8) (hx : xs.length = 25) (hy : ys.length = 25) : (binOp .neq 30 (.agg (bC xs)) (.agg (bC ys))).run Try.prog w = .ok (.bool (!(xs == ys))) w := by
  rw [run_neq_struct, show (10000 : Nat) = 9996 + 4 from rfl, eqInKey w 9996 xs ys hx hy]; rfl
theorem exec_neqKey {a : Act} {o : Oper} (w : World) (x y : Operand) (ho : o.op = .binOp .neq 30 x y 30) (xs ys : List UInt8) (hxs : xs.length = 25) (hys : ys.length = 25) (hx : a.eval x = .agg (bC xs)) (hy : a.eval y = .agg (bC ys)) : (execOp a.eval o).run Try.prog w = .ok (.value (.bool (!(xs == ys)))) w := by
  have hgd : (eqGuard .neq 30 x y (.agg (bC xs)) (.agg (bC ys))).run Try.prog w = .ok () w := run_eqGuard_agg w .neq 30 x y _ _ (by kernel_rfl)
  unfold execOp
  simp only [ho, hx, hy, Sem.run_bind, hgd, neqKey w xs ys hxs hys, Result.andThen_ok, Sem.run_pure]
theorem agN (w : World) : (isAgg 80).run Try.prog w = .ok false w := by simp [isAgg, run_underlying Try.underlying80]
theorem ag3 (w : World) : (isAgg 3).run Try.prog w = .ok false w := by simp [isAgg, run_underlying Try.underlying3]
theorem agSb (w : World) : (isAgg 109).run Try.prog w = .ok false w := by simp [isAgg, run_underlying Try.underlying109]
theorem ag4 (w : World) : (isAgg 4).run Try.prog w = .ok false w := by simp [isAgg, run_underlying Try.underlying4]
theorem new_any (w : World) : Calls Try.prog 8 #[] w fun e w' => e = .returned (ptrA w.heap.size) ∧ w' = w.alloc (.cells #[.pointer none, .int .i64 0] TREE) := by
  go_enter Try.func8, Try.ntmps8
  go_wp2_with fail
  go_ret
  exact ⟨rfl, rfl⟩
theorem new_tree {w : World} {B : Nat} (hB : B ≤ w.heap.size) : TreeAt (w.alloc (.cells #[.pointer none, .int .i64 0] TREE)) B w.heap.size none where
  tree := heap_alloc_new _ _
  ins := trivial
  nod := by simp [addrsO]
  wf := trivial
  base := fun a ha => by simp [addrsO] at ha; subst ha; exact hB
theorem len_any (w : World) (B tb : Nat) (o : Option T) (hT : TreeAt w B tb o) : Calls Try.prog 29 #[ptrA tb] w fun e w' => e = .returned (.int .i64 ((allO o).length : Int)) ∧ w' = w := by
  have hc : w.cell? ⟨tb, 1, none⟩ = some (.int .i64 ((allO o).length : Int)) := by rw [cell_blk hT.tree]; rfl
  unfold ptrA
  generalize ((allO o).length : Int) = n at *
  go_enter Try.func29, Try.ntmps29
  go_wp2_with fail
  go_ret
  exact ⟨rfl, rfl⟩
theorem lenNil_any (w : World) : Calls Try.prog 29 #[.pointer none] w fun e w' => e = .returned (.int .i64 0) ∧ w' = w := by
  go_enter Try.func29, Try.ntmps29
  go_wp2_with fail
  go_ret
  exact ⟨rfl, rfl⟩
set_option maxRecDepth 100000 in
set_option maxHeartbeats 4000000 in
theorem near_any (k : List UInt8) (w : World) (B tb : Nat) (n : Int) (o : Option T) (hk : k.length = 25) (hT : TreeN w B tb n o) :
    Calls Try.prog 38 #[ptrA tb, .agg (bC k)] w fun e w' => e = .returned (nearV k o) ∧ Below w.heap.size w w' := by
  have HN := heap_alloc_new w (.cells (bC k) 85)
  have HB0 := Lib.hid (below_alloc1 w (.cells (bC k) 85))
  have HT := Lib.hid (hT.below (below_alloc1 w (.cells (bC k) 85)))
  have KS := Lib.hid (fun i W (hi : i < 200) => side_any k i W hk hi)
  have HK := Lib.hid hk
  clear hT hk
  obtain ⟨N, hN⟩ : ∃ N, N = nearV k o := ⟨_, rfl⟩
  rw [← hN]
  have HNv := Lib.hid hN
  clear hN
  unfold ptrA
  go_enter Try.func38, Try.ntmps38
  go_upto_region 1 with fail
  generalize w.alloc (.cells (bC k) 85) = W0 at *
  have HN0 := Lib.hid HN
  clear HN
  obtain ⟨R, hR⟩ : ∃ R, R = rootV o := ⟨_, rfl⟩
  have hc : W0.cell? ⟨tb, 0, none⟩ = some R := by rw [cell_blk HT.out.tree, hR]; rfl
  have HR := Lib.hid hR
  clear hR
  go_wp2_with fail
  go_loopg [5] ((o.map T.sz).getD 0 + 1) (fun g v wr => ∃ s : Option T, v = rootV s ∧ (s.map T.sz).getD 0 + 1 ≤ g ∧ Hid (nearV k s = N) ∧ Hid (InO W0 s) ∧ Hid (WFO s) ∧ Hid (Below W0.heap.size W0 wr))
  case atStart => exact ⟨o, HR.out, Nat.le_refl _, HNv.out.symm, HT.out.ins, HT.out.wf, Below.refl _ _⟩
  case round =>
    clear hc
    obtain ⟨s, rfl, hg, HV, HI, HW, HB⟩ := hrel
    cases s with
    | none =>
      unfold rootV
      go_wp2_with fail
      go_ret
      exact ⟨by rw [← HV.out]; rfl, HB0.out.trans (HB.out.mono HB0.out.size)⟩
    | some t =>
      cases t with
      | leaf a x v =>
        have h0 : W0.heap[a]? = some (.cells (leafC x v).toArray NODE (0, 0)) := HI.out
        have hc0 : wr.cell? ⟨a, 0, none⟩ = some (.bool true) := by rw [cell_blk ((HB.out.block _ (lt_heap h0)).trans h0)]; rfl
        clear h0
        unfold rootV ptrA T.addr
        go_wp2_with fail
        go_ret
        exact ⟨by rw [← HV.out]; rfl, HB0.out.trans (HB.out.mono HB0.out.size)⟩
      | fork a b l r =>
        have h0 : W0.heap[a]? = some (.cells (forkC b l.addr r.addr).toArray NODE (0, 0)) := HI.out.1
        have h1 := (HB.out.block _ (lt_heap h0)).trans h0
        have hc0 : wr.cell? ⟨a, 0, none⟩ = some (.bool false) := by rw [cell_blk h1]; rfl
        have hc52 : wr.cell? ⟨a, 52, none⟩ = some (.int .i64 b) := by rw [cell_blk h1]; rfl
        have hc53 : wr.cell? ⟨a, 53, none⟩ = some (.pointer (some ⟨l.addr, 0, none⟩)) := by rw [cell_blk h1]; rfl
        have hc54 : wr.cell? ⟨a, 54, none⟩ = some (.pointer (some ⟨r.addr, 0, none⟩)) := by rw [cell_blk h1]; rfl
        have hal := lt_heap h1
        have hb200 : b < 200 := HW.out.1
        have HKb : Hid (wr.heap[w.heap.size]? = some (.cells (bC k) 85 (0, 0))) := (HB.out.block _ (lt_heap HN0.out)).trans HN0.out
        have KS1 := Lib.hid (fun W => KS.out b W hb200)
        have HNr : ∀ c, bitOf k b = c → Hid (nearV k (some (if c then r else l)) = N) := fun c hc => by
          show _ = _
          rw [← HV.out]
          show ptrA (T.near k _).1 = ptrA (T.near k (.fork a b l r)).1
          have : T.near k (.fork a b l r) = if bitOf k b = true then T.near k r else T.near k l := rfl
          rw [this, hc]
          cases c <;> rfl
        clear h0 h1
        have hsz : l.sz + r.sz + 1 + 1 ≤ gk := hg
        cases hcb : bitOf k b
        all_goals
          have HNr2 := HNr _ hcb
          rw [hcb] at KS1
          clear HNr
          have KS2 : Hid (∀ W, Calls Try.prog 36 #[.agg (bC k), .int .i64 (b : Int)] W fun e w' => e = .returned (.int .i64 (sideI _ : Nat)) ∧ Below W.heap.size W w') := KS1.out
          unfold sideI at KS2
          clear KS1
          unfold rootV ptrA
          simp only [T.addr]
          go_upto_region 3 with fail
          try simp only [Act.put]
          refine wp_region_quiet_below (by kernel_rfl) (by kernel_rfl) ?_
          repeat (first
            | (with_reducible refine wq_ldr rfl 85 (.tmp 3) rfl w.heap.size 0 (bC k).toList _ Try.underlying85 rfl (by rw [siz25]; simp [bC, HK.out]) rfl (range_whole (by simpa using HKb.out)) (lt_heap HKb.out) ?_; simp only [Act.put, List.setIfInBounds_toArray, List.set_cons_zero, List.set_cons_succ])
            | (refine wq_ld1 rfl 3 (.tmp 23) rfl a 52 (.int .i64 (b : Int)) ag3 rfl hc52 hal ?_; simp only [Act.put, List.setIfInBounds_toArray, List.set_cons_zero, List.set_cons_succ])
            | (refine wq_ld1 rfl 80 (.tmp 28) rfl a 53 (.pointer (some ⟨l.addr, 0, none⟩)) agN rfl hc53 hal ?_; simp only [Act.put, List.setIfInBounds_toArray, List.set_cons_zero, List.set_cons_succ])
            | (refine wq_ld1 rfl 80 (.tmp 28) rfl a 54 (.pointer (some ⟨r.addr, 0, none⟩)) agN rfl hc54 hal ?_; simp only [Act.put, List.setIfInBounds_toArray, List.set_cons_zero, List.set_cons_succ])
            | go_big_quiet_step (first | (exact rg_call KS2.out _ _)))
          refine wpQuiet_nil ?_
          rintro _ ⟨⟨dq, osq⟩, rfl⟩
          have HB4 : Hid (Below W0.heap.size W0 (Sort.grow (redrawn wr dq) osq)) := HB.out.trans ((below_regrown wr dq osq).mono HB.out.size)
          clear HB hc0 hc52 hc53 hc54 hal HKb
          generalize Sort.grow (redrawn wr dq) osq = W4 at *
          go_wp2_with fail
        · go_roundg (l.sz + 1)
          case measure => omega
          case rel => exact ⟨some l, rfl, Nat.le_refl _, HNr2, HI.out.2.1, HW.out.2.1, HB4⟩
        · go_roundg (r.sz + 1)
          case measure => omega
          case rel => exact ⟨some r, rfl, Nat.le_refl _, HNr2, HI.out.2.2, HW.out.2.2.1, HB4⟩
end Go.Proofs.Ytagdedjclbmlkaa
