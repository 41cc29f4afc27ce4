/- same, where it holds. -/
import Derived.Test.YtpnmficlebnajaaF7
namespace Go.Proofs.Ytpnmficlebnajaa
open Go.RowKit

theorem neq9s (x : ByteArray) (W : World) : (binOp .neq 9 (.string x) (.string x)).run Try.prog W = .ok (.bool false) W := by
  go_simp

set_option maxRecDepth 100000 in
set_option maxHeartbeats 2000000 in
theorem same_any (q q' : Option Addr) (l : List Ent) (n cap cap' : Nat) (w : World) (hn : l.length = n) (hc : n ≤ cap) (hm : cap ≤ maxLen) (hc' : n ≤ cap') (hm' : cap' ≤ maxLen) (hq : SlAt entC 13 w q l) (hq' : SlAt rentC 2 w q' (l.map toR)) :
    Calls Try.prog 15 #[.slice q n cap, .slice q' n cap'] w fun e w' => e = .returned (.bool true) ∧ Below w.heap.size w w' := by
  unfold maxLen at hm hm'
  have HQ := Lib.hid hq
  have HR := Lib.hid hq'
  have HN := Lib.hid hn
  clear hq hq' hn
  go_enter Try.func15, Try.ntmps15
  go_wp2_with fail
  go_loopw [5] (fun i wr => ∃ k : Nat, k ≤ n ∧ i = .int .i64 k ∧ Hid (Below w.heap.size w wr)) (fun i _ => n - (intOf i).toNat)
  case atStart => exact ⟨0, Nat.zero_le _, rfl, Below.refl _ _⟩
  case round =>
    obtain ⟨k, hk, rfl, HW⟩ := hrel
    by_cases hlt : k < n
    · have hlt' : (k : Int) < n := by omega
      have hk0 : (0 : Int) ≤ (k : Int) := by omega
      have hk2 : k < l.length := by rw [HN.out]; exact hlt
      obtain ⟨b, ob, rfl, hb, hr⟩ := HQ.out k hk2
      obtain ⟨b', ob', rfl, hb', hr'⟩ := HR.out k (by rw [List.length_map]; exact hk2)
      rw [List.getElem_map] at hr'
      have hr1 : wr.rangeAt b (ob + k * 13) (entC l[k]) := range_of_block hr (HW.out.block b hb)
      obtain ⟨hcn0, hct0⟩ := rentC_cells (range_of_block hr' (HW.out.block b' hb'))
      have hcn : wr.cell? ⟨b', ob' + k * 2, none⟩ = some (.string ⟨(textQ l[k].n).toArray⟩) := hcn0
      have hct : wr.cell? ⟨b', ob' + k * 2 + 1, none⟩ = some (.string l[k].t) := hct0
      have HXN : Hid (wr.rangeAt b (ob + k * 13) (bC l[k].n).toList) := ent_name hr1
      have hxt : wr.cell? ⟨b, ob + k * 13 + 12, none⟩ = some (.string l[k].t) := ent_text hr1
      have H12 : Hid (l[k].n.length = 12) := l[k].hn
      have HT : Hid (∀ W : World, Calls Try.prog 23 #[.agg (bC l[k].n)] W fun e w' => e = .returned (.string ⟨(textQ l[k].n).toArray⟩) ∧ Below W.heap.size W w') := fun W => lawText_any _ W l[k].hn
      have hbw : b < wr.heap.size := Nat.lt_of_lt_of_le hb HW.out.size
      have hd1 := fun d os => cell_regrown hcn d os
      have hd2 := fun d os => cell_regrown hct d os
      have hd3 := fun d os => cell_regrown hxt d os
      clear hr hr' hr1 hcn0 hct0
      generalize l[k].n = xn at *
      generalize l[k].t = xt at *
      generalize (⟨(textQ xn).toArray⟩ : ByteArray) = tq at *
      have n1 := neq9s tq
      have n2 := neq9s xt
      go_upto_region 6 with fail
      refine wp_region_quiet_below (by kernel_rfl) (by kernel_rfl) ?_
      repeat (first
        | (with_reducible refine wq_N rfl _ rfl b (ob + k * 13) xn H12.out rfl HXN.out hbw ?_; simp only [Act.put, List.setIfInBounds_toArray, List.set_cons_zero, List.set_cons_succ])
        | go_big_quiet_step (with_reducible exact rg_call HT.out _ _))
      refine wpQuiet_nil ?_
      rintro _ ⟨⟨dq, osq⟩, rfl⟩
      have hb2 : Below w.heap.size w (Sort.grow (redrawn wr dq) osq) := HW.out.trans ((below_regrown wr dq osq).mono HW.out.size)
      go_wp2_with fail
      go_roundw
      case rel => exact ⟨k + 1, by omega, by go_num, hb2⟩
      case measure => simp [intOf]; omega
    · obtain rfl : k = n := by omega
      go_wp2_with fail
      go_ret
      exact ⟨rfl, HW.out⟩
end Go.Proofs.Ytpnmficlebnajaa
