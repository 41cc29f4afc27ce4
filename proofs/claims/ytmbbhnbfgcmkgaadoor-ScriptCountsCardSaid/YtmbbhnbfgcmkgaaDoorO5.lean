/- Same. -/
import Derived.Test.YtmbbhnbfgcmkgaaDoorO4
namespace Go.Proofs.YtmbbhnbfgcmkgaaDoor
open Go.RowKit

theorem neqS (x y : List UInt8) (W : World) : (binOp .neq 9 (.string ⟨x.toArray⟩) (.string ⟨y.toArray⟩)).run Tryd.prog W = .ok (.bool (x != y)) W := by
  have e : ((⟨x.toArray⟩ : ByteArray).toList == (⟨y.toArray⟩ : ByteArray).toList) = (x == y) := by rw [ByteArray.toList_eq, ByteArray.toList_eq]
  go_simp
  simp [bne]
set_option maxRecDepth 100000 in
set_option maxHeartbeats 8000000 in
theorem sameP_any (q : Option Addr) (xs : List A4) (n cap : Nat) (p : Option Addr) (ys : List A4) (m cp : Nat) (w : World) (hn : xs.length = n) (hm : ys.length = m) (hbd : n ≤ 1000000) (hA : Acts w q xs) (hY : Acts w p ys) :
    Calls Tryd.prog 21 #[.slice q n cap, .slice p m cp] w fun e w' => e = .returned (.bool (decide (xs.map A4.d = ys.map A4.d))) ∧ Below w.heap.size w w' := by
  have HL := Lib.hid hn
  have HM := Lib.hid hm
  have HA := Lib.hid hA
  have HY := Lib.hid hY
  clear hn hm hA hY
  by_cases hnm : n = m
  · subst hnm
    go_enter Tryd.func21, Tryd.ntmps21
    go_wp2_with fail
    go_loopw [15] (fun i wr => ∃ k : Nat, k ≤ n ∧ i = .int .i64 k ∧ Hid ((xs.map A4.d).take k = (ys.map A4.d).take k) ∧ Hid (Below w.heap.size w wr)) (fun i _ => n - (intOf i).toNat)
    case atStart => exact ⟨0, Nat.zero_le _, rfl, by simp [Hid], Below.refl _ _⟩
    case round =>
      obtain ⟨k, hk, rfl, HE, HB⟩ := hrel
      by_cases hlt : k < n
      · have hli : (k : Int) < n := by omega
        have hkx : k < xs.length := by rw [HL.out]; exact hlt
        have hky : k < ys.length := by rw [HM.out]; exact hlt
        obtain ⟨b, f, rfl, hb, hr⟩ := (HA.out.row.below HB.out) k hkx
        have HR := Lib.hid (InRow.mk hb hr)
        obtain ⟨b2, f2, rfl, hb2, hr2⟩ := (HY.out.row.below HB.out) k hky
        have HR2 := Lib.hid (InRow.mk hb2 hr2)
        have HX := Lib.hid ((HA.out.ok _ (List.getElem_mem hkx)).below HB.out)
        have HX2 := Lib.hid ((HY.out.ok _ (List.getElem_mem hky)).below HB.out)
        have HT : Hid (xs[k].d = ys[k].d → (xs.map A4.d).take (k + 1) = (ys.map A4.d).take (k + 1)) := fun e => by
          rw [List.take_succ_eq_append_getElem (by simpa using hkx), List.take_succ_eq_append_getElem (by simpa using hky), HE.out]; simp [e]
        have HF : Hid (xs[k].d ≠ ys[k].d → decide (xs.map A4.d = ys.map A4.d) = false) := fun e => decide_eq_false fun h => e (by
          have := congrArg (fun l => l[k]?) h
          simpa [hkx, hky] using this)
        clear hb hr hb2 hr2 HA HY HE
        generalize xs[k] = x at *
        generalize ys[k] = y at *
        have HF1 : Hid (¬ x.kind = y.kind → decide (xs.map A4.d = ys.map A4.d) = false) := fun e => HF.out fun h => e (congrArg D4.kind h)
        have HF2 : Hid (¬ x.who = y.who → decide (xs.map A4.d = ys.map A4.d) = false) := fun e => HF.out fun h => e (congrArg D4.who h)
        have HF3 : Hid (¬ x.n = y.n → decide (xs.map A4.d = ys.map A4.d) = false) := fun e => HF.out fun h => e (congrArg D4.n h)
        have HF4 : Hid ((!x.b == y.b) = true → decide (xs.map A4.d = ys.map A4.d) = false) := fun e => HF.out fun h => by
          have : x.b = y.b := congrArg D4.b h
          rw [this] at e; simp at e
        have HE : Hid (x.kind = y.kind → x.who = y.who → x.n = y.n → (!x.b == y.b) = false → (xs.map A4.d).take (k + 1) = (ys.map A4.d).take (k + 1)) := fun h1 h2 h3 h4 => HT.out (by
          have h5 : x.b = y.b := by simpa using h4
          simp only [A4.d, h1, h2, h3, h5])
        clear HF
        go_upto_region 6 with fail
        refine wp_region_pair [(18, .slice (some ⟨b, f, none⟩) n cap), (19, .int .i64 (k : Int)), (20, .pointer (some ⟨b, f + k * 4, none⟩)), (21, .agg (a4C x).toArray), (22, .slice (some ⟨b2, f2, none⟩) n cp), (23, .int .i64 (k : Int)), (24, .pointer (some ⟨b2, f2 + k * 4, none⟩)), (25, .agg (a4C y).toArray)] 6 7 (a4C a40).toArray (a4C a40).toArray (a4C x).toArray (a4C y).toArray 36 36 (by kernel_rfl) (by kernel_rfl) rfl (by simp) (by simp) _ _ _ _ rfl rfl rfl rfl
          ⟨rfl, rfl, fun a w => by kernel_rfl⟩ ⟨rfl, rfl, fun a w => by kernel_rfl⟩
          ⟨rfl, rfl, fun a' w' g hd hp hg => exec_str _ (.tmp 6) (.tmp 21) rfl g (a4C x).toArray (a4C a40).toArray _ sizA4 rfl (by simp [a4C, Value.oneCell']) hp (hd 3 (by simp) (by kernel_rfl)) hg⟩
          ⟨rfl, rfl, fun a' w' g hd hp hg => exec_str _ (.tmp 7) (.tmp 25) rfl g (a4C y).toArray (a4C a40).toArray _ sizA4 rfl (by simp [a4C, Value.oneCell']) hp (hd 7 (by simp) (by kernel_rfl)) hg⟩
          (by kernel_rfl) (by kernel_rfl) (by kernel_rfl) (by kernel_rfl) ?_ ?_
        · intro i hi a' w' hfr hdep hbel K hK
          have hi8 : i < 8 := hi
          obtain rfl | rfl | rfl | rfl | rfl | rfl | rfl | rfl : i = 0 ∨ i = 1 ∨ i = 2 ∨ i = 3 ∨ i = 4 ∨ i = 5 ∨ i = 6 ∨ i = 7 := by omega
          · exact wpOp_mv rfl rfl (.tmp 0) rfl _ (hfr.off 0 (by simp)) (hK w' (Below.refl _ _))
          · exact wpOp_mv rfl rfl (.tmp 5) rfl _ (hfr.off 5 (by simp)) (hK w' (Below.refl _ _))
          · exact wpOp_ix rfl rfl _ _ (.tmp 18) (.tmp 19) rfl Tryd.underlying22 4 sizA4 b f n cap k (hdep 0 (by simp) (by kernel_rfl)) (hdep 1 (by simp) (by kernel_rfl)) hlt (hK w' (Below.refl _ _))
          · exact wpOp_ldr rfl rfl _ (.tmp 20) rfl b (f + k * 4) (a4C x) _ Tryd.underlying36 rfl sizA4 (hdep 2 (by simp) (by kernel_rfl)) (range_of_block HR.out.row (hbel.block _ HR.out.lt)) (hK w' (Below.refl _ _))
          · exact wpOp_mv rfl rfl (.tmp 1) rfl _ (hfr.off 1 (by simp)) (hK w' (Below.refl _ _))
          · exact wpOp_mv rfl rfl (.tmp 5) rfl _ (hfr.off 5 (by simp)) (hK w' (Below.refl _ _))
          · exact wpOp_ix rfl rfl _ _ (.tmp 22) (.tmp 23) rfl Tryd.underlying22 4 sizA4 b2 f2 n cp k (hdep 4 (by simp) (by kernel_rfl)) (hdep 5 (by simp) (by kernel_rfl)) hlt (hK w' (Below.refl _ _))
          · exact wpOp_ldr rfl rfl _ (.tmp 24) rfl b2 (f2 + k * 4) (a4C y) _ Tryd.underlying36 rfl sizA4 (hdep 6 (by simp) (by kernel_rfl)) (range_of_block HR2.out.row (hbel.block _ HR2.out.lt)) (hK w' (Below.refl _ _))
        · intro W g h hgh hg0 hh0 hbel hg hh
          have HB2 := bt HB hbel
          have hcv1 := conv_any W x.q x.cap x.b (HX.out.row.below hbel)
          have hcv2 := conv_any W y.q y.cap y.b (HX2.out.row.below hbel)
          have x0 : W.cell? ⟨g, 0, none⟩ = some (.int .i64 x.kind) := by rw [cell_blk hg]; rfl
          have x1 : W.cell? ⟨g, 1, none⟩ = some (.int .i64 x.who) := by rw [cell_blk hg]; rfl
          have x2 : W.cell? ⟨g, 2, none⟩ = some (.int .i64 x.n) := by rw [cell_blk hg]; rfl
          have x3 : W.cell? ⟨g, 3, none⟩ = some (.slice x.q x.b.length x.cap) := by rw [cell_blk hg]; rfl
          have y0 : W.cell? ⟨h, 0, none⟩ = some (.int .i64 y.kind) := by rw [cell_blk hh]; rfl
          have y1 : W.cell? ⟨h, 1, none⟩ = some (.int .i64 y.who) := by rw [cell_blk hh]; rfl
          have y2 : W.cell? ⟨h, 2, none⟩ = some (.int .i64 y.n) := by rw [cell_blk hh]; rfl
          have y3 : W.cell? ⟨h, 3, none⟩ = some (.slice y.q y.b.length y.cap) := by rw [cell_blk hh]; rfl
          have hsb : ∀ W, (binOp .neq 9 (.string ⟨x.b.toArray⟩) (.string ⟨y.b.toArray⟩)).run Tryd.prog W = .ok (.bool (x.b != y.b)) W := fun W => by
            exact neqS _ _ W
          clear hg hh hbel HX HX2 HR HR2 hg0 hh0 hgh
          simp only [puts, List.cons_append, List.nil_append, List.setIfInBounds_toArray, List.set_cons_zero, List.set_cons_succ]
          go_wp2_with fail
          case roundEnd =>
            go_roundw
            case rel => exact ⟨k + 1, by omega, by go_num, HE.out (by assumption) (by assumption) (by assumption) (by assumption), HB2⟩
            case measure => simp [intOf]; omega
          all_goals
            go_ret
            exact ⟨ret_bool (by first | exact (HF4.out (by assumption)).symm | exact (HF3.out (by assumption)).symm | exact (HF2.out (by assumption)).symm | exact (HF1.out (by assumption)).symm), HB2.out⟩
      · obtain rfl : n = k := by omega
        have hE : Hid (decide (xs.map A4.d = ys.map A4.d) = true) := by
          refine decide_eq_true ?_
          have := HE.out
          rwa [List.take_of_length_le (by rw [List.length_map]; exact Nat.le_of_eq HL.out), List.take_of_length_le (by rw [List.length_map]; exact Nat.le_of_eq HM.out)] at this
        go_wp2_with fail
        go_ret
        exact ⟨ret_bool hE.out.symm, HB.out⟩
  · have hE : Hid (decide (xs.map A4.d = ys.map A4.d) = false) := decide_eq_false fun e => hnm (by rw [← HL.out, ← HM.out]; simpa using congrArg List.length e)
    have h1 : (n != m) = true := by simpa using hnm
    have h2 : ((n : Int) != (m : Int)) = true := by simp only [bne_iff_ne, ne_eq]; omega
    clear hnm
    go_enter Tryd.func21, Tryd.ntmps21
    go_wp2_with fail
    go_ret
    exact ⟨ret_bool hE.out.symm, Below.refl _ _⟩
end Go.Proofs.YtmbbhnbfgcmkgaaDoor
