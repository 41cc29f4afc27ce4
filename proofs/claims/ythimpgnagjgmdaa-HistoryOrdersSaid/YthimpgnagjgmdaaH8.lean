/- The comparison that Order sorts by. -/
import Derived.Test.YthimpgnagjgmdaaH7
namespace Go.Proofs.Ythimpgnagjgmdaa
open Go.RowKit

def cmpC (x y : Ca) : Int := orI [cmpI x.at_ y.at_, cmpI (firstI x) (firstI y), cmpI x.po y.po]
theorem ag22 (w : World) : (isAgg 22).run Try.prog w = .ok false w := by simp [isAgg, run_underlying Try.underlying22]
theorem info3 : (Try.prog.info? 3).map (fun i => (i.zero, i.size, i.bytes)) = some (some (.int .i64 0), 1, 8) := by kernel_rfl
theorem built3 (a b c : Int) : Instr.fill (fun i => some (i * 1, 1)) ((Array.range (3 * 1)).map (#[Value.int .i64 0][· % 1]!)) [(0, .int .i64 a), (1, .int .i64 b), (2, .int .i64 c)] = some #[.int .i64 a, .int .i64 b, .int .i64 c] := by kernel_rfl
theorem op_bs3 {o : Oper} {a : Act} {w : World} {K : Act → World → Prop} {Q : Exit → Act → World → Prop} (x y z : Operand) (ho : o.op = .buildSlice 26 3 #[(0, x), (1, y), (2, z)]) (p q r : Int) (hx : a.eval x = .int .i64 p) (hy : a.eval y = .int .i64 q) (hz : a.eval z = .int .i64 r)
    (h : K (a.put o.dst (.slice (some ⟨w.heap.size, 0, none⟩) 3 3)) (w.alloc (.cells #[.int .i64 p, .int .i64 q, .int .i64 r] 3))) : o.wp Try.prog a w K Q := by
  obtain ⟨ie, hie, hz', hsz, hby⟩ := info_parts info3
  have hb := run_buildSlice (P := Try.prog) w 26 3 3 #[(0, .int .i64 p), (1, .int .i64 q), (2, .int .i64 r)] #[.int .i64 p, .int .i64 q, .int .i64 r] ie (.int .i64 0) Try.underlying26 hie hz' (by rw [hsz]; omega) (by rw [hsz]; omega) (by rw [hsz]; exact built3 p q r)
  unfold Oper.wp execOp
  have hp : (#[(0, x), (1, y), (2, z)].map fun (p : Nat × Operand) => (p.1, a.eval p.2)) = #[(0, Value.int .i64 p), (1, .int .i64 q), (2, .int .i64 r)] := by simp [hx, hy, hz]
  simp only [ho, Sem.run_bind, hp, hb, Result.andThen_ok]
  exact h
/-- Where the second region stands. -/
def CC (W : World) (vs : List Int) (r : Nat) (gv : Value) (v : World) : Prop :=
  Below W.heap.size W v ∧ (r = 6 → ∃ b, gv = .slice (some ⟨b, 0, none⟩) 3 3 ∧ SlAt eI 1 v (some ⟨b, 0, none⟩) vs)
set_option maxRecDepth 100000 in
set_option maxHeartbeats 16000000 in
theorem clo_any (bx : Nat) (q : Option Addr) (n c : Nat) (xs : List Ca) (i j : Nat) (hi : i < n) (hj : j < n) (w : World) (hn : xs.length = n) (hq : SlAt caC 51 w q xs) (hb : w.heap[bx]? = some (.cells #[.slice q n c] 22 (0, 0))) :
    Calls Try.prog 22 #[.int .i64 (i : Int), .int .i64 (j : Int), .pointer (some ⟨bx, 0, none⟩)] w fun e w' => e = .returned (.int .i64 (cmpC (xs[i]'(by omega)) (xs[j]'(by omega)))) ∧ Below w.heap.size w w' := by
  obtain ⟨x, hx⟩ : ∃ x, x = xs[i]'(by omega) := ⟨_, rfl⟩
  obtain ⟨y, hy⟩ : ∃ y, y = xs[j]'(by omega) := ⟨_, rfl⟩
  rw [← hx, ← hy]
  obtain ⟨lb, lo, rfl, hlb, hr1⟩ := hq i (by omega)
  obtain ⟨lb2, lo2, hlq, _, hr2⟩ := hq j (by omega)
  simp only [Option.some.injEq, Addr.mk.injEq] at hlq
  obtain ⟨rfl, rfl, _⟩ := hlq
  rw [← hx] at hr1
  rw [← hy] at hr2
  have HR1 := Lib.hid hr1
  have HR2 := Lib.hid hr2
  have HBx := Lib.hid hb
  have hbl := lt_heap hb
  clear hr1 hr2 hb hx hy hq
  go_enter Try.func22, Try.ntmps22
  go_upto_region 1 with fail
  refine wp_region_pair [(8, .slice (some ⟨lb, lo, none⟩) n c), (9, .int .i64 (i : Int)), (10, .pointer (some ⟨lb, lo + i * 51, none⟩)), (11, .agg (caC x).toArray), (12, .slice (some ⟨lb, lo, none⟩) n c), (13, .int .i64 (j : Int)), (14, .pointer (some ⟨lb, lo + j * 51, none⟩)), (15, .agg (caC y).toArray)] 6 7 cz cz (caC x).toArray (caC y).toArray 42 42 (by kernel_rfl) (by kernel_rfl) rfl (by simp) (by simp) _ _ _ _ rfl rfl rfl rfl
    ⟨rfl, rfl, fun a w => by kernel_rfl⟩ ⟨rfl, rfl, fun a w => by kernel_rfl⟩
    ⟨rfl, rfl, fun a' w' g hd hp hg => exec_str _ (.tmp 6) (.tmp 11) rfl g (caC x).toArray cz _ (by rw [sizCa, List.size_toArray, caC_len]) (by rw [List.size_toArray, caC_len]; rfl) (by rw [← Array.all_toList]; exact caC_one _) hp (hd 3 (by simp) (by kernel_rfl)) hg⟩
    ⟨rfl, rfl, fun a' w' g hd hp hg => exec_str _ (.tmp 7) (.tmp 15) rfl g (caC y).toArray cz _ (by rw [sizCa, List.size_toArray, caC_len]) (by rw [List.size_toArray, caC_len]; rfl) (by rw [← Array.all_toList]; exact caC_one _) hp (hd 7 (by simp) (by kernel_rfl)) hg⟩
    (by kernel_rfl) (by kernel_rfl) (by kernel_rfl) (by kernel_rfl) ?_ ?_
  · intro k hk a v hfr hdep hbel K hK
    have hk8 : k < 8 := hk
    obtain rfl | rfl | rfl | rfl | rfl | rfl | rfl | rfl : k = 0 ∨ k = 1 ∨ k = 2 ∨ k = 3 ∨ k = 4 ∨ k = 5 ∨ k = 6 ∨ k = 7 := by omega
    · exact wpOp_val rfl rfl (exec_ld1 22 ag22 (.tmp 2) rfl bx 0 _ (hfr.off 2 (by simp)) (by rw [cell_of (hbel.block _ hbl), cell_blk HBx.out]; rfl)) (by simpa using hK v (Below.refl _ _))
    · exact wpOp_mv rfl rfl (.tmp 0) rfl _ (hfr.off 0 (by simp)) (by simpa using hK v (Below.refl _ _))
    · exact wpOp_ix rfl rfl 22 42 (.tmp 8) (.tmp 9) rfl Try.underlying22 51 sizCa lb lo n c i (hdep 0 (by simp) (by kernel_rfl)) (hdep 1 (by simp) (by kernel_rfl)) hi (by simpa using hK v (Below.refl _ _))
    · exact wpOp_ldr rfl rfl 42 (.tmp 10) rfl lb (lo + i * 51) (caC x) _ Try.underlying42 rfl (by rw [sizCa, caC_len]) (hdep 2 (by simp) (by kernel_rfl)) (range_of_block HR1.out (hbel.block _ hlb)) (by simpa using hK v (Below.refl _ _))
    · exact wpOp_val rfl rfl (exec_ld1 22 ag22 (.tmp 2) rfl bx 0 _ (hfr.off 2 (by simp)) (by rw [cell_of (hbel.block _ hbl), cell_blk HBx.out]; rfl)) (by simpa using hK v (Below.refl _ _))
    · exact wpOp_mv rfl rfl (.tmp 1) rfl _ (hfr.off 1 (by simp)) (by simpa using hK v (Below.refl _ _))
    · exact wpOp_ix rfl rfl 22 42 (.tmp 12) (.tmp 13) rfl Try.underlying22 51 sizCa lb lo n c j (hdep 4 (by simp) (by kernel_rfl)) (hdep 5 (by simp) (by kernel_rfl)) hj (by simpa using hK v (Below.refl _ _))
    · exact wpOp_ldr rfl rfl 42 (.tmp 14) rfl lb (lo + j * 51) (caC y) _ Try.underlying42 rfl (by rw [sizCa, caC_len]) (hdep 6 (by simp) (by kernel_rfl)) (range_of_block HR2.out (hbel.block _ hlb)) (by simpa using hK v (Below.refl _ _))
  · intro W g h hgh hg0 hh0 hbel hg hh
    have HB := Lib.hid hbel
    have HG := Lib.hid hg
    have HH := Lib.hid hh
    have hgl := lt_heap hg
    have hhl := lt_heap hh
    clear hg hh hbel HR1 HR2 HBx hbl hlb hgh hg0 hh0
    simp only [puts, List.cons_append, List.nil_append, List.setIfInBounds_toArray, List.set_cons_zero, List.set_cons_succ]
    go_upto_region 2 with fail
    refine wp_region_chainV (CC W [cmpI x.at_ y.at_, cmpI (firstI x) (firstI y), cmpI x.po y.po]) (fun gv => [some (16, .pointer (some ⟨g, 35, none⟩)), some (17, .int .u64 x.at_), some (18, .pointer (some ⟨h, 35, none⟩)), some (19, .int .u64 y.at_), some (20, .int .i64 (cmpI x.at_ y.at_)), some (21, .agg (caC x).toArray), some (22, .int .i64 (firstI x)), some (23, .agg (caC y).toArray), some (24, .int .i64 (firstI y)), some (25, .int .i64 (cmpI (firstI x) (firstI y))), some (26, .pointer (some ⟨g, 3, none⟩)), some (27, .int .i64 x.po), some (28, .pointer (some ⟨h, 3, none⟩)), some (29, .int .i64 y.po), some (30, .int .i64 (cmpI x.po y.po)), some (31, gv), some (32, .int .i64 (cmpC x y)), some (5, .int .i64 (cmpC x y))]) [4, 6, 8, 9, 14, 15, 16] 15 undef
      (by kernel_rfl) (by kernel_rfl) (fun _ => rfl) (fun v v' i hi => by
        by_cases h : i < 18
        · have h2 : i = 0 ∨ i = 1 ∨ i = 2 ∨ i = 3 ∨ i = 4 ∨ i = 5 ∨ i = 6 ∨ i = 7 ∨ i = 8 ∨ i = 9 ∨ i = 10 ∨ i = 11 ∨ i = 12 ∨ i = 13 ∨ i = 14 ∨ i = 15 ∨ i = 16 ∨ i = 17 := by omega
          rcases h2 with rfl | rfl | rfl | rfl | rfl | rfl | rfl | rfl | rfl | rfl | rfl | rfl | rfl | rfl | rfl | rfl | rfl | rfl <;> first | rfl | exact absurd rfl hi
        · rw [List.getElem?_eq_none (by simp; omega), List.getElem?_eq_none (by simp; omega)])
      (fun _ _ => rfl) (by simp) (by simp) (by decide) (by decide) (fun r hr => by have h2 : r + 1 < 7 := hr; obtain rfl | rfl | rfl | rfl | rfl | rfl : r = 0 ∨ r = 1 ∨ r = 2 ∨ r = 3 ∨ r = 4 ∨ r = 5 := (by omega) <;> (show _ = true; kernel_rfl))
      ⟨(Below.refl _ _).drew, fun h => by cases h⟩ ?_ ?_ ?_
    · intro i hi hE gv a v r hfr hdep hC hkk K hK
      have hi18 : i < 18 := hi
      have hvg := hC.1.block g hgl
      have hvh := hC.1.block h hhl
      obtain rfl | rfl | rfl | rfl | rfl | rfl | rfl | rfl | rfl | rfl | rfl | rfl | rfl | rfl | rfl | rfl | rfl | rfl : i = 0 ∨ i = 1 ∨ i = 2 ∨ i = 3 ∨ i = 4 ∨ i = 5 ∨ i = 6 ∨ i = 7 ∨ i = 8 ∨ i = 9 ∨ i = 10 ∨ i = 11 ∨ i = 12 ∨ i = 13 ∨ i = 14 ∨ i = 15 ∨ i = 16 ∨ i = 17 := by omega
      · exact wpOp_val rfl rfl (exec_fC (.tmp 6) 6 35 (by simp) rfl g 0 (hfr.off 6 (by simp))) hK
      · exact wpOp_val rfl rfl (exec_ld1 37 ag37 (.tmp 16) rfl g 35 _ (hdep 0 (by kernel_rfl) 16 _ rfl) (by rw [cell_of hvg, cell_blk HG.out, List.getElem?_toArray]; exact ca_at x)) hK
      · exact wpOp_val rfl rfl (exec_fC (.tmp 7) 6 35 (by simp) rfl h 0 (hfr.off 7 (by simp))) hK
      · exact wpOp_val rfl rfl (exec_ld1 37 ag37 (.tmp 18) rfl h 35 _ (hdep 2 (by kernel_rfl) 18 _ rfl) (by rw [cell_of hvh, cell_blk HH.out, List.getElem?_toArray]; exact ca_at y)) hK
      · exact absurd (by simp) hE
      · exact wpOp_ldr rfl rfl 42 (.tmp 6) rfl g 0 (caC x) _ Try.underlying42 rfl (by rw [sizCa, caC_len]) (hfr.off 6 (by simp)) (range_of_block (range_whole HG.out) hvg) hK
      · exact absurd (by simp) hE
      · exact wpOp_ldr rfl rfl 42 (.tmp 7) rfl h 0 (caC y) _ Try.underlying42 rfl (by rw [sizCa, caC_len]) (hfr.off 7 (by simp)) (range_of_block (range_whole HH.out) hvh) hK
      · exact absurd (by simp) hE
      · exact absurd (by simp) hE
      · exact wpOp_val rfl rfl (exec_fC (.tmp 6) 3 3 (by simp) rfl g 0 (hfr.off 6 (by simp))) hK
      · exact wpOp_val rfl rfl (exec_ld1 3 ag3 (.tmp 26) rfl g 3 _ (hdep 10 (by kernel_rfl) 26 _ rfl) (by rw [cell_of hvg, cell_blk HG.out, List.getElem?_toArray]; exact ca_cell x 3 _ rfl)) hK
      · exact wpOp_val rfl rfl (exec_fC (.tmp 7) 3 3 (by simp) rfl h 0 (hfr.off 7 (by simp))) hK
      · exact wpOp_val rfl rfl (exec_ld1 3 ag3 (.tmp 28) rfl h 3 _ (hdep 12 (by kernel_rfl) 28 _ rfl) (by rw [cell_of hvh, cell_blk HH.out, List.getElem?_toArray]; exact ca_cell y 3 _ rfl)) hK
      · exact absurd (by simp) hE
      · exact absurd (by simp) hE
      · exact absurd (by simp) hE
      · exact wpOp_as rfl rfl (.tmp 32) rfl _ (hdep 16 (by kernel_rfl) 32 _ rfl) hK
    · intro r hr gv a v hfr hdep hC K hK
      have hr7 : r < 7 := hr
      obtain rfl | rfl | rfl | rfl | rfl | rfl | rfl : r = 0 ∨ r = 1 ∨ r = 2 ∨ r = 3 ∨ r = 4 ∨ r = 5 ∨ r = 6 := by omega
      · refine wpOp_call rfl rfl (exec_calls rfl (enters_of Try.func24 (by kernel_rfl) rfl) (vs := #[.int .u64 x.at_, .int .u64 y.at_]) (by simp [show a.eval (.tmp 17) = _ from (hdep 1 (by kernel_rfl) 17 _ rfl), show a.eval (.tmp 19) = _ from (hdep 3 (by kernel_rfl) 19 _ rfl)]) v) (cmpU_any x.at_ y.at_ v) ?_
        rintro e w' ⟨rfl, rfl⟩
        exact ⟨_, rfl, hK gv w' (fun _ => rfl) ⟨hC.1, fun h => by cases h⟩⟩
      · refine wpOp_call rfl rfl (exec_calls rfl (enters_of Try.func26 (by kernel_rfl) rfl) (vs := #[.agg (caC x).toArray]) (by simp [show a.eval (.tmp 21) = _ from (hdep 5 (by kernel_rfl) 21 _ rfl)]) v) (first_any x v) ?_
        rintro e w' ⟨rfl, hb⟩
        exact ⟨_, rfl, hK gv w' (fun _ => rfl) ⟨hC.1.trans (hb.mono hC.1.size), fun h => by cases h⟩⟩
      · refine wpOp_call rfl rfl (exec_calls rfl (enters_of Try.func26 (by kernel_rfl) rfl) (vs := #[.agg (caC y).toArray]) (by simp [show a.eval (.tmp 23) = _ from (hdep 7 (by kernel_rfl) 23 _ rfl)]) v) (first_any y v) ?_
        rintro e w' ⟨rfl, hb⟩
        exact ⟨_, rfl, hK gv w' (fun _ => rfl) ⟨hC.1.trans (hb.mono hC.1.size), fun h => by cases h⟩⟩
      · refine wpOp_call rfl rfl (exec_calls rfl (enters_of Try.func25 (by kernel_rfl) rfl) (vs := #[.int .i64 (firstI x), .int .i64 (firstI y)]) (by simp [show a.eval (.tmp 22) = _ from (hdep 6 (by kernel_rfl) 22 _ rfl), show a.eval (.tmp 24) = _ from (hdep 8 (by kernel_rfl) 24 _ rfl)]) v) (cmpI_any (firstI x) (firstI y) v) ?_
        rintro e w' ⟨rfl, rfl⟩
        exact ⟨_, rfl, hK gv w' (fun _ => rfl) ⟨hC.1, fun h => by cases h⟩⟩
      · refine wpOp_call rfl rfl (exec_calls rfl (enters_of Try.func25 (by kernel_rfl) rfl) (vs := #[.int .i64 x.po, .int .i64 y.po]) (by simp [show a.eval (.tmp 27) = _ from (hdep 11 (by kernel_rfl) 27 _ rfl), show a.eval (.tmp 29) = _ from (hdep 13 (by kernel_rfl) 29 _ rfl)]) v) (cmpI_any x.po y.po v) ?_
        rintro e w' ⟨rfl, rfl⟩
        exact ⟨_, rfl, hK gv w' (fun _ => rfl) ⟨hC.1, fun h => by cases h⟩⟩
      · refine wpOp_wp rfl rfl (op_bs3 (.tmp 20) (.tmp 25) (.tmp 30) rfl _ _ _ (hdep 4 (by kernel_rfl) 20 _ rfl) (hdep 9 (by kernel_rfl) 25 _ rfl) (hdep 14 (by kernel_rfl) 30 _ rfl) (hK (.slice (some ⟨v.heap.size, 0, none⟩) 3 3) _ (fun h => absurd rfl h) ⟨hC.1.alloc hC.1.size _, fun _ => ⟨v.heap.size, rfl, fun i hi => ?_⟩⟩))
        have hi3 : i < 3 := hi
        have hrg := range_whole (vs := [.int .i64 (cmpI x.at_ y.at_), .int .i64 (cmpI (firstI x) (firstI y)), .int .i64 (cmpI x.po y.po)]) (heap_alloc_new v (.cells #[.int .i64 (cmpI x.at_ y.at_), .int .i64 (cmpI (firstI x) (firstI y)), .int .i64 (cmpI x.po y.po)] 3))
        refine ⟨v.heap.size, 0, rfl, by simp, fun k u hu => ?_⟩
        have hk0 : k < 1 := (List.getElem?_eq_some_iff.1 hu).1
        obtain rfl : k = 0 := by omega
        obtain rfl | rfl | rfl : i = 0 ∨ i = 1 ∨ i = 2 := by omega
        · exact hrg 0 u hu
        · exact hrg 1 u hu
        · exact hrg 2 u hu
      · obtain ⟨b, hgv, hs⟩ := hC.2 rfl
        refine wpOp_call rfl rfl (exec_calls rfl (enters_of Try.func23 (by kernel_rfl) rfl) (vs := #[.slice (some ⟨b, 0, none⟩) 3 3]) (by simp [show a.eval (.tmp 31) = _ from (hdep 15 (by kernel_rfl) 31 _ rfl).trans hgv]) v) (or_any _ 3 3 _ v rfl hs (by omega)) ?_
        rintro e w' ⟨rfl, rfl⟩
        exact ⟨_, rfl, hK gv _ (fun _ => rfl) ⟨hC.1, fun h => by cases h⟩⟩
    · intro gv v hC
      have HBv := Lib.hid (HB.out.trans (hC.1.mono HB.out.size))
      clear hC
      simp only [puts, List.filterMap_cons, List.filterMap_nil, _root_.id, List.setIfInBounds_toArray, List.set_cons_zero, List.set_cons_succ]
      go_wp2_with fail
      go_ret
      exact ⟨rfl, HBv.out⟩
end Go.Proofs.Ythimpgnagjgmdaa
