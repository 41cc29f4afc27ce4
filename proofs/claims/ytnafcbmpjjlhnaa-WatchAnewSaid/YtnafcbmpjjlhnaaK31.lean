/- WatchAnew: the walk. -/
import Derived.Test.YtnafcbmpjjlhnaaK30
namespace Go.Proofs.Ytnafcbmpjjlhnaa
open Go.RowKit

/-- Where the first loop's drawn region stands. -/
def C7 (w W : World) (B g1 g2 bp p : Nat) (k : List UInt8) (d : Int) (x : Wt) (q : Value) (ws : List Wr) (r : Nat) (gv : Value) (v : World) : Prop :=
  Below B w v ∧ match r with
    | 0 => One B v g1 g2 bp p k d x q ∧ Below W.heap.size W v
    | 1 => One B v g1 g2 bp p k d x q ∧ OwnE wrC 58 35 v W.heap.size gv ws
    | _ => ∃ x' q', One B v g1 g2 bp p k d x' q'
set_option maxRecDepth 100000 in
set_option maxHeartbeats 16000000 in
theorem WatchAnew_walkI (k : List UInt8) (d : Int) (hk : k.length = 25) (t : Int) (q1 : Option Addr) (n1 c1 : Nat) (xs1 : List Ac) (q2 : Option Addr) (n2 c2 : Nat) (xs2 : List Ac) (w : World)
    (hn1 : xs1.length = n1) (hn2 : xs2.length = n2) (hs1 : SlAt acC 31 w q1 xs1) (hs2 : SlAt acC 31 w q2 xs2) (ho1 : ∀ x ∈ xs1, OkAc w x) (ho2 : ∀ x ∈ xs2, OkAc w x) :
    Calls Try.prog 3 #[.slice q1 n1 c1, .slice q2 n2 c2, .agg (pC k d).toArray, .int .u64 t] w fun e w' => e = .returned (.bool true) ∧ Below w.heap.size w w' := by
  have HN1 := Lib.hid hn1
  have HN2 := Lib.hid hn2
  have HS1 := Lib.hid hs1
  have HS2 := Lib.hid hs2
  have HO1 := Lib.hid ho1
  have HO2 := Lib.hid ho2
  clear hn1 hn2 hs1 hs2 ho1 ho2
  obtain ⟨B, hB⟩ : ∃ B, B = w.heap.size := ⟨_, rfl⟩
  have HBw := Lib.hid hB
  have HLE : Hid (∀ v, Below B w v → B ≤ v.heap.size) := fun v h => by have := h.size; omega
  go_enter Try.func3, Try.ntmps3
  go_upto_region 1 with fail
  have HP0 : Hid ((w.alloc (.cells (pC k d).toArray 32)).heap[B]? = some (.cells (pC k d).toArray 32 (0, 0))) := by show _ = _; rw [hB]; exact heap_alloc_new _ _
  have HB0 : Hid (Below B w (w.alloc (.cells (pC k d).toArray 32))) := by show Below _ _ _; rw [hB]; exact below_alloc1 _ _
  rw [← hB]
  generalize w.alloc (.cells (pC k d).toArray 32) = W0 at *
  go_upto_region 2 with fail
  rw [show (Obj.cells #[Value.pointer none, Value.pointer none, Value.pointer none, Value.pointer none, Value.pointer none, Value.pointer none, Value.pointer none, Value.pointer none] 37) = Obj.cells rg0.toArray 37 from rfl]
  have HG1 : Hid (((W0.alloc (.cells rg0.toArray 37)).alloc (.cells rg0.toArray 37)).heap[W0.heap.size]? = some (.cells rg0.toArray 37 (0, 0))) := (heap_alloc_old _ _ (by simp)).trans (heap_alloc_new _ _)
  have HG2 : Hid (((W0.alloc (.cells rg0.toArray 37)).alloc (.cells rg0.toArray 37)).heap[W0.heap.size + 1]? = some (.cells rg0.toArray 37 (0, 0))) := by
    have := heap_alloc_new (W0.alloc (.cells rg0.toArray 37)) (.cells rg0.toArray 37)
    show _ = _
    simpa using this
  have hb01 := below_alloc2 W0 (.cells rg0.toArray 37) (.cells rg0.toArray 37)
  have HP1 := Lib.hid ((hb01.block _ (lt_heap HP0.out)).trans HP0.out)
  have HB1 := Lib.hid (HB0.out.trans (hb01.mono (HLE.out _ HB0.out)))
  have HBg : Hid (B ≤ W0.heap.size) := HLE.out _ HB0.out
  clear HP0 HB0 hb01
  generalize (W0.alloc (.cells rg0.toArray 37)).alloc (.cells rg0.toArray 37) = W1 at *
  obtain ⟨g1, hg1⟩ : ∃ g, g = W0.heap.size := ⟨_, rfl⟩
  rw [← hg1] at HG1 HG2 HBg ⊢
  clear hg1
  obtain ⟨g2, hg2⟩ : ∃ g, g = g1 + 1 := ⟨_, rfl⟩
  rw [← hg2] at HG2 ⊢
  have HGG : Hid (g1 ≠ g2) := by show _ ≠ _; omega
  have HBg2 : Hid (B ≤ g2) := by show _ ≤ _; have := HBg.out; omega
  clear hg2 hB
  have HPr := Lib.hid (range_whole HP1.out)
  cases hd : depOk d with
  | false =>
    have KW := Lib.hid (watch_bad g1 0 (by omega) k hk d 0 W1 hd)
    go_wp2_with (first
      | ((with_reducible refine gate_ld 32 (.tmp 6) rfl ?_); refine wl_ldr rfl 32 _ rfl B 0 (pC k d) _ Try.underlying32 rfl (by rw [sizPre, pC_len hk]) rfl HPr.out ?_)
      | (go_at_call 5; (refine KW.out.mono ?_); rintro e W2 ⟨rfl, hb2⟩; have HB2 := Lib.hid (HB1.out.trans (hb2.mono (HLE.out _ HB1.out))); have KK := Lib.hid (known_any W2); clear hb2)
      | (go_at_call 6; (refine KK.out.mono ?_); rintro e W3 ⟨rfl, hb3⟩; have HB3 := Lib.hid (HB2.out.trans (hb3.mono (HLE.out _ HB2.out))); clear hb3))
    go_ret
    exact ⟨rfl, HBw.out ▸ HB3.out⟩
  | true =>
    have KW : Hid (Calls Try.prog 5 #[.pointer (some ⟨g1, 0, none⟩), .int .i64 0, .agg (pC k d).toArray, .int .u64 0] W1 fun e w' => e = .returned (.int .i64 0) ∧ One B w' g1 g2 B (W1.heap.size + 1) k d (fresh k d 0 hk) nilV ∧ Below B w w') :=
      (watch_any g1 0 (by omega) k hk d 0 W1 HG1.out hd).mono fun e w' ⟨he, h1, h2, h3⟩ => by
        have hs := HB1.out.size
        have hbg := HBg.out
        have hbb : B ≠ g1 := ty_ne HP1.out HG1.out (by decide)
        have hgg := HGG.out
        have hw := HBw.out
        exact ⟨he, ⟨h2, (h3.block _ (lt_heap HG2.out) (by simp; omega)).trans HG2.out, (h3.block _ (lt_heap HP1.out) (by simp; omega)).trans HP1.out, fresh_at hk h1 (by omega), fresh_QB _ _ _ _, rfl, rfl, Nat.le_trans (by omega) h3.size⟩, HB1.out.trans (h3.below (fun j hj => by simp at hj; omega) (by omega))⟩
    go_upto_region 4 with (first
      | ((with_reducible refine gate_ld 32 (.tmp 6) rfl ?_); refine wl_ldr rfl 32 _ rfl B 0 (pC k d) _ Try.underlying32 rfl (by rw [sizPre, pC_len hk]) rfl HPr.out ?_)
      | (go_at_call 5; (refine KW.out.mono ?_); rintro e W2 ⟨rfl, h1, h2⟩; have HON := Lib.hid h1; have HB2 := Lib.hid h2; clear h1 h2))
    clear KW HPr HG1 HG2 HP1 HB1
    generalize W1.heap.size + 1 = p0 at *
    go_wp2_with fail
    go_loopw [11] (fun vi wr => ∃ (i p : Nat) (x : Wt) (q : Value), i ≤ n1 ∧ i ≤ 40 ∧ vi = .int .i64 i ∧ Hid (One B wr g1 g2 B p k d x q) ∧ Hid (Below B w wr)) (fun vi _ => 40 - (intOf vi).toNat)
    case atStart => exact ⟨0, _, _, _, Nat.zero_le _, Nat.zero_le _, rfl, HON, HB2⟩
    case round =>
      obtain ⟨i, p, x, q, hi, hi40, rfl, HO, HB⟩ := hrel
      by_cases h1 : i < n1
      · have h1i : (i : Int) < n1 := by omega
        by_cases h2 : i < 40
        · have h2i : (i : Int) < 40 := by omega
          obtain ⟨b, o, rfl, hb, hct, hcl⟩ := ac_cells HS1.out i (by rw [HN1.out]; exact h1)
          have HA := Lib.hid (HO1.out (xs1[i]'(by rw [HN1.out]; exact h1)) (List.getElem_mem _))
          obtain ⟨ac, hac⟩ : ∃ ac, ac = xs1[i]'(by rw [HN1.out]; exact h1) := ⟨_, rfl⟩
          rw [← hac] at hct hcl HA
          have HCT := Lib.hid hct
          have HCL := Lib.hid hcl
          have HBb : Hid (b < B) := by show _ < _; rw [HBw.out]; exact hb
          clear hct hcl hac hb
          go_upto_region 7 with fail
          refine wp_region_chainV (C7 w wr B g1 g2 B p k d x q (cutL ac.ws)) (fun gv => [some (35, .slice (some ⟨b, o, none⟩) n1 c1), some (36, .int .i64 (i : Int)), some (37, .pointer (some ⟨b, o + i * 31, none⟩)), some (38, .pointer (some ⟨b, o + i * 31 + 29, none⟩)), some (39, .int .u64 ac.t), some (40, .slice (some ⟨b, o, none⟩) n1 c1), some (41, .int .i64 (i : Int)), some (42, .pointer (some ⟨b, o + i * 31, none⟩)), some (43, .pointer (some ⟨b, o + i * 31 + 30, none⟩)), some (44, .slice ac.q ac.ws.length ac.c), some (45, gv), some (46, .int .i64 ((pubP x ac.t (srt (cutL ac.ws))).2 : Int))]) [10, 11] 10 nilV
            (by kernel_rfl) (by kernel_rfl) (fun _ => rfl) (fun v v' i hi => by
              by_cases h : i < 12
              · have h2 : i = 0 ∨ i = 1 ∨ i = 2 ∨ i = 3 ∨ i = 4 ∨ i = 5 ∨ i = 6 ∨ i = 7 ∨ i = 8 ∨ i = 9 ∨ i = 10 ∨ i = 11 := by omega
                rcases h2 with rfl | rfl | rfl | rfl | rfl | rfl | rfl | rfl | rfl | rfl | rfl | rfl <;> first | rfl | exact absurd rfl hi
              · rw [List.getElem?_eq_none (by simp; omega), List.getElem?_eq_none (by simp; omega)])
            (fun _ _ => rfl) (by simp) (by simp) (by decide) (by decide) (fun r hr => by have h2 : r + 1 < 2 := hr; obtain rfl : r = 0 := (by omega); show _ = true; kernel_rfl)
            ⟨HB.out.trans (Below.refl _ _).drew, HO.out.below (Below.refl _ _).drew, (Below.refl _ _).drew⟩ ?_ ?_ ?_
          · intro j hj hE gv a v r hfr hdep hC hkk K hK
            have hj12 : j < 12 := hj
            obtain rfl | rfl | rfl | rfl | rfl | rfl | rfl | rfl | rfl | rfl | rfl | rfl : j = 0 ∨ j = 1 ∨ j = 2 ∨ j = 3 ∨ j = 4 ∨ j = 5 ∨ j = 6 ∨ j = 7 ∨ j = 8 ∨ j = 9 ∨ j = 10 ∨ j = 11 := by omega
            · exact wpOp_mv rfl rfl (.tmp 0) rfl _ (hfr.off 0 (by simp)) hK
            · exact wpOp_mv rfl rfl (.tmp 11) rfl _ (hfr.off 11 (by simp)) hK
            · exact wpOp_ix rfl rfl 22 44 (.tmp 35) (.tmp 36) rfl Try.underlying22 31 sizAc b o n1 c1 i (hdep 0 (by kernel_rfl) 35 _ rfl) (hdep 1 (by kernel_rfl) 36 _ rfl) h1 hK
            · exact wpOp_val rfl rfl (exec_fA4 (.tmp 37) rfl b (o + i * 31) (hdep 2 (by kernel_rfl) 37 _ rfl)) hK
            · exact wpOp_val rfl rfl (exec_ld1 33 ag33 (.tmp 38) rfl b (o + i * 31 + 29) (.int .u64 ac.t) (hdep 3 (by kernel_rfl) 38 _ rfl) ((cellB hC.1 HBb.out).trans HCT.out)) hK
            · exact wpOp_mv rfl rfl (.tmp 0) rfl _ (hfr.off 0 (by simp)) hK
            · exact wpOp_mv rfl rfl (.tmp 11) rfl _ (hfr.off 11 (by simp)) hK
            · exact wpOp_ix rfl rfl 22 44 (.tmp 40) (.tmp 41) rfl Try.underlying22 31 sizAc b o n1 c1 i (hdep 5 (by kernel_rfl) 40 _ rfl) (hdep 6 (by kernel_rfl) 41 _ rfl) h1 hK
            · exact wpOp_val rfl rfl (exec_fA5 (.tmp 42) rfl b (o + i * 31) (hdep 7 (by kernel_rfl) 42 _ rfl)) hK
            · exact wpOp_val rfl rfl (exec_ld1 42 ag42 (.tmp 43) rfl b (o + i * 31 + 30) (.slice ac.q ac.ws.length ac.c) (hdep 8 (by kernel_rfl) 43 _ rfl) ((cellB hC.1 HBb.out).trans HCL.out)) hK
            · exact absurd (by simp) hE
            · exact absurd (by simp) hE
          · intro r hr gv a v hfr hdep hC K hK
            have hr2 : r < 2 := hr
            obtain rfl | rfl : r = 0 ∨ r = 1 := by omega
            · have hbw : Below w.heap.size w v := HBw.out ▸ hC.1
              have hA := HA.out.below hbw
              refine wpOp_call rfl rfl (exec_calls rfl (enters_of Try.func8 (by kernel_rfl) rfl) (vs := #[.slice ac.q ac.ws.length ac.c]) (by simp [show a.eval (.tmp 44) = _ from hdep 9 (by kernel_rfl) 44 _ rfl]) v) (cut_any14 ac.q ac.ws.length ac.c ac.ws v rfl hA.2.2.1 hA.2.2.2.1) ?_
              rintro e w' ⟨gv', rfl, ho, hb⟩
              have hl := HLE.out _ hC.1
              exact ⟨gv', rfl, hK gv' w' (fun h => absurd rfl h) ⟨hC.1.trans (hb.mono hl), hC.2.1.below hb, ho.base hC.2.2.size⟩⟩
            · refine wpOp_call rfl rfl (exec_calls rfl (enters_of Try.func7 (by kernel_rfl) rfl) (vs := #[.pointer (some ⟨g1, 0, none⟩), .int .u64 ac.t, gv]) (by simp [show a.eval (.tmp 9) = _ from hfr.off 9 (by simp), show a.eval (.tmp 39) = _ from hdep 4 (by kernel_rfl) 39 _ rfl, show a.eval (.tmp 45) = _ from hdep 10 (by kernel_rfl) 45 _ rfl]) v) (pub_one B g1 g2 B p wr.heap.size k d x q ac.t gv (cutL ac.ws) v hC.2.1 hC.2.2 (cutL_len _)) ?_
              rintro e w' ⟨rfl, x', q', ho, hb⟩
              exact ⟨_, rfl, hK gv w' (fun _ => rfl) ⟨hC.1.trans hb, x', q', ho⟩⟩
          · intro gv v hC
            obtain ⟨hb, x', q', ho⟩ := hC
            have HO2' := Lib.hid ho
            have HB2' := Lib.hid hb
            clear hb ho
            simp only [puts, List.filterMap_cons, List.filterMap_nil, _root_.id, List.setIfInBounds_toArray, List.set_cons_zero, List.set_cons_succ]
            go_wp2_with fail
            go_roundw
            case rel => exact ⟨i + 1, p, x', q', by omega, by omega, by go_num, HO2', HB2'⟩
            case measure => simp [intOf]; omega
        · have h2i : ¬ (i : Int) < 40 := by omega
          go_upto_region 8 with fail
          refine wp_region_chain (fun r v => Below B w v ∧ match r with | 0 => One B v g1 g2 B p k d x q | 1 => ∃ p', One B v g1 g2 B p' k d (fresh k d t hk) nilV | _ => ∃ p1 p2, Two B v g1 g2 p1 p2 (fresh k d t hk) (fresh k d t hk) nilV nilV)
            [some (47, .int .u64 t), some (48, .int .i64 0), some (49, .agg (pC k d).toArray), some (50, .int .u64 t), some (51, .int .i64 0), some (12, .int .i64 0), some (13, .int .i64 0)] [1, 4]
            (by kernel_rfl) (by kernel_rfl) rfl (by simp) (by simp) (by decide) (by decide) (fun r hr => by have h2 : r + 1 < 2 := hr; obtain rfl : r = 0 := (by omega); show _ = true; kernel_rfl) ⟨HB.out.trans (Below.refl _ _).drew, HO.out.below (Below.refl _ _).drew⟩ ?_ ?_ ?_
          · intro j hj hE a v r hfr hdep hC hkk K hK
            have hj7 : j < 7 := hj
            obtain rfl | rfl | rfl | rfl | rfl | rfl | rfl : j = 0 ∨ j = 1 ∨ j = 2 ∨ j = 3 ∨ j = 4 ∨ j = 5 ∨ j = 6 := by omega
            · exact wpOp_mv rfl rfl (.tmp 3) rfl _ (hfr.off 3 (by simp)) hK
            · exact absurd (by simp) hE
            · have hr1 : r ≤ 1 := by
                rcases Nat.lt_or_ge 1 r with h | h
                · exact absurd (hkk 1 (by simp) h) (by decide +kernel)
                · exact h
              have hbx : v.heap[B]? = some (.cells (pC k d).toArray 32 (0, 0)) := by
                rcases (by omega : r = 0 ∨ r = 1) with rfl | rfl
                · exact hC.2.bx
                · obtain ⟨p', h⟩ := hC.2
                  exact h.bx
              exact wpOp_ldr rfl rfl 32 (.tmp 6) rfl B 0 (pC k d) _ Try.underlying32 rfl (by rw [sizPre, pC_len hk]) (hfr.off 6 (by simp)) (range_whole hbx) hK
            · exact wpOp_mv rfl rfl (.tmp 3) rfl _ (hfr.off 3 (by simp)) hK
            · exact absurd (by simp) hE
            · exact wpOp_as rfl rfl (.tmp 48) rfl _ (hdep 1 (by kernel_rfl) 48 _ rfl) hK
            · exact wpOp_as rfl rfl (.tmp 51) rfl _ (hdep 4 (by kernel_rfl) 51 _ rfl) hK
          · intro r hr a v hfr hdep hC K hK
            have hr2 : r < 2 := hr
            obtain rfl | rfl : r = 0 ∨ r = 1 := by omega
            · refine wpOp_call rfl rfl (exec_calls rfl (enters_of Try.func9 (by kernel_rfl) rfl) (vs := #[.pointer (some ⟨g1, 0, none⟩), .int .i64 0, .int .u64 t]) (by simp [show a.eval (.tmp 9) = _ from hfr.off 9 (by simp), show a.eval (.tmp 47) = _ from hdep 0 (by kernel_rfl) 47 _ rfl, show ∀ v, a.eval (.const v) = v from fun _ => rfl]) v) (resync_one B g1 g2 B p k d t hk x q v hC.2 HGG.out HBg.out) ?_
              rintro e w' ⟨rfl, ho, hb⟩
              exact ⟨_, rfl, hK w' ⟨hC.1.trans hb, _, ho⟩⟩
            · obtain ⟨hb0, p', ho0⟩ := hC
              refine wpOp_call rfl rfl (exec_calls rfl (enters_of Try.func5 (by kernel_rfl) rfl) (vs := #[.pointer (some ⟨g2, 0, none⟩), .int .i64 0, .agg (pC k d).toArray, .int .u64 t]) (by simp [show a.eval (.tmp 10) = _ from hfr.off 10 (by simp), show a.eval (.tmp 49) = _ from hdep 2 (by kernel_rfl) 49 _ rfl, show a.eval (.tmp 50) = _ from hdep 3 (by kernel_rfl) 50 _ rfl, show ∀ v, a.eval (.const v) = v from fun _ => rfl]) v) (watch_two B g1 g2 B p' k d t hk hd (fresh k d t hk) nilV v ho0 HBg2.out) ?_
              rintro e w' ⟨rfl, ho, hb⟩
              exact ⟨_, rfl, hK w' ⟨hb0.trans hb, _, _, ho⟩⟩
          · intro v hC
            obtain ⟨hb, p1, p2, ho⟩ := hC
            have HT := Lib.hid ho
            have HB3 := Lib.hid hb
            clear hb ho HO HB
            simp only [puts, List.filterMap_cons, List.filterMap_nil, _root_.id, List.setIfInBounds_toArray, List.set_cons_zero, List.set_cons_succ]
            generalize fresh k d t hk = x0 at *
            go_wp2_with fail
            go_loopw [14] (fun vi wr => ∃ (i : Nat) (x : Wt) (qa qb : Value), i ≤ n2 ∧ i ≤ 40 ∧ vi = .int .i64 i ∧ Hid (Two B wr g1 g2 p1 p2 x x qa qb) ∧ Hid (Below B w wr)) (fun vi _ => 40 - (intOf vi).toNat)
            case atStart => exact ⟨0, _, _, _, Nat.zero_le _, Nat.zero_le _, rfl, HT, HB3⟩
            case round =>
              clear HT HB3
              obtain ⟨i, x, qa, qb, hi, hi40, rfl, HO, HB⟩ := hrel
              by_cases h1 : i < n2
              · have h1i : (i : Int) < n2 := by omega
                by_cases h2 : i < 40
                · have h2i : (i : Int) < 40 := by omega
                  obtain ⟨b, o, rfl, hb, hct, hcl⟩ := ac_cells HS2.out i (by rw [HN2.out]; exact h1)
                  have HA := Lib.hid (HO2.out (xs2[i]'(by rw [HN2.out]; exact h1)) (List.getElem_mem _))
                  obtain ⟨ac, hac⟩ : ∃ ac, ac = xs2[i]'(by rw [HN2.out]; exact h1) := ⟨_, rfl⟩
                  rw [← hac] at hct hcl HA
                  have HCT := Lib.hid hct
                  have HBb : Hid (b < B) := by show _ < _; rw [HBw.out]; exact hb
                  have hclr : wr.cell? ⟨b, o + i * 31 + 30, none⟩ = some (.slice ac.q ac.ws.length ac.c) := (cellB HB.out HBb.out).trans hcl
                  have hAr := HA.out.below (show Below w.heap.size w wr from HBw.out ▸ HB.out)
                  have KC := Lib.hid (cut_any14 ac.q ac.ws.length ac.c ac.ws wr rfl hAr.2.2.1 hAr.2.2.2.1)
                  clear hct hcl hac hb hAr
                  go_upto_region 13 with (go_at_call 8; (refine KC.out.mono ?_); rintro e W5 ⟨gv, rfl, hv, hb⟩; have HV := Lib.hid hv; have HT5 := Lib.hid (HO.out.below hb); have HB5 := Lib.hid (HB.out.trans (hb.mono (HLE.out _ HB.out))); clear hv hb)
                  clear hclr KC
                  obtain ⟨x', hx'⟩ : ∃ x', x' = (pubP x ac.t (srt (cutL ac.ws))).1 := ⟨_, rfl⟩
                  have HX' := Lib.hid hx'
                  clear hx'
                  refine wp_region_chain (fun r v => Below B w v ∧ match r with | 0 => Two B v g1 g2 p1 p2 x x qa qb ∧ OwnE wrC 58 35 v wr.heap.size gv (cutL ac.ws) | 1 => ∃ qa', Two B v g1 g2 p1 p2 x' x qa' qb ∧ OwnE wrC 58 35 v wr.heap.size gv (cutL ac.ws) | _ => ∃ qa' qb', Two B v g1 g2 p1 p2 x' x' qa' qb')
                    [some (68, .slice (some ⟨b, o, none⟩) n2 c2), some (69, .int .i64 (i : Int)), some (70, .pointer (some ⟨b, o + i * 31, none⟩)), some (71, .pointer (some ⟨b, o + i * 31 + 29, none⟩)), some (72, .int .u64 ac.t), some (73, gv), some (74, .int .i64 ((pubP x ac.t (srt (cutL ac.ws))).2 : Int)), some (75, .slice (some ⟨b, o, none⟩) n2 c2), some (76, .int .i64 (i : Int)), some (77, .pointer (some ⟨b, o + i * 31, none⟩)), some (78, .pointer (some ⟨b, o + i * 31 + 29, none⟩)), some (79, .int .u64 ac.t), some (80, gv), some (81, .int .i64 ((pubP x ac.t (srt (cutL ac.ws))).2 : Int)), some (82, .bool false)] [6, 13]
                    (by kernel_rfl) (by kernel_rfl) rfl (by simp) (by simp) (by decide) (by decide) (fun r hr => by have h2 : r + 1 < 2 := hr; obtain rfl : r = 0 := (by omega); show _ = true; kernel_rfl) ⟨HB5.out.trans (Below.refl _ _).drew, HT5.out.below (Below.refl _ _).drew, HV.out.below (Below.refl _ _).drew⟩ ?_ ?_ ?_
                  · intro j hj hE a v r hfr hdep hC hkk K hK
                    have hj15 : j < 15 := hj
                    obtain rfl | rfl | rfl | rfl | rfl | rfl | rfl | rfl | rfl | rfl | rfl | rfl | rfl | rfl | rfl : j = 0 ∨ j = 1 ∨ j = 2 ∨ j = 3 ∨ j = 4 ∨ j = 5 ∨ j = 6 ∨ j = 7 ∨ j = 8 ∨ j = 9 ∨ j = 10 ∨ j = 11 ∨ j = 12 ∨ j = 13 ∨ j = 14 := by omega
                    · exact wpOp_mv rfl rfl (.tmp 1) rfl _ (hfr.off 1 (by simp)) hK
                    · exact wpOp_mv rfl rfl (.tmp 14) rfl _ (hfr.off 14 (by simp)) hK
                    · exact wpOp_ix rfl rfl 22 44 (.tmp 68) (.tmp 69) rfl Try.underlying22 31 sizAc b o n2 c2 i (hdep 0 (by kernel_rfl) 68 _ rfl) (hdep 1 (by kernel_rfl) 69 _ rfl) h1 hK
                    · exact wpOp_val rfl rfl (exec_fA4 (.tmp 70) rfl b (o + i * 31) (hdep 2 (by kernel_rfl) 70 _ rfl)) hK
                    · exact wpOp_val rfl rfl (exec_ld1 33 ag33 (.tmp 71) rfl b (o + i * 31 + 29) (.int .u64 ac.t) (hdep 3 (by kernel_rfl) 71 _ rfl) ((cellB hC.1 HBb.out).trans HCT.out)) hK
                    · exact wpOp_mv rfl rfl (.tmp 15) rfl _ (hfr.off 15 (by simp)) hK
                    · exact absurd (by simp) hE
                    · exact wpOp_mv rfl rfl (.tmp 1) rfl _ (hfr.off 1 (by simp)) hK
                    · exact wpOp_mv rfl rfl (.tmp 14) rfl _ (hfr.off 14 (by simp)) hK
                    · exact wpOp_ix rfl rfl 22 44 (.tmp 75) (.tmp 76) rfl Try.underlying22 31 sizAc b o n2 c2 i (hdep 7 (by kernel_rfl) 75 _ rfl) (hdep 8 (by kernel_rfl) 76 _ rfl) h1 hK
                    · exact wpOp_val rfl rfl (exec_fA4 (.tmp 77) rfl b (o + i * 31) (hdep 9 (by kernel_rfl) 77 _ rfl)) hK
                    · exact wpOp_val rfl rfl (exec_ld1 33 ag33 (.tmp 78) rfl b (o + i * 31 + 29) (.int .u64 ac.t) (hdep 10 (by kernel_rfl) 78 _ rfl) ((cellB hC.1 HBb.out).trans HCT.out)) hK
                    · exact wpOp_mv rfl rfl (.tmp 15) rfl _ (hfr.off 15 (by simp)) hK
                    · exact absurd (by simp) hE
                    · exact wpOp_val rfl rfl (exec_neqI (.tmp 74) (.tmp 81) rfl _ (hdep 6 (by kernel_rfl) 74 _ rfl) (hdep 13 (by kernel_rfl) 81 _ rfl)) hK
                  · intro r hr a v hfr hdep hC K hK
                    have hr2 : r < 2 := hr
                    obtain rfl | rfl : r = 0 ∨ r = 1 := by omega
                    · refine wpOp_call rfl rfl (exec_calls rfl (enters_of Try.func7 (by kernel_rfl) rfl) (vs := #[.pointer (some ⟨g1, 0, none⟩), .int .u64 ac.t, gv]) (by simp [show a.eval (.tmp 9) = _ from hfr.off 9 (by simp), show a.eval (.tmp 72) = _ from hdep 4 (by kernel_rfl) 72 _ rfl, show a.eval (.tmp 73) = _ from hdep 5 (by kernel_rfl) 73 _ rfl]) v) (pub_two B g1 g2 p1 p2 wr.heap.size x x qa qb ac.t gv (cutL ac.ws) v hC.2.1 hC.2.2 (cutL_len _)) ?_
                      rintro e w' ⟨rfl, q', ho, hv, hb⟩
                      rw [← HX'.out] at ho
                      exact ⟨_, rfl, hK w' ⟨hC.1.trans hb, q', ho, hv⟩⟩
                    · obtain ⟨hb0, qa', ho0, hv0⟩ := hC
                      refine wpOp_call rfl rfl (exec_calls rfl (enters_of Try.func7 (by kernel_rfl) rfl) (vs := #[.pointer (some ⟨g2, 0, none⟩), .int .u64 ac.t, gv]) (by simp [show a.eval (.tmp 10) = _ from hfr.off 10 (by simp), show a.eval (.tmp 79) = _ from hdep 11 (by kernel_rfl) 79 _ rfl, show a.eval (.tmp 80) = _ from hdep 12 (by kernel_rfl) 80 _ rfl]) v) (pub_two B g2 g1 p2 p1 wr.heap.size x x' qb qa' ac.t gv (cutL ac.ws) v ho0.swap hv0 (cutL_len _)) ?_
                      rintro e w' ⟨rfl, q', ho, hv, hb⟩
                      rw [← HX'.out] at ho
                      exact ⟨_, rfl, hK w' ⟨hb0.trans hb, qa', q', ho.swap⟩⟩
                  · intro v hC
                    obtain ⟨hb, qa', qb', ho⟩ := hC
                    have HT6 := Lib.hid ho
                    have HB6 := Lib.hid hb
                    clear hb ho
                    simp only [puts, List.filterMap_cons, List.filterMap_nil, _root_.id, List.setIfInBounds_toArray, List.set_cons_zero, List.set_cons_succ]
                    go_wp2_with fail
                    go_roundw
                    case rel => exact ⟨i + 1, x', qa', qb', by omega, by omega, by go_num, HT6, HB6⟩
                    case measure => simp [intOf]; omega
                · have h2i : ¬ (i : Int) < 40 := by omega
                  have KD1 := Lib.hid (drain_two B g1 g2 p1 p2 x x qa qb wr HO.out)
                  have HQx := Lib.hid HO.out.qb
                  clear HO
                  go_upto_region 16 with (go_at_call 10; (refine KD1.out.mono ?_); rintro e W6 ⟨s1, e1, rfl, h3, h4, h5, h6, h7, h8, m1, m2, m3, l1, l2, l3, hb⟩; have KD2 := Lib.hid (drain_last B g2 p2 x qb W6 h7 h5 HQx.out (HLE.out _ (HB.out.trans hb))); have HB6 := Lib.hid (HB.out.trans hb); have HF := Lib.hid (And.intro h3 (And.intro h4 (And.intro h6 (And.intro h7 (And.intro h8 (And.intro m1 (And.intro m2 (And.intro m3 (And.intro l1 (And.intro l2 l3)))))))))); clear h3 h4 h5 h6 h7 h8 m1 m2 m3 l1 l2 l3 hb)
                  clear KD1 HB
                  go_upto_region 17 with (go_at_call 10; (refine KD2.out.mono ?_); rintro e W7 ⟨s2, e2, rfl, h3, h4, h5, hb⟩; have HB7 := Lib.hid (HB6.out.trans hb); have HS2 := Lib.hid h3; have HC2 := Lib.hid h4; have HT7 := Lib.hid h5; clear h3 h4 h5 hb)
                  have HC1 : Hid (W7.cell? ⟨p1, 28, none⟩ = some (.bool x.stop)) := by
                    obtain ⟨h3, h4, h6, h7, h8, m1, m2, m3, l1, l2, l3⟩ := HF.out
                    exact (cell_of (HT7.out.block p1 l1 (by simpa using m3)) 28).trans h8
                  have HG1 : Hid (W7.cell? ⟨g1, 0, none⟩ = some (.pointer (some ⟨p1, 0, none⟩))) := by
                    obtain ⟨h3, h4, h6, h7, h8, m1, m2, m3, l1, l2, l3⟩ := HF.out
                    exact (cell_of (HT7.out.block g1 l2 (by simpa using m1)) 0).trans h6
                  have HG2 : Hid (W7.cell? ⟨g2, 0, none⟩ = some (.pointer (some ⟨p2, 0, none⟩))) := by
                    obtain ⟨h3, h4, h6, h7, h8, m1, m2, m3, l1, l2, l3⟩ := HF.out
                    exact (cell_of (HT7.out.block g2 l3 (by simpa using m2)) 0).trans h7
                  have HS1 : Hid (SlAt evC 28 W7 s1 x.queue) := by
                    obtain ⟨h3, h4, h6, h7, h8, m1, m2, m3, l1, l2, l3⟩ := HF.out
                    exact slat_turn h3 HT7.out h4
                  have K1 : Hid (Calls Try.prog 11 #[.pointer (some ⟨g1, 0, none⟩), .int .i64 0] W7 fun e w' => e = .returned (.bool x.stop) ∧ w' = W7) := stopped_any g1 0 (by omega) p1 x.stop W7 HG1.out HC1.out
                  have K2 : Hid (Calls Try.prog 11 #[.pointer (some ⟨g2, 0, none⟩), .int .i64 0] W7 fun e w' => e = .returned (.bool x.stop) ∧ w' = W7) := stopped_any g2 0 (by omega) p2 x.stop W7 HG2.out HC2.out
                  clear KD2 HF HT7 HB6 HC1 HC2 HG1 HG2
                  obtain ⟨n, hnq⟩ : ∃ n, n = x.queue.length := ⟨_, rfl⟩
                  rw [← hnq]
                  have HNq := Lib.hid hnq
                  have hn13 : n ≤ 13 := by rw [hnq]; exact HQx.out.1
                  clear hnq HQx
                  obtain ⟨st, hst⟩ : ∃ st, st = x.stop := ⟨_, rfl⟩
                  rw [← hst] at K1 K2
                  clear hst
                  go_upto_region 19 with (first
                    | (go_at_call 11; (with_reducible refine K1.out.mono ?_); rintro e W8 ⟨rfl, rfl⟩)
                    | (go_at_call 11; (with_reducible refine K2.out.mono ?_); rintro e W8 ⟨rfl, rfl⟩))
                  clear K1 K2
                  go_wp2_with fail
                  go_loopw [20] (fun vi wr => ∃ i : Nat, i ≤ n ∧ vi = .int .i64 i ∧ Hid (SlAt evC 28 wr s1 x.queue) ∧ Hid (SlAt evC 28 wr s2 x.queue) ∧ Hid (Below B w wr)) (fun vi _ => n - (intOf vi).toNat)
                  case atStart => exact ⟨0, Nat.zero_le _, rfl, HS1, HS2, HB7⟩
                  case round =>
                    clear HS1 HS2 HB7
                    obtain ⟨i, hi, rfl, HS1, HS2, HB7⟩ := hrel
                    by_cases h1 : i < n
                    · have h1i : (i : Int) < n := by omega
                      have hil : i < x.queue.length := by rw [← HNq.out]; exact h1
                      obtain ⟨b1, o1, rfl, hb1, hr1⟩ := HS1.out i hil
                      obtain ⟨b2, o2, rfl, hb2, hr2⟩ := HS2.out i hil
                      obtain ⟨ev, hev⟩ : ∃ ev, ev = x.queue[i] := ⟨_, rfl⟩
                      rw [← hev] at hr1 hr2
                      have HR1 := Lib.hid hr1
                      have HR2 := Lib.hid hr2
                      clear hev hr1 hr2
                      go_upto_region 22 with fail
                      refine wp_region_quiet_below (by kernel_rfl) (by kernel_rfl) ?_
                      repeat (first
                        | (refine wq_ldr rfl 52 (.tmp 123) rfl b1 (o1 + i * 28) (evC ev) _ Try.underlying52 rfl (by rw [sizEv, evC_len]) rfl HR1.out hb1 ?_; simp only [Act.put, List.setIfInBounds_toArray, List.set_cons_zero, List.set_cons_succ])
                        | (refine wq_ldr rfl 52 (.tmp 127) rfl b2 (o2 + i * 28) (evC ev) _ Try.underlying52 rfl (by rw [sizEv, evC_len]) rfl HR2.out hb2 ?_; simp only [Act.put, List.setIfInBounds_toArray, List.set_cons_zero, List.set_cons_succ])
                        | (refine wq_val (.bool false) rfl (fun w => exec_neqEv w (.tmp 124) (.tmp 128) rfl ev rfl rfl) ?_; simp only [Act.put, List.setIfInBounds_toArray, List.set_cons_zero, List.set_cons_succ])
                        | go_big_quiet_step (fail))
                      refine wpQuiet_nil ?_
                      rintro _ ⟨⟨dq, osq⟩, rfl⟩
                      have hbr := below_regrown wr dq osq
                      have HS1' := Lib.hid (HS1.out.below hbr)
                      have HS2' := Lib.hid (HS2.out.below hbr)
                      have HB8 := Lib.hid (HB7.out.trans (hbr.mono (HLE.out _ HB7.out)))
                      clear hbr
                      go_wp2_with fail
                      go_roundw
                      case rel => exact ⟨i + 1, by omega, by go_num, HS1', HS2', HB8⟩
                      case measure => simp [intOf]; omega
                    · have h1i : ¬ (i : Int) < n := by omega
                      have KK := Lib.hid (known_any wr)
                      go_wp2_with (go_at_call 6; (refine KK.out.mono ?_); rintro e W9 ⟨rfl, hb⟩; have HB9 := Lib.hid (HB7.out.trans (hb.mono (HLE.out _ HB7.out))); clear hb)
                      go_ret
                      exact ⟨rfl, HBw.out ▸ HB9.out⟩
              · have h1i : ¬ (i : Int) < n2 := by omega
                have KD1 := Lib.hid (drain_two B g1 g2 p1 p2 x x qa qb wr HO.out)
                have HQx := Lib.hid HO.out.qb
                clear HO
                go_upto_region 16 with (go_at_call 10; (refine KD1.out.mono ?_); rintro e W6 ⟨s1, e1, rfl, h3, h4, h5, h6, h7, h8, m1, m2, m3, l1, l2, l3, hb⟩; have KD2 := Lib.hid (drain_last B g2 p2 x qb W6 h7 h5 HQx.out (HLE.out _ (HB.out.trans hb))); have HB6 := Lib.hid (HB.out.trans hb); have HF := Lib.hid (And.intro h3 (And.intro h4 (And.intro h6 (And.intro h7 (And.intro h8 (And.intro m1 (And.intro m2 (And.intro m3 (And.intro l1 (And.intro l2 l3)))))))))); clear h3 h4 h5 h6 h7 h8 m1 m2 m3 l1 l2 l3 hb)
                clear KD1 HB
                go_upto_region 17 with (go_at_call 10; (refine KD2.out.mono ?_); rintro e W7 ⟨s2, e2, rfl, h3, h4, h5, hb⟩; have HB7 := Lib.hid (HB6.out.trans hb); have HS2 := Lib.hid h3; have HC2 := Lib.hid h4; have HT7 := Lib.hid h5; clear h3 h4 h5 hb)
                have HC1 : Hid (W7.cell? ⟨p1, 28, none⟩ = some (.bool x.stop)) := by
                  obtain ⟨h3, h4, h6, h7, h8, m1, m2, m3, l1, l2, l3⟩ := HF.out
                  exact (cell_of (HT7.out.block p1 l1 (by simpa using m3)) 28).trans h8
                have HG1 : Hid (W7.cell? ⟨g1, 0, none⟩ = some (.pointer (some ⟨p1, 0, none⟩))) := by
                  obtain ⟨h3, h4, h6, h7, h8, m1, m2, m3, l1, l2, l3⟩ := HF.out
                  exact (cell_of (HT7.out.block g1 l2 (by simpa using m1)) 0).trans h6
                have HG2 : Hid (W7.cell? ⟨g2, 0, none⟩ = some (.pointer (some ⟨p2, 0, none⟩))) := by
                  obtain ⟨h3, h4, h6, h7, h8, m1, m2, m3, l1, l2, l3⟩ := HF.out
                  exact (cell_of (HT7.out.block g2 l3 (by simpa using m2)) 0).trans h7
                have HS1 : Hid (SlAt evC 28 W7 s1 x.queue) := by
                  obtain ⟨h3, h4, h6, h7, h8, m1, m2, m3, l1, l2, l3⟩ := HF.out
                  exact slat_turn h3 HT7.out h4
                have K1 : Hid (Calls Try.prog 11 #[.pointer (some ⟨g1, 0, none⟩), .int .i64 0] W7 fun e w' => e = .returned (.bool x.stop) ∧ w' = W7) := stopped_any g1 0 (by omega) p1 x.stop W7 HG1.out HC1.out
                have K2 : Hid (Calls Try.prog 11 #[.pointer (some ⟨g2, 0, none⟩), .int .i64 0] W7 fun e w' => e = .returned (.bool x.stop) ∧ w' = W7) := stopped_any g2 0 (by omega) p2 x.stop W7 HG2.out HC2.out
                clear KD2 HF HT7 HB6 HC1 HC2 HG1 HG2
                obtain ⟨n, hnq⟩ : ∃ n, n = x.queue.length := ⟨_, rfl⟩
                rw [← hnq]
                have HNq := Lib.hid hnq
                have hn13 : n ≤ 13 := by rw [hnq]; exact HQx.out.1
                clear hnq HQx
                obtain ⟨st, hst⟩ : ∃ st, st = x.stop := ⟨_, rfl⟩
                rw [← hst] at K1 K2
                clear hst
                go_upto_region 19 with (first
                  | (go_at_call 11; (with_reducible refine K1.out.mono ?_); rintro e W8 ⟨rfl, rfl⟩)
                  | (go_at_call 11; (with_reducible refine K2.out.mono ?_); rintro e W8 ⟨rfl, rfl⟩))
                clear K1 K2
                go_wp2_with fail
                go_loopw [20] (fun vi wr => ∃ i : Nat, i ≤ n ∧ vi = .int .i64 i ∧ Hid (SlAt evC 28 wr s1 x.queue) ∧ Hid (SlAt evC 28 wr s2 x.queue) ∧ Hid (Below B w wr)) (fun vi _ => n - (intOf vi).toNat)
                case atStart => exact ⟨0, Nat.zero_le _, rfl, HS1, HS2, HB7⟩
                case round =>
                  clear HS1 HS2 HB7
                  obtain ⟨i, hi, rfl, HS1, HS2, HB7⟩ := hrel
                  by_cases h1 : i < n
                  · have h1i : (i : Int) < n := by omega
                    have hil : i < x.queue.length := by rw [← HNq.out]; exact h1
                    obtain ⟨b1, o1, rfl, hb1, hr1⟩ := HS1.out i hil
                    obtain ⟨b2, o2, rfl, hb2, hr2⟩ := HS2.out i hil
                    obtain ⟨ev, hev⟩ : ∃ ev, ev = x.queue[i] := ⟨_, rfl⟩
                    rw [← hev] at hr1 hr2
                    have HR1 := Lib.hid hr1
                    have HR2 := Lib.hid hr2
                    clear hev hr1 hr2
                    go_upto_region 22 with fail
                    refine wp_region_quiet_below (by kernel_rfl) (by kernel_rfl) ?_
                    repeat (first
                      | (refine wq_ldr rfl 52 (.tmp 123) rfl b1 (o1 + i * 28) (evC ev) _ Try.underlying52 rfl (by rw [sizEv, evC_len]) rfl HR1.out hb1 ?_; simp only [Act.put, List.setIfInBounds_toArray, List.set_cons_zero, List.set_cons_succ])
                      | (refine wq_ldr rfl 52 (.tmp 127) rfl b2 (o2 + i * 28) (evC ev) _ Try.underlying52 rfl (by rw [sizEv, evC_len]) rfl HR2.out hb2 ?_; simp only [Act.put, List.setIfInBounds_toArray, List.set_cons_zero, List.set_cons_succ])
                      | (refine wq_val (.bool false) rfl (fun w => exec_neqEv w (.tmp 124) (.tmp 128) rfl ev rfl rfl) ?_; simp only [Act.put, List.setIfInBounds_toArray, List.set_cons_zero, List.set_cons_succ])
                      | go_big_quiet_step (fail))
                    refine wpQuiet_nil ?_
                    rintro _ ⟨⟨dq, osq⟩, rfl⟩
                    have hbr := below_regrown wr dq osq
                    have HS1' := Lib.hid (HS1.out.below hbr)
                    have HS2' := Lib.hid (HS2.out.below hbr)
                    have HB8 := Lib.hid (HB7.out.trans (hbr.mono (HLE.out _ HB7.out)))
                    clear hbr
                    go_wp2_with fail
                    go_roundw
                    case rel => exact ⟨i + 1, by omega, by go_num, HS1', HS2', HB8⟩
                    case measure => simp [intOf]; omega
                  · have h1i : ¬ (i : Int) < n := by omega
                    have KK := Lib.hid (known_any wr)
                    go_wp2_with (go_at_call 6; (refine KK.out.mono ?_); rintro e W9 ⟨rfl, hb⟩; have HB9 := Lib.hid (HB7.out.trans (hb.mono (HLE.out _ HB7.out))); clear hb)
                    go_ret
                    exact ⟨rfl, HBw.out ▸ HB9.out⟩
      · have h1i : ¬ (i : Int) < n1 := by omega
        go_upto_region 8 with fail
        refine wp_region_chain (fun r v => Below B w v ∧ match r with | 0 => One B v g1 g2 B p k d x q | 1 => ∃ p', One B v g1 g2 B p' k d (fresh k d t hk) nilV | _ => ∃ p1 p2, Two B v g1 g2 p1 p2 (fresh k d t hk) (fresh k d t hk) nilV nilV)
          [some (47, .int .u64 t), some (48, .int .i64 0), some (49, .agg (pC k d).toArray), some (50, .int .u64 t), some (51, .int .i64 0), some (12, .int .i64 0), some (13, .int .i64 0)] [1, 4]
          (by kernel_rfl) (by kernel_rfl) rfl (by simp) (by simp) (by decide) (by decide) (fun r hr => by have h2 : r + 1 < 2 := hr; obtain rfl : r = 0 := (by omega); show _ = true; kernel_rfl) ⟨HB.out.trans (Below.refl _ _).drew, HO.out.below (Below.refl _ _).drew⟩ ?_ ?_ ?_
        · intro j hj hE a v r hfr hdep hC hkk K hK
          have hj7 : j < 7 := hj
          obtain rfl | rfl | rfl | rfl | rfl | rfl | rfl : j = 0 ∨ j = 1 ∨ j = 2 ∨ j = 3 ∨ j = 4 ∨ j = 5 ∨ j = 6 := by omega
          · exact wpOp_mv rfl rfl (.tmp 3) rfl _ (hfr.off 3 (by simp)) hK
          · exact absurd (by simp) hE
          · have hr1 : r ≤ 1 := by
              rcases Nat.lt_or_ge 1 r with h | h
              · exact absurd (hkk 1 (by simp) h) (by decide +kernel)
              · exact h
            have hbx : v.heap[B]? = some (.cells (pC k d).toArray 32 (0, 0)) := by
              rcases (by omega : r = 0 ∨ r = 1) with rfl | rfl
              · exact hC.2.bx
              · obtain ⟨p', h⟩ := hC.2
                exact h.bx
            exact wpOp_ldr rfl rfl 32 (.tmp 6) rfl B 0 (pC k d) _ Try.underlying32 rfl (by rw [sizPre, pC_len hk]) (hfr.off 6 (by simp)) (range_whole hbx) hK
          · exact wpOp_mv rfl rfl (.tmp 3) rfl _ (hfr.off 3 (by simp)) hK
          · exact absurd (by simp) hE
          · exact wpOp_as rfl rfl (.tmp 48) rfl _ (hdep 1 (by kernel_rfl) 48 _ rfl) hK
          · exact wpOp_as rfl rfl (.tmp 51) rfl _ (hdep 4 (by kernel_rfl) 51 _ rfl) hK
        · intro r hr a v hfr hdep hC K hK
          have hr2 : r < 2 := hr
          obtain rfl | rfl : r = 0 ∨ r = 1 := by omega
          · refine wpOp_call rfl rfl (exec_calls rfl (enters_of Try.func9 (by kernel_rfl) rfl) (vs := #[.pointer (some ⟨g1, 0, none⟩), .int .i64 0, .int .u64 t]) (by simp [show a.eval (.tmp 9) = _ from hfr.off 9 (by simp), show a.eval (.tmp 47) = _ from hdep 0 (by kernel_rfl) 47 _ rfl, show ∀ v, a.eval (.const v) = v from fun _ => rfl]) v) (resync_one B g1 g2 B p k d t hk x q v hC.2 HGG.out HBg.out) ?_
            rintro e w' ⟨rfl, ho, hb⟩
            exact ⟨_, rfl, hK w' ⟨hC.1.trans hb, _, ho⟩⟩
          · obtain ⟨hb0, p', ho0⟩ := hC
            refine wpOp_call rfl rfl (exec_calls rfl (enters_of Try.func5 (by kernel_rfl) rfl) (vs := #[.pointer (some ⟨g2, 0, none⟩), .int .i64 0, .agg (pC k d).toArray, .int .u64 t]) (by simp [show a.eval (.tmp 10) = _ from hfr.off 10 (by simp), show a.eval (.tmp 49) = _ from hdep 2 (by kernel_rfl) 49 _ rfl, show a.eval (.tmp 50) = _ from hdep 3 (by kernel_rfl) 50 _ rfl, show ∀ v, a.eval (.const v) = v from fun _ => rfl]) v) (watch_two B g1 g2 B p' k d t hk hd (fresh k d t hk) nilV v ho0 HBg2.out) ?_
            rintro e w' ⟨rfl, ho, hb⟩
            exact ⟨_, rfl, hK w' ⟨hb0.trans hb, _, _, ho⟩⟩
        · intro v hC
          obtain ⟨hb, p1, p2, ho⟩ := hC
          have HT := Lib.hid ho
          have HB3 := Lib.hid hb
          clear hb ho HO HB
          simp only [puts, List.filterMap_cons, List.filterMap_nil, _root_.id, List.setIfInBounds_toArray, List.set_cons_zero, List.set_cons_succ]
          generalize fresh k d t hk = x0 at *
          go_wp2_with fail
          go_loopw [14] (fun vi wr => ∃ (i : Nat) (x : Wt) (qa qb : Value), i ≤ n2 ∧ i ≤ 40 ∧ vi = .int .i64 i ∧ Hid (Two B wr g1 g2 p1 p2 x x qa qb) ∧ Hid (Below B w wr)) (fun vi _ => 40 - (intOf vi).toNat)
          case atStart => exact ⟨0, _, _, _, Nat.zero_le _, Nat.zero_le _, rfl, HT, HB3⟩
          case round =>
            clear HT HB3
            obtain ⟨i, x, qa, qb, hi, hi40, rfl, HO, HB⟩ := hrel
            by_cases h1 : i < n2
            · have h1i : (i : Int) < n2 := by omega
              by_cases h2 : i < 40
              · have h2i : (i : Int) < 40 := by omega
                obtain ⟨b, o, rfl, hb, hct, hcl⟩ := ac_cells HS2.out i (by rw [HN2.out]; exact h1)
                have HA := Lib.hid (HO2.out (xs2[i]'(by rw [HN2.out]; exact h1)) (List.getElem_mem _))
                obtain ⟨ac, hac⟩ : ∃ ac, ac = xs2[i]'(by rw [HN2.out]; exact h1) := ⟨_, rfl⟩
                rw [← hac] at hct hcl HA
                have HCT := Lib.hid hct
                have HBb : Hid (b < B) := by show _ < _; rw [HBw.out]; exact hb
                have hclr : wr.cell? ⟨b, o + i * 31 + 30, none⟩ = some (.slice ac.q ac.ws.length ac.c) := (cellB HB.out HBb.out).trans hcl
                have hAr := HA.out.below (show Below w.heap.size w wr from HBw.out ▸ HB.out)
                have KC := Lib.hid (cut_any14 ac.q ac.ws.length ac.c ac.ws wr rfl hAr.2.2.1 hAr.2.2.2.1)
                clear hct hcl hac hb hAr
                go_upto_region 13 with (go_at_call 8; (refine KC.out.mono ?_); rintro e W5 ⟨gv, rfl, hv, hb⟩; have HV := Lib.hid hv; have HT5 := Lib.hid (HO.out.below hb); have HB5 := Lib.hid (HB.out.trans (hb.mono (HLE.out _ HB.out))); clear hv hb)
                clear hclr KC
                obtain ⟨x', hx'⟩ : ∃ x', x' = (pubP x ac.t (srt (cutL ac.ws))).1 := ⟨_, rfl⟩
                have HX' := Lib.hid hx'
                clear hx'
                refine wp_region_chain (fun r v => Below B w v ∧ match r with | 0 => Two B v g1 g2 p1 p2 x x qa qb ∧ OwnE wrC 58 35 v wr.heap.size gv (cutL ac.ws) | 1 => ∃ qa', Two B v g1 g2 p1 p2 x' x qa' qb ∧ OwnE wrC 58 35 v wr.heap.size gv (cutL ac.ws) | _ => ∃ qa' qb', Two B v g1 g2 p1 p2 x' x' qa' qb')
                  [some (68, .slice (some ⟨b, o, none⟩) n2 c2), some (69, .int .i64 (i : Int)), some (70, .pointer (some ⟨b, o + i * 31, none⟩)), some (71, .pointer (some ⟨b, o + i * 31 + 29, none⟩)), some (72, .int .u64 ac.t), some (73, gv), some (74, .int .i64 ((pubP x ac.t (srt (cutL ac.ws))).2 : Int)), some (75, .slice (some ⟨b, o, none⟩) n2 c2), some (76, .int .i64 (i : Int)), some (77, .pointer (some ⟨b, o + i * 31, none⟩)), some (78, .pointer (some ⟨b, o + i * 31 + 29, none⟩)), some (79, .int .u64 ac.t), some (80, gv), some (81, .int .i64 ((pubP x ac.t (srt (cutL ac.ws))).2 : Int)), some (82, .bool false)] [6, 13]
                  (by kernel_rfl) (by kernel_rfl) rfl (by simp) (by simp) (by decide) (by decide) (fun r hr => by have h2 : r + 1 < 2 := hr; obtain rfl : r = 0 := (by omega); show _ = true; kernel_rfl) ⟨HB5.out.trans (Below.refl _ _).drew, HT5.out.below (Below.refl _ _).drew, HV.out.below (Below.refl _ _).drew⟩ ?_ ?_ ?_
                · intro j hj hE a v r hfr hdep hC hkk K hK
                  have hj15 : j < 15 := hj
                  obtain rfl | rfl | rfl | rfl | rfl | rfl | rfl | rfl | rfl | rfl | rfl | rfl | rfl | rfl | rfl : j = 0 ∨ j = 1 ∨ j = 2 ∨ j = 3 ∨ j = 4 ∨ j = 5 ∨ j = 6 ∨ j = 7 ∨ j = 8 ∨ j = 9 ∨ j = 10 ∨ j = 11 ∨ j = 12 ∨ j = 13 ∨ j = 14 := by omega
                  · exact wpOp_mv rfl rfl (.tmp 1) rfl _ (hfr.off 1 (by simp)) hK
                  · exact wpOp_mv rfl rfl (.tmp 14) rfl _ (hfr.off 14 (by simp)) hK
                  · exact wpOp_ix rfl rfl 22 44 (.tmp 68) (.tmp 69) rfl Try.underlying22 31 sizAc b o n2 c2 i (hdep 0 (by kernel_rfl) 68 _ rfl) (hdep 1 (by kernel_rfl) 69 _ rfl) h1 hK
                  · exact wpOp_val rfl rfl (exec_fA4 (.tmp 70) rfl b (o + i * 31) (hdep 2 (by kernel_rfl) 70 _ rfl)) hK
                  · exact wpOp_val rfl rfl (exec_ld1 33 ag33 (.tmp 71) rfl b (o + i * 31 + 29) (.int .u64 ac.t) (hdep 3 (by kernel_rfl) 71 _ rfl) ((cellB hC.1 HBb.out).trans HCT.out)) hK
                  · exact wpOp_mv rfl rfl (.tmp 15) rfl _ (hfr.off 15 (by simp)) hK
                  · exact absurd (by simp) hE
                  · exact wpOp_mv rfl rfl (.tmp 1) rfl _ (hfr.off 1 (by simp)) hK
                  · exact wpOp_mv rfl rfl (.tmp 14) rfl _ (hfr.off 14 (by simp)) hK
                  · exact wpOp_ix rfl rfl 22 44 (.tmp 75) (.tmp 76) rfl Try.underlying22 31 sizAc b o n2 c2 i (hdep 7 (by kernel_rfl) 75 _ rfl) (hdep 8 (by kernel_rfl) 76 _ rfl) h1 hK
                  · exact wpOp_val rfl rfl (exec_fA4 (.tmp 77) rfl b (o + i * 31) (hdep 9 (by kernel_rfl) 77 _ rfl)) hK
                  · exact wpOp_val rfl rfl (exec_ld1 33 ag33 (.tmp 78) rfl b (o + i * 31 + 29) (.int .u64 ac.t) (hdep 10 (by kernel_rfl) 78 _ rfl) ((cellB hC.1 HBb.out).trans HCT.out)) hK
                  · exact wpOp_mv rfl rfl (.tmp 15) rfl _ (hfr.off 15 (by simp)) hK
                  · exact absurd (by simp) hE
                  · exact wpOp_val rfl rfl (exec_neqI (.tmp 74) (.tmp 81) rfl _ (hdep 6 (by kernel_rfl) 74 _ rfl) (hdep 13 (by kernel_rfl) 81 _ rfl)) hK
                · intro r hr a v hfr hdep hC K hK
                  have hr2 : r < 2 := hr
                  obtain rfl | rfl : r = 0 ∨ r = 1 := by omega
                  · refine wpOp_call rfl rfl (exec_calls rfl (enters_of Try.func7 (by kernel_rfl) rfl) (vs := #[.pointer (some ⟨g1, 0, none⟩), .int .u64 ac.t, gv]) (by simp [show a.eval (.tmp 9) = _ from hfr.off 9 (by simp), show a.eval (.tmp 72) = _ from hdep 4 (by kernel_rfl) 72 _ rfl, show a.eval (.tmp 73) = _ from hdep 5 (by kernel_rfl) 73 _ rfl]) v) (pub_two B g1 g2 p1 p2 wr.heap.size x x qa qb ac.t gv (cutL ac.ws) v hC.2.1 hC.2.2 (cutL_len _)) ?_
                    rintro e w' ⟨rfl, q', ho, hv, hb⟩
                    rw [← HX'.out] at ho
                    exact ⟨_, rfl, hK w' ⟨hC.1.trans hb, q', ho, hv⟩⟩
                  · obtain ⟨hb0, qa', ho0, hv0⟩ := hC
                    refine wpOp_call rfl rfl (exec_calls rfl (enters_of Try.func7 (by kernel_rfl) rfl) (vs := #[.pointer (some ⟨g2, 0, none⟩), .int .u64 ac.t, gv]) (by simp [show a.eval (.tmp 10) = _ from hfr.off 10 (by simp), show a.eval (.tmp 79) = _ from hdep 11 (by kernel_rfl) 79 _ rfl, show a.eval (.tmp 80) = _ from hdep 12 (by kernel_rfl) 80 _ rfl]) v) (pub_two B g2 g1 p2 p1 wr.heap.size x x' qb qa' ac.t gv (cutL ac.ws) v ho0.swap hv0 (cutL_len _)) ?_
                    rintro e w' ⟨rfl, q', ho, hv, hb⟩
                    rw [← HX'.out] at ho
                    exact ⟨_, rfl, hK w' ⟨hb0.trans hb, qa', q', ho.swap⟩⟩
                · intro v hC
                  obtain ⟨hb, qa', qb', ho⟩ := hC
                  have HT6 := Lib.hid ho
                  have HB6 := Lib.hid hb
                  clear hb ho
                  simp only [puts, List.filterMap_cons, List.filterMap_nil, _root_.id, List.setIfInBounds_toArray, List.set_cons_zero, List.set_cons_succ]
                  go_wp2_with fail
                  go_roundw
                  case rel => exact ⟨i + 1, x', qa', qb', by omega, by omega, by go_num, HT6, HB6⟩
                  case measure => simp [intOf]; omega
              · have h2i : ¬ (i : Int) < 40 := by omega
                have KD1 := Lib.hid (drain_two B g1 g2 p1 p2 x x qa qb wr HO.out)
                have HQx := Lib.hid HO.out.qb
                clear HO
                go_upto_region 16 with (go_at_call 10; (refine KD1.out.mono ?_); rintro e W6 ⟨s1, e1, rfl, h3, h4, h5, h6, h7, h8, m1, m2, m3, l1, l2, l3, hb⟩; have KD2 := Lib.hid (drain_last B g2 p2 x qb W6 h7 h5 HQx.out (HLE.out _ (HB.out.trans hb))); have HB6 := Lib.hid (HB.out.trans hb); have HF := Lib.hid (And.intro h3 (And.intro h4 (And.intro h6 (And.intro h7 (And.intro h8 (And.intro m1 (And.intro m2 (And.intro m3 (And.intro l1 (And.intro l2 l3)))))))))); clear h3 h4 h5 h6 h7 h8 m1 m2 m3 l1 l2 l3 hb)
                clear KD1 HB
                go_upto_region 17 with (go_at_call 10; (refine KD2.out.mono ?_); rintro e W7 ⟨s2, e2, rfl, h3, h4, h5, hb⟩; have HB7 := Lib.hid (HB6.out.trans hb); have HS2 := Lib.hid h3; have HC2 := Lib.hid h4; have HT7 := Lib.hid h5; clear h3 h4 h5 hb)
                have HC1 : Hid (W7.cell? ⟨p1, 28, none⟩ = some (.bool x.stop)) := by
                  obtain ⟨h3, h4, h6, h7, h8, m1, m2, m3, l1, l2, l3⟩ := HF.out
                  exact (cell_of (HT7.out.block p1 l1 (by simpa using m3)) 28).trans h8
                have HG1 : Hid (W7.cell? ⟨g1, 0, none⟩ = some (.pointer (some ⟨p1, 0, none⟩))) := by
                  obtain ⟨h3, h4, h6, h7, h8, m1, m2, m3, l1, l2, l3⟩ := HF.out
                  exact (cell_of (HT7.out.block g1 l2 (by simpa using m1)) 0).trans h6
                have HG2 : Hid (W7.cell? ⟨g2, 0, none⟩ = some (.pointer (some ⟨p2, 0, none⟩))) := by
                  obtain ⟨h3, h4, h6, h7, h8, m1, m2, m3, l1, l2, l3⟩ := HF.out
                  exact (cell_of (HT7.out.block g2 l3 (by simpa using m2)) 0).trans h7
                have HS1 : Hid (SlAt evC 28 W7 s1 x.queue) := by
                  obtain ⟨h3, h4, h6, h7, h8, m1, m2, m3, l1, l2, l3⟩ := HF.out
                  exact slat_turn h3 HT7.out h4
                have K1 : Hid (Calls Try.prog 11 #[.pointer (some ⟨g1, 0, none⟩), .int .i64 0] W7 fun e w' => e = .returned (.bool x.stop) ∧ w' = W7) := stopped_any g1 0 (by omega) p1 x.stop W7 HG1.out HC1.out
                have K2 : Hid (Calls Try.prog 11 #[.pointer (some ⟨g2, 0, none⟩), .int .i64 0] W7 fun e w' => e = .returned (.bool x.stop) ∧ w' = W7) := stopped_any g2 0 (by omega) p2 x.stop W7 HG2.out HC2.out
                clear KD2 HF HT7 HB6 HC1 HC2 HG1 HG2
                obtain ⟨n, hnq⟩ : ∃ n, n = x.queue.length := ⟨_, rfl⟩
                rw [← hnq]
                have HNq := Lib.hid hnq
                have hn13 : n ≤ 13 := by rw [hnq]; exact HQx.out.1
                clear hnq HQx
                obtain ⟨st, hst⟩ : ∃ st, st = x.stop := ⟨_, rfl⟩
                rw [← hst] at K1 K2
                clear hst
                go_upto_region 19 with (first
                  | (go_at_call 11; (with_reducible refine K1.out.mono ?_); rintro e W8 ⟨rfl, rfl⟩)
                  | (go_at_call 11; (with_reducible refine K2.out.mono ?_); rintro e W8 ⟨rfl, rfl⟩))
                clear K1 K2
                go_wp2_with fail
                go_loopw [20] (fun vi wr => ∃ i : Nat, i ≤ n ∧ vi = .int .i64 i ∧ Hid (SlAt evC 28 wr s1 x.queue) ∧ Hid (SlAt evC 28 wr s2 x.queue) ∧ Hid (Below B w wr)) (fun vi _ => n - (intOf vi).toNat)
                case atStart => exact ⟨0, Nat.zero_le _, rfl, HS1, HS2, HB7⟩
                case round =>
                  clear HS1 HS2 HB7
                  obtain ⟨i, hi, rfl, HS1, HS2, HB7⟩ := hrel
                  by_cases h1 : i < n
                  · have h1i : (i : Int) < n := by omega
                    have hil : i < x.queue.length := by rw [← HNq.out]; exact h1
                    obtain ⟨b1, o1, rfl, hb1, hr1⟩ := HS1.out i hil
                    obtain ⟨b2, o2, rfl, hb2, hr2⟩ := HS2.out i hil
                    obtain ⟨ev, hev⟩ : ∃ ev, ev = x.queue[i] := ⟨_, rfl⟩
                    rw [← hev] at hr1 hr2
                    have HR1 := Lib.hid hr1
                    have HR2 := Lib.hid hr2
                    clear hev hr1 hr2
                    go_upto_region 22 with fail
                    refine wp_region_quiet_below (by kernel_rfl) (by kernel_rfl) ?_
                    repeat (first
                      | (refine wq_ldr rfl 52 (.tmp 123) rfl b1 (o1 + i * 28) (evC ev) _ Try.underlying52 rfl (by rw [sizEv, evC_len]) rfl HR1.out hb1 ?_; simp only [Act.put, List.setIfInBounds_toArray, List.set_cons_zero, List.set_cons_succ])
                      | (refine wq_ldr rfl 52 (.tmp 127) rfl b2 (o2 + i * 28) (evC ev) _ Try.underlying52 rfl (by rw [sizEv, evC_len]) rfl HR2.out hb2 ?_; simp only [Act.put, List.setIfInBounds_toArray, List.set_cons_zero, List.set_cons_succ])
                      | (refine wq_val (.bool false) rfl (fun w => exec_neqEv w (.tmp 124) (.tmp 128) rfl ev rfl rfl) ?_; simp only [Act.put, List.setIfInBounds_toArray, List.set_cons_zero, List.set_cons_succ])
                      | go_big_quiet_step (fail))
                    refine wpQuiet_nil ?_
                    rintro _ ⟨⟨dq, osq⟩, rfl⟩
                    have hbr := below_regrown wr dq osq
                    have HS1' := Lib.hid (HS1.out.below hbr)
                    have HS2' := Lib.hid (HS2.out.below hbr)
                    have HB8 := Lib.hid (HB7.out.trans (hbr.mono (HLE.out _ HB7.out)))
                    clear hbr
                    go_wp2_with fail
                    go_roundw
                    case rel => exact ⟨i + 1, by omega, by go_num, HS1', HS2', HB8⟩
                    case measure => simp [intOf]; omega
                  · have h1i : ¬ (i : Int) < n := by omega
                    have KK := Lib.hid (known_any wr)
                    go_wp2_with (go_at_call 6; (refine KK.out.mono ?_); rintro e W9 ⟨rfl, hb⟩; have HB9 := Lib.hid (HB7.out.trans (hb.mono (HLE.out _ HB7.out))); clear hb)
                    go_ret
                    exact ⟨rfl, HBw.out ▸ HB9.out⟩
            · have h1i : ¬ (i : Int) < n2 := by omega
              have KD1 := Lib.hid (drain_two B g1 g2 p1 p2 x x qa qb wr HO.out)
              have HQx := Lib.hid HO.out.qb
              clear HO
              go_upto_region 16 with (go_at_call 10; (refine KD1.out.mono ?_); rintro e W6 ⟨s1, e1, rfl, h3, h4, h5, h6, h7, h8, m1, m2, m3, l1, l2, l3, hb⟩; have KD2 := Lib.hid (drain_last B g2 p2 x qb W6 h7 h5 HQx.out (HLE.out _ (HB.out.trans hb))); have HB6 := Lib.hid (HB.out.trans hb); have HF := Lib.hid (And.intro h3 (And.intro h4 (And.intro h6 (And.intro h7 (And.intro h8 (And.intro m1 (And.intro m2 (And.intro m3 (And.intro l1 (And.intro l2 l3)))))))))); clear h3 h4 h5 h6 h7 h8 m1 m2 m3 l1 l2 l3 hb)
              clear KD1 HB
              go_upto_region 17 with (go_at_call 10; (refine KD2.out.mono ?_); rintro e W7 ⟨s2, e2, rfl, h3, h4, h5, hb⟩; have HB7 := Lib.hid (HB6.out.trans hb); have HS2 := Lib.hid h3; have HC2 := Lib.hid h4; have HT7 := Lib.hid h5; clear h3 h4 h5 hb)
              have HC1 : Hid (W7.cell? ⟨p1, 28, none⟩ = some (.bool x.stop)) := by
                obtain ⟨h3, h4, h6, h7, h8, m1, m2, m3, l1, l2, l3⟩ := HF.out
                exact (cell_of (HT7.out.block p1 l1 (by simpa using m3)) 28).trans h8
              have HG1 : Hid (W7.cell? ⟨g1, 0, none⟩ = some (.pointer (some ⟨p1, 0, none⟩))) := by
                obtain ⟨h3, h4, h6, h7, h8, m1, m2, m3, l1, l2, l3⟩ := HF.out
                exact (cell_of (HT7.out.block g1 l2 (by simpa using m1)) 0).trans h6
              have HG2 : Hid (W7.cell? ⟨g2, 0, none⟩ = some (.pointer (some ⟨p2, 0, none⟩))) := by
                obtain ⟨h3, h4, h6, h7, h8, m1, m2, m3, l1, l2, l3⟩ := HF.out
                exact (cell_of (HT7.out.block g2 l3 (by simpa using m2)) 0).trans h7
              have HS1 : Hid (SlAt evC 28 W7 s1 x.queue) := by
                obtain ⟨h3, h4, h6, h7, h8, m1, m2, m3, l1, l2, l3⟩ := HF.out
                exact slat_turn h3 HT7.out h4
              have K1 : Hid (Calls Try.prog 11 #[.pointer (some ⟨g1, 0, none⟩), .int .i64 0] W7 fun e w' => e = .returned (.bool x.stop) ∧ w' = W7) := stopped_any g1 0 (by omega) p1 x.stop W7 HG1.out HC1.out
              have K2 : Hid (Calls Try.prog 11 #[.pointer (some ⟨g2, 0, none⟩), .int .i64 0] W7 fun e w' => e = .returned (.bool x.stop) ∧ w' = W7) := stopped_any g2 0 (by omega) p2 x.stop W7 HG2.out HC2.out
              clear KD2 HF HT7 HB6 HC1 HC2 HG1 HG2
              obtain ⟨n, hnq⟩ : ∃ n, n = x.queue.length := ⟨_, rfl⟩
              rw [← hnq]
              have HNq := Lib.hid hnq
              have hn13 : n ≤ 13 := by rw [hnq]; exact HQx.out.1
              clear hnq HQx
              obtain ⟨st, hst⟩ : ∃ st, st = x.stop := ⟨_, rfl⟩
              rw [← hst] at K1 K2
              clear hst
              go_upto_region 19 with (first
                | (go_at_call 11; (with_reducible refine K1.out.mono ?_); rintro e W8 ⟨rfl, rfl⟩)
                | (go_at_call 11; (with_reducible refine K2.out.mono ?_); rintro e W8 ⟨rfl, rfl⟩))
              clear K1 K2
              go_wp2_with fail
              go_loopw [20] (fun vi wr => ∃ i : Nat, i ≤ n ∧ vi = .int .i64 i ∧ Hid (SlAt evC 28 wr s1 x.queue) ∧ Hid (SlAt evC 28 wr s2 x.queue) ∧ Hid (Below B w wr)) (fun vi _ => n - (intOf vi).toNat)
              case atStart => exact ⟨0, Nat.zero_le _, rfl, HS1, HS2, HB7⟩
              case round =>
                clear HS1 HS2 HB7
                obtain ⟨i, hi, rfl, HS1, HS2, HB7⟩ := hrel
                by_cases h1 : i < n
                · have h1i : (i : Int) < n := by omega
                  have hil : i < x.queue.length := by rw [← HNq.out]; exact h1
                  obtain ⟨b1, o1, rfl, hb1, hr1⟩ := HS1.out i hil
                  obtain ⟨b2, o2, rfl, hb2, hr2⟩ := HS2.out i hil
                  obtain ⟨ev, hev⟩ : ∃ ev, ev = x.queue[i] := ⟨_, rfl⟩
                  rw [← hev] at hr1 hr2
                  have HR1 := Lib.hid hr1
                  have HR2 := Lib.hid hr2
                  clear hev hr1 hr2
                  go_upto_region 22 with fail
                  refine wp_region_quiet_below (by kernel_rfl) (by kernel_rfl) ?_
                  repeat (first
                    | (refine wq_ldr rfl 52 (.tmp 123) rfl b1 (o1 + i * 28) (evC ev) _ Try.underlying52 rfl (by rw [sizEv, evC_len]) rfl HR1.out hb1 ?_; simp only [Act.put, List.setIfInBounds_toArray, List.set_cons_zero, List.set_cons_succ])
                    | (refine wq_ldr rfl 52 (.tmp 127) rfl b2 (o2 + i * 28) (evC ev) _ Try.underlying52 rfl (by rw [sizEv, evC_len]) rfl HR2.out hb2 ?_; simp only [Act.put, List.setIfInBounds_toArray, List.set_cons_zero, List.set_cons_succ])
                    | (refine wq_val (.bool false) rfl (fun w => exec_neqEv w (.tmp 124) (.tmp 128) rfl ev rfl rfl) ?_; simp only [Act.put, List.setIfInBounds_toArray, List.set_cons_zero, List.set_cons_succ])
                    | go_big_quiet_step (fail))
                  refine wpQuiet_nil ?_
                  rintro _ ⟨⟨dq, osq⟩, rfl⟩
                  have hbr := below_regrown wr dq osq
                  have HS1' := Lib.hid (HS1.out.below hbr)
                  have HS2' := Lib.hid (HS2.out.below hbr)
                  have HB8 := Lib.hid (HB7.out.trans (hbr.mono (HLE.out _ HB7.out)))
                  clear hbr
                  go_wp2_with fail
                  go_roundw
                  case rel => exact ⟨i + 1, by omega, by go_num, HS1', HS2', HB8⟩
                  case measure => simp [intOf]; omega
                · have h1i : ¬ (i : Int) < n := by omega
                  have KK := Lib.hid (known_any wr)
                  go_wp2_with (go_at_call 6; (refine KK.out.mono ?_); rintro e W9 ⟨rfl, hb⟩; have HB9 := Lib.hid (HB7.out.trans (hb.mono (HLE.out _ HB7.out))); clear hb)
                  go_ret
                  exact ⟨rfl, HBw.out ▸ HB9.out⟩
end Go.Proofs.Ytnafcbmpjjlhnaa
