/- CritPlays: each answer, and what is held, is the document's. -/
import Derived.Test.YtagdedjclbmlkaaD10
import Derived.Deep.DeepCutAuto
namespace Go.Proofs.Ytagdedjclbmlkaa
open Go.RowKit

theorem wl_bsK {ops : Array Oper} {rest : List Oper} {o : Oper} {a : Act} {w : World} {Q : Exit → Act → World → Prop} (hw : Region.wanted o (yielded ops a.tmps) = true) (x x' : Operand) (ho : o.op = .buildSlice 64 2 #[(0, x), (1, x')]) (y : K25) (hx : a.eval x = .agg (bC y.k)) (hx' : a.eval x' = .agg (bC y.k))
    (h : wpList Try.prog ops Q rest (a.put o.dst (.slice (some ⟨w.heap.size, 0, none⟩) 2 2)) (w.alloc (.cells (encK y ++ encK y).toArray 30))) : wpList Try.prog ops Q (o :: rest) a w :=
  wpList_step fun _ hK => by
    rw [if_pos hw]
    obtain ⟨ie, hie, hz, hsz, hby⟩ := info_parts infoKey
    have hl : (encK y).length = 25 := encK_len y
    have hb := run_buildSlice (P := Try.prog) w 64 30 2 #[(0, .agg (encK y).toArray), (1, .agg (encK y).toArray)] (encK y ++ encK y).toArray ie (.agg (bC z25)) Try.underlying64 hie hz (by rw [hsz]; omega) (by rw [hsz]; omega) (by
      rw [hsz]
      have := Great.fill_whole (s := 25) (by omega) [.agg (encK y).toArray, .agg (encK y).toArray] ((Array.range (2 * 25)).map ((Value.agg (bC z25)).cells[· % (Value.agg (bC z25)).cells.size]!)) (fun v hv => by
        simp at hv
        rw [hv]
        show (encK y).toArray.size = 25; simp [hl]) (by simp)
      simp only [List.zipIdx_cons, List.zipIdx_nil, List.map_cons, List.map_nil] at this
      rw [this]
      simp [Value.cells])
    have hxe : a.eval x = .agg (encK y).toArray := by rw [hx]; rfl
    have hxe' : a.eval x' = .agg (encK y).toArray := by rw [hx']; rfl
    unfold Oper.wp execOp
    have hp : (#[(0, x), (1, x')].map fun (p : Nat × Operand) => (p.1, a.eval p.2)) = #[(0, Value.agg (encK y).toArray), (1, Value.agg (encK y).toArray)] := by simp [hxe, hxe']
    simp only [ho, Sem.run_bind, hp, hb, Result.andThen_ok]
    exact hK _ _ h
set_option maxRecDepth 100000 in
set_option maxHeartbeats 16000000 in
theorem CritPlays_walk (q0 : Option Addr) (n0 c0 : Nat) (xs : List AC) (k : List UInt8) (w : World) (hn : xs.length = n0) (hn9 : n0 ≤ maxLen) (hq : SlAt acC 27 w q0 xs) (hk : k.length = 25) :
    Calls Try.prog 3 #[.slice q0 n0 c0, .agg (bC k)] w fun e w' => e = .returned (.bool true) ∧ Below w.heap.size w w' := by
  have HN := Lib.hid hn
  have HK := Lib.hid hk
  have HX0 := Lib.hid (heap_alloc_new w (.cells (bC k) 30))
  have HB0 := Lib.hid (below_alloc1 w (.cells (bC k) 30))
  have HQ := Lib.hid (hq.below HB0.out)
  have HN9 := Lib.hid hn9
  clear hn hq hk hn9
  go_enter Try.func3, Try.ntmps3
  go_upto_region 1 with fail
  obtain ⟨kb, hkb⟩ : ∃ kb, kb = w.heap.size := ⟨_, rfl⟩
  rw [← hkb] at HX0 ⊢
  generalize w.alloc (.cells (bC k) 30) = W0 at *
  clear hkb
  go_upto_region 2 with (go_at_call 8; (refine (new_any _).mono ?_); rintro e W1 ⟨rfl, rfl⟩)
  have HS1 : Hid (PlSt W0 W0.heap.size (W0.alloc (.cells #[.pointer none, .int .i64 0] TREE)) none 0 0 [] none 0) :=
    ⟨new_tree (Nat.le_refl _), ⟨rfl, Nat.le_refl _, SlAt.nil _ _, fun a e => (by cases e), fun _ => rfl, fun a e => (by cases e)⟩, rfl, Nat.le_refl _, below_alloc1 _ _⟩
  generalize W0.alloc (.cells #[.pointer none, .int .i64 0] TREE) = W1 at *
  obtain ⟨tb, htb⟩ : ∃ tb, tb = W0.heap.size := ⟨_, rfl⟩
  rw [show PlSt W0 W0.heap.size W1 none 0 0 [] none 0 = PlSt W0 tb W1 none 0 0 [] none 0 by rw [htb]] at HS1
  rw [← htb]
  clear htb
  go_wp2_with fail
  go_loopw [6, 7] (fun vl vi wr => ∃ (i : Nat) (q : Option Addr) (n c : Nat) (ys : List RE) (o : Option T), i ≤ n0 ∧ i ≤ 60 ∧ vi = .int .i64 i ∧ vl = .slice q n c ∧ Hid (PlSt W0 tb wr q n c ys o i)) (fun _ vi _ => 60 - (intOf vi).toNat)
  case atStart => exact ⟨0, none, 0, 0, [], none, Nat.zero_le _, Nat.zero_le _, rfl, rfl, HS1⟩
  case round =>
    obtain ⟨i, q, n, c, ys, o, hi, hi6, rfl, rfl, HS⟩ := hrel
    by_cases h1 : i < n0
    · by_cases h2 : i < 60
      · have h1i : (i : Int) < n0 := by omega
        have h2i : (i : Int) < 60 := by omega
        have hil : i < xs.length := by rw [HN.out]; exact h1
        obtain ⟨x, hx⟩ : ∃ x, x = xs[i] := ⟨_, rfl⟩
        obtain ⟨qb, qo, rfl, hqb, hqr⟩ := (HQ.out.below HS.out.bel) i hil
        rw [← hx] at hqr
        have HRq := Lib.hid hqr
        clear hqr hx
        have HX2 : Hid ((wr.alloc (.cells (acC x).toArray 35)).heap[wr.heap.size]? = some (.cells (acC x).toArray 35 (0, 0))) := heap_alloc_new _ _
        have HS2 := Lib.hid (HS.out.below (below_alloc1 wr (.cells (acC x).toArray 35)))
        go_upto_region 7 with (first
          | ((with_reducible refine gate_ld 35 (.tmp 31) rfl ?_); refine wl_ldr rfl 35 _ rfl qb (qo + i * 27) (acC x) _ Try.underlying35 rfl (by rw [sizAc, acC_len]) rfl HRq.out ?_)
          | ((with_reducible refine gate_st 35 (.tmp 8) _ rfl ?_); refine wl_strn rfl _ _ _ rfl (acC x).toArray az27 _ (by rw [sizAc]; simp [acC_len]) (by rw [az27_sz]; simp [acC_len]) (by simpa [List.all_eq_true] using acC_one x) (by simp [Act.eval]) rfl ?_))
        simp only [Act.put]
        generalize wr.alloc (.cells (acC x).toArray 35) = W2 at *
        obtain ⟨ab, hab⟩ : ∃ ab, ab = wr.heap.size := ⟨_, rfl⟩
        rw [← hab] at HX2 ⊢
        have HXB : Hid (W2.heap[kb]? = some (.cells (bC k) 30 (0, 0))) := (HS2.out.bel.block _ (lt_heap HX0.out)).trans HX0.out
        clear hab HRq HS hqb
        have hra : W2.rangeAt ab 0 (acC x) := range_whole (by simpa using HX2.out)
        have hc0 : W2.cell? ⟨ab, 0, none⟩ = some (.bool x.out) := ac_out hra
        have HKr : Hid (W2.rangeAt ab 1 (bC x.k).toList) := ac_key hra
        have HVr : Hid (W2.cell? ⟨ab, 26, none⟩ = some (.int .i64 x.v)) := by
          have := ac_val hra
          rw [Nat.zero_add] at this
          exact this
        clear hra
        obtain ⟨b, hb⟩ : ∃ b, (findL (ys.map RE.p) x.k).isSome = b := ⟨_, rfl⟩
        have HBb := Lib.hid hb
        clear hb
        go_upto_if 34 with fail
        go_cut [6] (fun l wx => ∃ (q : Option Addr) (n c : Nat) (ys : List RE) (o : Option T), l = .slice q n c ∧ Hid (PlSt W0 tb wx q n c ys o (i + 1)))
        case first =>
          cases hxo : x.out with
          | true =>
            go_upto_region 9 with (first
              | ((with_reducible refine gate_ld 30 (.tmp 37) rfl ?_); refine wl_ldr rfl 30 _ rfl ab 1 (bC x.k).toList _ Try.underlying30 rfl (by rw [sizKey]; simp [bC, x.hk]) rfl HKr.out ?_)
              | (go_at_call 10; (refine (of06_key x.k _ x.hk).mono ?_); rintro e W3 ⟨rfl, hb3⟩; have HS3 := Lib.hid (HS2.out.below hb3); have HK3 : Hid (W3.rangeAt ab 1 (bC x.k).toList) := range_of_block HKr.out (hb3.block _ (lt_heap HX2.out)); have HL3 : Hid (ab < W3.heap.size) := Nat.lt_of_lt_of_le (lt_heap HX2.out) hb3.size; clear hb3)
              | (go_at_call 9; (refine (pl_rdel x.k x.hk HS3.out (by omega) b HBb.out).mono ?_); rintro e W4 ⟨q', n', c', ys', rfl, hR, ha, hb4⟩; have HS4 := Lib.hid (HS3.out.below hb4); have HR4 := Lib.hid hR; have HA4 := Lib.hid ha; have HK4 : Hid (W4.rangeAt ab 1 (bC x.k).toList) := range_of_block HK3.out (hb4.block _ HL3.out); clear hb4 hR ha))
            clear HS2 HS3 HK3 HL3 HKr HVr HX2 hc0
            cases b with
            | true =>
              go_wp2_with (first
                | ((with_reducible refine gate_ld 30 (.tmp 46) rfl ?_); refine wl_ldr rfl 30 _ rfl ab 1 (bC x.k).toList _ Try.underlying30 rfl (by rw [sizKey]; simp [bC, x.hk]) rfl HK4.out ?_)
                | ((with_reducible refine gate_ld 30 (.tmp 48) rfl ?_); refine wl_ldr rfl 30 _ rfl ab 1 (bC x.k).toList _ Try.underlying30 rfl (by rw [sizKey]; simp [bC, x.hk]) rfl HK4.out ?_)
                | ((with_reducible refine gate_op (.buildSlice 64 2 #[(0, .tmp 47), (1, .tmp 49)]) rfl ?_); refine wl_bsK rfl (.tmp 47) (.tmp 49) rfl ⟨x.k, x.hk⟩ rfl rfl ?_)
                | (go_at_call 11; (refine (pl_del ⟨x.k, x.hk⟩ HS4.out (by omega) q' n' c' ys' HR4.out HA4.out 1 (by rw [HBb.out]; rfl)).mono ?_); rintro e W6 ⟨rfl, o', hs6⟩; have HS6 := Lib.hid hs6; clear hs6))
              go_meet
              exact ⟨q', n', c', ys', o', rfl, HS6.out.more (by omega)⟩
            | false =>
              go_wp2_with (first
                | ((with_reducible refine gate_ld 30 (.tmp 46) rfl ?_); refine wl_ldr rfl 30 _ rfl ab 1 (bC x.k).toList _ Try.underlying30 rfl (by rw [sizKey]; simp [bC, x.hk]) rfl HK4.out ?_)
                | ((with_reducible refine gate_ld 30 (.tmp 48) rfl ?_); refine wl_ldr rfl 30 _ rfl ab 1 (bC x.k).toList _ Try.underlying30 rfl (by rw [sizKey]; simp [bC, x.hk]) rfl HK4.out ?_)
                | ((with_reducible refine gate_op (.buildSlice 64 2 #[(0, .tmp 47), (1, .tmp 49)]) rfl ?_); refine wl_bsK rfl (.tmp 47) (.tmp 49) rfl ⟨x.k, x.hk⟩ rfl rfl ?_)
                | (go_at_call 11; (refine (pl_del ⟨x.k, x.hk⟩ HS4.out (by omega) q' n' c' ys' HR4.out HA4.out 0 (by rw [HBb.out]; rfl)).mono ?_); rintro e W6 ⟨rfl, o', hs6⟩; have HS6 := Lib.hid hs6; clear hs6))
              go_meet
              exact ⟨q', n', c', ys', o', rfl, HS6.out.more (by omega)⟩
          | false =>
            go_upto_region 15 with fail
            have hbd : Below W2.heap.size W2 W2.drew := ⟨rfl, rfl, rfl, Nat.le_refl _, fun _ _ => rfl⟩
            refine wp_region_held_drew (S := fun w' => Below W2.heap.size W2 w') (by kernel_rfl) hbd (fun _ => ?_)
            show wpAnyH Try.prog Region.Mode.any _ _ _ 12 #[false, false, false, false, false, false, false, false, false, false, false, false] _ _
            generalize W2.drew = Wd at *
            refine takeD (i := 0) (v := .slice q n c) 55 rfl rfl (by kernel_rfl) (by kernel_rfl) (by kernel_rfl) (fun _ _ _ h => h) (Or.inl ⟨rfl, fun w' hS => rfl⟩) hbd ?_
            simp only [Act.put, List.setIfInBounds_toArray, List.set_cons_zero, List.set_cons_succ]
            refine takeD (i := 1) (v := .pointer (some ⟨ab, 1, none⟩)) 56 rfl rfl (by kernel_rfl) (by kernel_rfl) (by kernel_rfl) (fun _ _ _ h => h) (Or.inl ⟨rfl, fun w' hS => by kernel_rfl⟩) hbd ?_
            simp only [Act.put, List.setIfInBounds_toArray, List.set_cons_zero, List.set_cons_succ]
            refine takeD (i := 2) (v := .agg (bC x.k)) 57 rfl rfl (by kernel_rfl) (by kernel_rfl) (by kernel_rfl) (fun _ _ _ h => h) (Or.inl ⟨rfl, fun w' hS => exec_ldr 30 (.tmp 56) rfl ab 1 (bC x.k).toList _ Try.underlying30 rfl (by rw [sizKey]; simp [bC, x.hk]) rfl (range_of_block HKr.out (hS.block _ (lt_heap HX2.out)))⟩) hbd ?_
            simp only [Act.put, List.setIfInBounds_toArray, List.set_cons_zero, List.set_cons_succ]
            refine takeD (i := 4) (v := .pointer (some ⟨ab, 26, none⟩)) 59 rfl rfl (by kernel_rfl) (by kernel_rfl) (by kernel_rfl) (fun _ _ _ h => h) (Or.inl ⟨rfl, fun w' hS => by kernel_rfl⟩) hbd ?_
            simp only [Act.put, List.setIfInBounds_toArray, List.set_cons_zero, List.set_cons_succ]
            refine takeD (i := 5) (v := .int .i64 x.v) 60 rfl rfl (by kernel_rfl) (by kernel_rfl) (by kernel_rfl) (fun _ _ _ h => h) (Or.inl ⟨rfl, fun w' hS => exec_ld1G 3 ag3 (.tmp 59) rfl ab 26 _ rfl ((cell_of (hS.block _ (lt_heap HX2.out)) 26).trans HVr.out)⟩) hbd ?_
            simp only [Act.put, List.setIfInBounds_toArray, List.set_cons_zero, List.set_cons_succ]
            refine oneH 3 (by kernel_rfl) (wpOp_enter rfl rfl (exec_call1 rfl (enters_of Try.func10 (by kernel_rfl) rfl) (x := .tmp 57) (v := .agg (bC x.k)) rfl Wd) (of06_key x.k Wd x.hk) (fun W3 hb3 => ?_))
            have hb23 : Below W2.heap.size W2 W3 := hbd.trans (hb3.mono hbd.size)
            refine ⟨hb23, ?_⟩
            simp only [Act.put, List.setIfInBounds_toArray, List.set_cons_zero, List.set_cons_succ]
            refine oneH 6 (by kernel_rfl) (wpOp_call rfl rfl (exec_calls rfl (enters_of Try.func12 (by kernel_rfl) rfl) (vs := #[.slice q n c, .agg (rkC x.k).toArray, .int .i64 x.v]) (by simp [Act.eval]) W3) (pl_rput x.k x.v x.hk (HS2.out.below hb23) (by omega) b HBb.out) ?_)
            rintro e W4 ⟨q', n', c', ys', rfl, hR, ha, hb4⟩
            have hb24 : Below W2.heap.size W2 W4 := hb23.trans (hb4.mono hb23.size)
            refine ⟨_, rfl, hb24, ?_⟩
            simp only [Act.put, List.setIfInBounds_toArray, List.set_cons_zero, List.set_cons_succ]
            refine takeD (i := 7) (v := .tuple #[.slice q' n' c', .bool (!b)]) 54 rfl rfl (by kernel_rfl) (by kernel_rfl) (by kernel_rfl) (fun _ _ _ h => h) (Or.inl ⟨rfl, fun w' hS => rfl⟩) hb24 ?_
            simp only [Act.put, List.setIfInBounds_toArray, List.set_cons_zero, List.set_cons_succ]
            refine takeD (i := 8) (v := .slice q' n' c') 62 rfl rfl (by kernel_rfl) (by kernel_rfl) (by kernel_rfl) (fun _ _ _ h => h) (Or.inl ⟨rfl, fun w' hS => rfl⟩) hb24 ?_
            simp only [Act.put, List.setIfInBounds_toArray, List.set_cons_zero, List.set_cons_succ]
            refine takeD (i := 9) (v := .bool (!b)) 63 rfl rfl (by kernel_rfl) (by kernel_rfl) (by kernel_rfl) (fun _ _ _ h => h) (Or.inl ⟨rfl, fun w' hS => rfl⟩) hb24 ?_
            simp only [Act.put, List.setIfInBounds_toArray, List.set_cons_zero, List.set_cons_succ]
            refine oneH 10 (by kernel_rfl) (wpOp_as rfl rfl (.tmp 62) rfl _ rfl ⟨hb24, ?_⟩)
            refine oneH 11 (by kernel_rfl) (wpOp_as rfl rfl (.tmp 63) rfl _ rfl ⟨hb24, ?_⟩)
            refine wpAnyH_done (by kernel_rfl) ?_ _
            have HS4 := Lib.hid (HS2.out.below hb24)
            have HR4 := Lib.hid hR
            have HA4 := Lib.hid ha
            have HK4 : Hid (W4.rangeAt ab 1 (bC x.k).toList) := range_of_block HKr.out (hb24.block _ (lt_heap HX2.out))
            have hv4 : W4.cell? ⟨ab, 26, none⟩ = some (.int .i64 x.v) := (cell_of (hb24.block _ (lt_heap HX2.out)) 26).trans HVr.out
            clear hbd hb3 hb23 hb4 hb24 hR ha HS2 HKr HVr HX2 hc0 HXB
            simp only [Act.put, List.getElem_toArray, List.getElem_cons_zero, List.getElem_cons_succ, List.setIfInBounds_toArray, List.set_cons_zero, List.set_cons_succ]
            go_wp2_with (first
              | ((with_reducible refine gate_ld 30 (.tmp 66) rfl ?_); refine wl_ldr rfl 30 _ rfl ab 1 (bC x.k).toList _ Try.underlying30 rfl (by rw [sizKey]; simp [bC, x.hk]) rfl HK4.out ?_)
              | (go_at_call 13; (refine (pl_put x.k x.v x.hk HS4.out (by omega) q' n' c' ys' HR4.out HA4.out b HBb.out).mono ?_); rintro e W6 ⟨rfl, o', hs6⟩; have HS6 := Lib.hid hs6; clear hs6))
            go_meet
            exact ⟨q', n', c', ys', o', rfl, HS6⟩
        case rest =>
          clear HX2 HXB HS2 HKr HVr hc0 HBb
          obtain ⟨q2, n2, c2, ys2, o2, rfl, HSc⟩ := hcut
          have HXc : Hid (wc.heap[kb]? = some (.cells (bC k) 30 (0, 0))) := (HSc.out.bel.block _ (lt_heap HX0.out)).trans HX0.out
          obtain ⟨g, hg⟩ : ∃ g, g = getL (allO o2) k := ⟨_, rfl⟩
          have HGg := Lib.hid hg
          clear hg
          go_upto_region 21 with (first
            | ((with_reducible refine gate_ld 30 (.tmp 3) rfl ?_); refine wl_ldr rfl 30 _ rfl kb 0 (bC k).toList _ Try.underlying30 rfl (by rw [sizKey]; simp [bC, HK.out]) rfl (range_whole (by first | (simpa using HXc.out) | (simpa using HX7.out))) ?_)
            | (go_at_call 14; (refine (pl_get k HK.out HSc.out).mono ?_); rintro e W7 ⟨rfl, hb7⟩; rw [← HGg.out]; unfold getR; have HS7 := Lib.hid (HSc.out.below hb7); have HX7 := Lib.hid ((hb7.block _ (lt_heap HXc.out)).trans HXc.out); clear hb7)
            | (go_at_call 10; (refine (of06_key k _ HK.out).mono ?_); rintro e W8 ⟨rfl, hb8⟩; have HS8 := Lib.hid (HS7.out.below hb8); clear hb8)
            | (go_at_call 15; (refine (pl_rget k HK.out HS8.out (by omega)).mono ?_); rintro e W9 ⟨rfl, hb9⟩; rw [← HGg.out]; unfold getR; have HS9 := Lib.hid (HS8.out.below hb9); clear hb9))
          clear HSc HXc HS7 HX7 HS8
          go_wp2_with (first
            | (go_at_call 16; (refine (holds_any o2 W9 W0.heap.size tb q2 n2 c2 ys2 HS9.out.tree HS9.out.lst HS9.out.all (by have := HS9.out.le; omega)).mono ?_); rintro e W10 ⟨rfl, hb10⟩; have HS10 := Lib.hid (HS9.out.below hb10); clear hb10))
          go_roundw
          case rel => exact ⟨i + 1, q2, n2, c2, ys2, o2, by omega, by omega, by go_num, rfl, HS10⟩
          case measure => simp [intOf]; omega
      · have h1i : (i : Int) < n0 := by omega
        have h2i : ¬ (i : Int) < 60 := by omega
        go_wp2_with (first
          | (go_at_call 17; (refine (known_any _).mono ?_); rintro e W9 ⟨rfl, hb9⟩; have HB9 := Lib.hid (HS.out.bel.trans (hb9.mono HS.out.bel.size)); clear hb9))
        go_ret
        exact ⟨rfl, HB0.out.trans (HB9.out.mono HB0.out.size)⟩
    · have h1i : ¬ (i : Int) < n0 := by omega
      go_wp2_with (first
        | (go_at_call 17; (refine (known_any _).mono ?_); rintro e W9 ⟨rfl, hb9⟩; have HB9 := Lib.hid (HS.out.bel.trans (hb9.mono HS.out.bel.size)); clear hb9))
      go_ret
      exact ⟨rfl, HB0.out.trans (HB9.out.mono HB0.out.size)⟩
end Go.Proofs.Ytagdedjclbmlkaa
