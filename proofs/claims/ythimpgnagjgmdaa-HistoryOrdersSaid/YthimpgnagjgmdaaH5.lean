/- The program's Fits. -/
import Derived.Test.YthimpgnagjgmdaaH4
import Derived.WalkMore
namespace Go.Proofs.Ythimpgnagjgmdaa
open Go.RowKit

theorem ask_in {xs : List Ca} {i : Int} (h : askB (trs xs) i = true) : ∃ (m : Nat) (_ : m < xs.length), i = (m : Int) := by
  unfold askB at h
  rw [Bool.and_eq_true] at h
  obtain ⟨h0, h1⟩ := h
  have h0 : 0 ≤ i := of_decide_eq_true h0
  refine ⟨i.toNat, ?_, by omega⟩
  rcases Nat.lt_or_ge i.toNat xs.length with h | h
  · exact h
  · rw [List.getElem?_eq_none (by rw [trs_len]; exact h)] at h1
    simp at h1
def eI (x : Int) : List Value := [.int .i64 x]
set_option maxRecDepth 100000 in
set_option maxHeartbeats 8000000 in
theorem fits_any (q : Option Addr) (n c : Nat) (xs : List Ca) (r : Option Addr) (k d : Nat) (ord : List Int) (w : World) (hn : xs.length = n) (hq : SlAt caC 51 w q xs) (hk : ord.length = k) (hr : SlAt eI 1 w r ord) (hk30 : k ≤ 30) :
    Calls Try.prog 14 #[.slice q n c, .slice r k d] w fun e w' => ∃ s : Nat × Nat × Bool, e = .returned (.tuple #[.int .i64 (s.1 : Int), .int .i64 (s.2.1 : Int), .bool s.2.2]) ∧ FR (trs xs) ord s ∧ Below w.heap.size w w' := by
  have HN := Lib.hid hn
  have HQ := Lib.hid hq
  have HK := Lib.hid hk
  have HR := Lib.hid hr
  clear hn hq hk hr
  go_enter Try.func14, Try.ntmps14
  go_wp2_with fail
  go_step3
  go_wp2_with fail
  go_step3
  go_wp2_with fail
  go_loopw [7, 8, 9, 15] (fun v7 v8 v9 vi wr => ∃ i : Nat, i ≤ k ∧ v7 = .int .i64 0 ∧ v8 = .int .i64 0 ∧ v9 = .bool true ∧ vi = .int .i64 i ∧ Hid (∀ i' j' (_ : i' < j') (_ : j' < ord.length), i' < i → badB (trs xs) (ord[i']'(by omega)) ord[j'] = false) ∧ Hid (Below w.heap.size w wr)) (fun _ _ _ vi _ => k - (intOf vi).toNat)
  case atStart => exact ⟨0, Nat.zero_le _, rfl, rfl, rfl, rfl, fun _ _ _ _ h => by omega, Below.refl _ _⟩
  case round =>
    obtain ⟨i, hi, rfl, rfl, rfl, rfl, HP, HB⟩ := hrel
    by_cases h1 : i < k
    · have h1i : (i : Int) < k := by omega
      obtain ⟨ob, oo, rfl, hob, hor⟩ := HR.out i (by rw [HK.out]; exact h1)
      obtain ⟨a, ha⟩ : ∃ a, a = ord[i]'(by rw [HK.out]; exact h1) := ⟨_, rfl⟩
      rw [← ha] at hor
      have hoc : wr.cell? ⟨ob, oo + i, none⟩ = some (.int .i64 a) := by
        rw [cellB HB.out hob]
        have := hor 0 _ rfl
        simpa using this
      have KA := Lib.hid (asked_any q n c xs a wr HN.out (HQ.out.below HB.out))
      have HA := Lib.hid ha
      have hor' := hor
      clear ha hor
      cases hask : askB (trs xs) a with
      | false =>
        rw [hask] at KA
        go_wp2_with (go_at_call 28; (refine KA.out.mono ?_); rintro e W2 ⟨rfl, rfl⟩)
        go_roundw
        case rel => exact ⟨i + 1, by omega, rfl, rfl, rfl, by go_num, fun i' j' g g' h => by
          rcases (by omega : i' < i ∨ i' = i) with h | rfl
          · exact HP.out i' j' g g' h
          · simp [badB, ← HA.out, hask], HB⟩
        case measure => simp [intOf]; omega
      | true =>
        rw [hask] at KA
        have HAsk := Lib.hid hask
        clear hask
        go_upto_region 6 with (go_at_call 28; (refine KA.out.mono ?_); rintro e W2 ⟨rfl, rfl⟩)
        clear hoc KA
        have HHo : Hid (∀ v, Below w.heap.size w v → v.cell? ⟨ob, oo + i, none⟩ = some (.int .i64 a)) := fun v hb => by
          rw [cellB hb hob]
          have := hor' 0 _ rfl
          simpa using this
        obtain ⟨ma, hma, hae⟩ := ask_in HAsk.out
        obtain ⟨lb, lo, hlq, hlb, hlr⟩ := HQ.out ma hma
        have HHb : Hid (∀ v, Below w.heap.size w v → v.cell? ⟨lb, lo + ma * 51 + 1, none⟩ = some (.int .i64 (xs[ma]).be)) := fun v hb => by
          rw [cellB hb hlb]
          exact hlr 1 _ (ca_cell _ 1 _ rfl)
        have HMa := Lib.hid hae
        have HMl : Hid (ma < n) := by show _ < _; rw [← HN.out]; exact hma
        have HBe : Hid (∀ d, ((trs xs).getD a.toNat d).1 = (xs[ma]).be) := fun d => by rw [hae]; simp [trs, hma]
        obtain ⟨be, hbe⟩ : ∃ be, be = (xs[ma]).be := ⟨_, rfl⟩
        rw [← hbe] at HHb HBe
        clear hlr hae hor' hbe
        subst hlq
        go_wp2_with fail
        go_loopw [7, 8, 9, 11] (fun v7 v8 v9 vj wr => ∃ j : Nat, i < j ∧ j ≤ k ∧ v7 = .int .i64 0 ∧ v8 = .int .i64 0 ∧ v9 = .bool true ∧ vj = .int .i64 j ∧ Hid (∀ j' (_ : i < j') (_ : j' < j) (_ : j' < ord.length), badB (trs xs) a ord[j'] = false) ∧ Hid (Below w.heap.size w wr)) (fun _ _ _ vj _ => k - (intOf vj).toNat)
        case atStart => exact ⟨i + 1, by omega, by omega, rfl, rfl, rfl, by go_num, fun _ _ _ _ => by omega, HB⟩
        case round =>
          clear HB
          obtain ⟨j, hij, hj, rfl, rfl, rfl, rfl, HJ, HB⟩ := hrel
          by_cases h2 : j < k
          · have h2i : (j : Int) < k := by omega
            obtain ⟨ob2, oo2, hobe, hob2, hor2⟩ := HR.out j (by rw [HK.out]; exact h2)
            simp only [Option.some.injEq, Addr.mk.injEq] at hobe
            obtain ⟨rfl, rfl, _⟩ := hobe
            obtain ⟨b, hb⟩ : ∃ b, b = ord[j]'(by rw [HK.out]; exact h2) := ⟨_, rfl⟩
            rw [← hb] at hor2
            have hoc : wr.cell? ⟨ob, oo + j, none⟩ = some (.int .i64 b) := by
              rw [cellB HB.out hob2]
              have := hor2 0 _ rfl
              simpa using this
            have KA := Lib.hid (asked_any (some ⟨lb, lo, none⟩) n c xs b wr HN.out (HQ.out.below HB.out))
            have HBo := Lib.hid hb
            clear hb hor2
            cases hask : askB (trs xs) b with
            | false =>
              rw [hask] at KA
              go_wp2_with (go_at_call 28; (refine KA.out.mono ?_); rintro e W2 ⟨rfl, rfl⟩)
              go_roundw
              case rel => exact ⟨j + 1, by omega, by omega, rfl, rfl, rfl, by go_num, fun j' g g' g2 => by
                rcases (by omega : j' < j ∨ j' = j) with h | rfl
                · exact HJ.out j' g h g2
                · simp [badB, ← HBo.out, hask], HB⟩
              case measure => simp [intOf]; omega
            | true =>
              rw [hask] at KA
              obtain ⟨mb, hmb, hbe⟩ := ask_in hask
              subst hbe
              obtain ⟨lb2, lo2, hlq, hlb2, hlr⟩ := HQ.out mb hmb
              simp only [Option.some.injEq, Addr.mk.injEq] at hlq
              obtain ⟨rfl, rfl, _⟩ := hlq
              have HRow : Hid (wr.rangeAt lb (lo + mb * 51) (caC xs[mb])) := range_of_block hlr (HB.out.block lb hlb2)
              have hmbn : mb < n := by rw [← HN.out]; exact hmb
              have HBad : Hid (badB (trs xs) a (mb : Int) = (decide (0 ≤ (xs[mb]).en) && decide ((xs[mb]).en < be))) := by
                have h1 : (trs xs).getD mb (0, 0, 0) = ((xs[mb]).be, (xs[mb]).en, (xs[mb]).n) := by simp [trs, hmb]
                show _ = _
                unfold badB
                rw [HAsk.out, hask, HBe.out, Int.toNat_natCast, h1]
                simp
              generalize xs[mb] = y at *
              clear hlr hask
              go_upto_region 11 with (first
                | (go_at_call 28; (refine KA.out.mono ?_); rintro e W2 ⟨rfl, rfl⟩)
                | ((with_reducible refine gate_ld 42 (.tmp 45) rfl ?_); refine wl_ldr rfl 42 _ rfl lb (lo + mb * 51) (caC y) _ Try.underlying42 rfl (by rw [sizCa, caC_len]) rfl HRow.out ?_)
                | ((with_reducible refine gate_st 42 (.tmp 12) _ rfl ?_); refine wl_strn rfl _ _ _ rfl (caC y).toArray cz _ (by rw [sizCa]; simp [caC_len]) (by simp [caC_len, cz]) (by rw [← Array.all_toList]; exact caC_one y) (by simp [Act.eval]) rfl ?_))
              have HB5 := Lib.hid (HB.out.alloc HB.out.size (.cells (caC y).toArray 42))
              have HW5 : Hid (W2.heap.size < (W2.alloc (.cells (caC y).toArray 42)).heap.size) := by show _ < _; simp
              have hce : (W2.alloc (.cells (caC y).toArray 42)).cell? ⟨W2.heap.size, 2, none⟩ = some (.int .i64 y.en) := by rw [cell_blk (heap_alloc_new _ _), List.getElem?_toArray]; exact ca_cell y 2 _ rfl
              have hoa := HHo.out _ HB5.out
              have hbb := HHb.out _ HB5.out
              have hMa := HMa.out
              rw [hMa] at hoa
              have hman : ma < n := HMl.out
              clear hMa KA HRow HB
              generalize W2.alloc (.cells (caC y).toArray 42) = W5 at *
              obtain ⟨en, hen⟩ : ∃ en, en = y.en := ⟨_, rfl⟩
              rw [← hen] at hce HBad
              clear hen
              by_cases h3 : 0 ≤ en
              · by_cases h4 : en < be
                · go_quiet (fail)
                  go_wp2_with fail
                  try rw [Exit.noGoto_ret]
                  refine bodyPost_ret (results_tmp3 rfl _ _ _) rfl ?_
                  have hjo : j < ord.length := by rw [HK.out]; exact h2
                  refine ⟨(i, j, false), rfl, Or.inr ⟨i, j, hij, hjo, rfl, ?_, fun i' j' g g' h => ?_⟩, HB5.out.trans (Turn.below (S := []) ((Turn.refl _ _).drewN _) (by simp) HB5.out.size)⟩
                  · rw [← HA.out, ← HBo.out, HBad.out]; simp [h3, h4]
                  · rcases h with h | ⟨rfl, h⟩
                    · exact HP.out i' j' g g' h
                    · rw [← HA.out]; exact HJ.out j' g h g'
                · go_quiet (fail)
                  go_wp2_with fail
                  go_roundw
                  case rel => exact ⟨j + 1, by omega, by omega, rfl, rfl, rfl, by go_num, fun j' g g' g2 => by
                    rcases (by omega : j' < j ∨ j' = j) with h | rfl
                    · exact HJ.out j' g h g2
                    · rw [← HBo.out, HBad.out]; simp; omega, HB5.out.trans (Turn.below (S := []) ((Turn.refl _ _).drewN _) (by simp) HB5.out.size)⟩
                  case measure => simp [intOf]; omega
              · have hwl : W2.heap.size < W5.heap.size := HW5.out
                simp only [Act.put]
                refine wp_region_quiet_below (by kernel_rfl) (by kernel_rfl) ?_
                repeat (first
                  | go_big_quiet_skip
                  | (refine wq_one rfl 3 (.tmp 47) rfl W2.heap.size 2 (.int .i64 en) ag3 rfl hce hwl ?_; simp only [Act.put, List.setIfInBounds_toArray, List.set_cons_zero, List.set_cons_succ])
                  | go_big_quiet_step (fail))
                refine wpQuiet_nil ?_
                rintro _ ⟨⟨dq, osq⟩, rfl⟩
                have HB6 := Lib.hid (HB5.out.trans ((below_regrown W5 dq osq).mono HB5.out.size))
                go_wp2_with fail
                go_roundw
                case rel => exact ⟨j + 1, by omega, by omega, rfl, rfl, rfl, by go_num, fun j' g g' g2 => by
                  rcases (by omega : j' < j ∨ j' = j) with h | rfl
                  · exact HJ.out j' g h g2
                  · rw [← HBo.out, HBad.out]; simp; omega, HB6⟩
                case measure => simp [intOf]; omega
          · have h2i : ¬ (j : Int) < k := by omega
            go_wp2_with fail
            go_roundw
            case rel => exact ⟨i + 1, by omega, rfl, rfl, rfl, by go_num, fun i' j' g g' h => by
              rcases (by omega : i' < i ∨ i' = i) with h | rfl
              · exact HP.out i' j' g g' h
              · rw [← HA.out]; exact HJ.out j' g (by rw [HK.out] at g'; omega) g', HB⟩
            case measure => simp [intOf]; omega
    · have h1i : ¬ (i : Int) < k := by omega
      go_wp2_with fail
      try rw [Exit.noGoto_ret]
      refine bodyPost_ret (results_tmp3 rfl _ _ _) rfl ?_
      exact ⟨(0, 0, true), rfl, Or.inl ⟨rfl, fun i' j' g g' => HP.out i' j' g g' (by rw [HK.out] at g'; omega)⟩, HB.out⟩
end Go.Proofs.Ythimpgnagjgmdaa
