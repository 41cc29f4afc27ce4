/- The document's Print. -/
import Derived.Test.YtpnmficlebnajaaE8
namespace Go.Proofs.Ytpnmficlebnajaa
open Go.RowKit

theorem isQ (n : List UInt8) : isName (textQ n) = rightB n := by
  unfold textQ
  cases h : rightB n
  · rfl
  · simp only [if_true, textL, h]
    unfold rightB at h
    rw [Bool.and_eq_true] at h
    exact h.1
theorem padQ {n : List UInt8} (h : rightB n = true) : pad (textQ n) = n := by
  unfold textQ
  simp only [h, if_true, textL]
  unfold rightB at h
  rw [Bool.and_eq_true] at h
  exact by simpa using h.2
theorem textQ_le (x : Ent) : (textQ x.n).length ≤ 12 := by
  unfold textQ
  split
  · exact textL_le x
  · simp
theorem rentC_cells {w : World} {b o : Nat} {y : REnt} (h : w.rangeAt b o (rentC y)) : w.cell? ⟨b, o, none⟩ = some (.string y.n) ∧ w.cell? ⟨b, o + 1, none⟩ = some (.string y.t) :=
  ⟨h 0 _ rfl, h 1 _ rfl⟩
theorem line_str (A : List UInt8) (x : Ent) (h : rightB x.n = true) : (⟨A.toArray⟩ : ByteArray) ++ ⟨(textQ x.n).toArray⟩ ++ ⟨#[61]⟩ ++ ⟨(escL x.t.data.toList).toArray⟩ ++ ⟨#[10]⟩ = ⟨(A ++ lineL x).toArray⟩ := by
  apply ByteArray.ext
  simp [lineL, textQ, h]

theorem belowDrew {W w1 : World} (h : Below W.drew.heap.size W.drew w1) : Below W.heap.size W w1 := ⟨h.os, h.tape, h.output, h.size, h.block⟩
theorem conv_row (w : World) (b : Nat) (h : w.heap[b]? = some (.cells #[.int .u8 10] 5)) : (convert 65 9 (.slice (some ⟨b, 0, none⟩) 1 1)).run Try.prog w = .ok (.string ⟨#[10]⟩) w :=
  run_bytes_string w b 0 1 1 [10] (row_of_block h) (by simp)
/-- The region's conversion, by a name: so the walk doesn't try to take it first. -/
def opConv : Oper := { dst := some 63, op := .convert 65 9 (.tmp 62), type := 9, pos := "ref.go:62", after := #[{ on := 15, ground := .data }], guard := none }
theorem catS (a b : ByteArray) (h : a.size + b.size ≤ 9223372036854775807) (w : World) : (binOp .add 9 (.string a) (.string b)).run Try.prog w = .ok (.string (a ++ b)) w := by
  have := run_string_add_sum (P := Try.prog) (w := w) a b h
  simp [binOp, this]

set_option maxRecDepth 100000 in
set_option maxHeartbeats 4000000 in
theorem refPrint_any (q : Option Addr) (l : List Ent) (n cap : Nat) (w : World) (hn : l.length = n) (hc : n ≤ cap) (hm : cap ≤ maxLen) (hq : SlAt rentC 2 w q (l.map toR)) (hs : ∀ x ∈ l, x.t.size ≤ maxLen) :
    Calls Try.prog 10 #[.slice q n cap] w fun e w' => e = .returned (.tuple #[.string ⟨(printT l).toArray⟩, .int .i64 (printE l : Nat)]) ∧ Below w.heap.size w w' := by
  unfold maxLen at hm
  have HQ := Lib.hid hq
  have HS := Lib.hid hs
  have HN := Lib.hid hn
  clear hq hs hn
  go_enter Try.func10, Try.ntmps10
  go_wp2_with fail
  go_loopw [4, 5] (fun o i wr => ∃ k : Nat, k ≤ n ∧ i = .int .i64 k ∧ o = .string ⟨(linesL (l.take k)).toArray⟩ ∧ Hid (errF l k = 0) ∧ Hid (Below w.heap.size w wr)) (fun _ i _ => n - (intOf i).toNat)
  case atStart => exact ⟨0, Nat.zero_le _, rfl, rfl, rfl, Below.refl _ _⟩
  case round =>
    obtain ⟨k, hk, rfl, rfl, HE, HW⟩ := hrel
    by_cases hlt : k < n
    · have hlt' : (k : Int) < n := by omega
      have hk2 : k < l.length := by rw [HN.out]; exact hlt
      have hkm : k < (l.map toR).length := by simpa using hk2
      obtain ⟨b, ob, rfl, hb, hr⟩ := HQ.out k hkm
      rw [List.getElem_map] at hr
      obtain ⟨hcn0, hct0⟩ := rentC_cells (range_of_block hr (HW.out.block b hb))
      have hcn : wr.cell? ⟨b, ob + k * 2, none⟩ = some (.string ⟨(textQ l[k].n).toArray⟩) := hcn0
      have hct : wr.cell? ⟨b, ob + k * 2 + 1, none⟩ = some (.string l[k].t) := hct0
      have hsz := HS.out _ (List.getElem_mem hk2)
      unfold maxLen at hsz
      have hsz' : (l[k].t.size : Int) ≤ 9223372036854775807 := by omega
      have HLN := Lib.hid (linesL_snoc l k hk2)
      have HES := Lib.hid (errF_step hk2 HE.out)
      have HST : Hid (∀ e, behindE (l.take k) l[k] = e → e ≠ 0 → printE l = e ∧ printT l = []) := fun e he hne => printE_stop hk2 HE.out he hne
      have HLL := Lib.hid (lines_le (by omega) HE.out)
      have HQ12 := textQ_le l[k]
      have HLk : Hid ((l.take k).length = k) := by show (l.take k).length = k; rw [List.length_take]; omega
      have HB : Hid (behindE (l.take k) l[k] = if 16 ≤ k then 2 else if rightB l[k].n = false then 15 else if 60 < l[k].t.size then 2 else match (l.take k).getLast? with | some y => if lessL y.n l[k].n then 0 else 8 | none => 0) := by
        show behindE _ _ = _
        rw [behindE, HLk.out]; rfl
      have HIs : Hid (∀ W : World, Calls Try.prog 32 #[.string ⟨(textQ l[k].n).toArray⟩] W fun e w' => e = .returned (.bool (rightB l[k].n)) ∧ W = w') := fun W => by
        have := is_any ⟨(textQ l[k].n).toArray⟩ W (by show (textQ l[k].n).toArray.size ≤ maxLen; unfold maxLen; simp; omega)
        rw [← isQ]; simpa using this
      clear hr hcn0 hct0
      by_cases h16 : 16 ≤ k
      · rw [if_pos h16] at HB
        obtain ⟨HP1, HP2⟩ := HST.out 2 HB.out (by omega)
        have h16' : (16 : Int) ≤ k := by omega
        go_wp2_with fail
        refine bodyPost_ret (results_tmp2 rfl _ _ _) rfl ?_
        exact ⟨by rw [HP1, HP2]; rfl, HW.out⟩
      · rw [if_neg h16] at HB
        have h16' : (k : Int) < 16 := by omega
        cases hrt : rightB l[k].n
        · rw [if_pos hrt] at HB
          rw [hrt] at HIs
          obtain ⟨HP1, HP2⟩ := HST.out 15 HB.out (by omega)
          clear hrt
          generalize (⟨(textQ l[k].n).toArray⟩ : ByteArray) = tq at *
          go_wp2_with (go_at_call 32; (with_reducible refine (HIs.out _).mono ?_); rintro e w1 ⟨rfl, rfl⟩)
          refine bodyPost_ret (results_tmp2 rfl _ _ _) rfl ?_
          exact ⟨by rw [HP1, HP2]; rfl, HW.out⟩
        · rw [if_neg (by rw [hrt]; simp)] at HB
          have HRT := Lib.hid hrt
          rw [hrt] at HIs
          have HLS := Lib.hid (fun A => line_str A l[k] HRT.out)
          have HPQ := Lib.hid (padQ HRT.out)
          clear hrt
          by_cases h60 : 60 < l[k].t.size
          · rw [if_pos h60] at HB
            obtain ⟨HP1, HP2⟩ := HST.out 2 HB.out (by omega)
            have h60' : (60 : Int) < l[k].t.size := by omega
            generalize (⟨(textQ l[k].n).toArray⟩ : ByteArray) = tq at *
            go_wp2_with (go_at_call 32; (with_reducible refine (HIs.out _).mono ?_); rintro e w1 ⟨rfl, rfl⟩)
            refine bodyPost_ret (results_tmp2 rfl _ _ _) rfl ?_
            exact ⟨by rw [HP1, HP2]; rfl, HW.out⟩
          · rw [if_neg h60] at HB
            have h60' : (l[k].t.size : Int) ≤ 60 := by omega
            have HPd : Hid (∀ W : World, Calls Try.prog 34 #[.string ⟨(textQ l[k].n).toArray⟩] W fun e w' => e = .returned (.agg (bC l[k].n)) ∧ Below W.heap.size W w') := fun W => by
              have := pad_any ⟨(textQ l[k].n).toArray⟩ W (by show (textQ l[k].n).toArray.size ≤ maxLen; unfold maxLen; simp; omega)
              rw [show (⟨(textQ l[k].n).toArray⟩ : ByteArray).data.toList = textQ l[k].n from rfl, HPQ.out] at this
              exact this
            have HTo : Hid (∀ W : World, Calls Try.prog 35 #[.string l[k].t] W fun e w' => e = .returned (.string ⟨(escL l[k].t.data.toList).toArray⟩) ∧ Below W.heap.size W w') := fun W => told_any l[k].t W (by omega)
            have ht12 : ((⟨(textQ l[k].n).toArray⟩ : ByteArray).size : Int) ≤ 12 := by show ((textQ l[k].n).toArray.size : Int) ≤ 12; simp; omega
            have he120 : ((⟨(escL l[k].t.data.toList).toArray⟩ : ByteArray).size : Int) ≤ 120 := by
              have := escL_le l[k].t.data.toList
              have h3 : l[k].t.data.toList.length = l[k].t.size := by simp
              show ((escL l[k].t.data.toList).toArray.size : Int) ≤ 120; simp; omega
            have hAl : ((linesL (l.take k)).length : Int) ≤ 2200 := by
              have h1 := HLL.out
              have : k * 134 ≤ 16 * 134 := Nat.mul_le_mul_right _ (by omega)
              omega
            have hbw : b < wr.heap.size := Nat.lt_of_lt_of_le hb HW.out.size
            have hcnd := fun d os => cell_regrown hcn d os
            have hctd := fun d os => cell_regrown hct d os
            have hcv : ∀ w : World, (convert 65 9 (.slice (some ⟨w.heap.size, 0, none⟩) 1 1)).run Try.prog (w.alloc (.cells #[.int .u8 10] 5)) = .ok (.string ⟨#[10]⟩) (w.alloc (.cells #[.int .u8 10] 5)) := fun w => conv1 10 w
            rcases (show k = 0 ∨ ∃ m, m + 1 = k from (Nat.eq_zero_or_pos k).elim .inl fun h => .inr ⟨k - 1, by omega⟩) with h0 | ⟨m, hmk⟩
            case' inl =>
              have HE0 : Hid (errF l (k + 1) = 0) := by
                show errF l (k + 1) = 0
                rw [HES.out, HB.out]; subst h0; rfl
              have hkd : decide (0 < k) = false := by subst h0; rfl
              clear HB HST h0
              generalize l[k] = x at *
              generalize (⟨(textQ x.n).toArray⟩ : ByteArray) = tq at *
              generalize linesL (l.take k) = A at *
              generalize (⟨(escL x.t.data.toList).toArray⟩ : ByteArray) = ex at *
              go_upto_region 11 with (go_at_call 32; (with_reducible refine (HIs.out _).mono ?_); rintro e w1 ⟨rfl, rfl⟩)
              refine wp_region_quiet_below (by kernel_rfl) (by kernel_rfl) ?_
              repeat go_big_quiet_step (fail)
              refine wpQuiet_nil ?_
              rintro _ ⟨⟨dq, osq⟩, rfl⟩
            case' inr =>
              have hym : m < l.length := by omega
              have hymm : m < (l.map toR).length := by rw [List.length_map]; exact hym
              obtain ⟨b', ob', hqe, hb', hr'⟩ := HQ.out m hymm
              obtain ⟨rfl, rfl⟩ : b = b' ∧ ob = ob' := by simpa using hqe
              rw [List.getElem_map] at hr'
              have hcy : wr.cell? ⟨b, ob + m * 2, none⟩ = some (.string ⟨(textQ l[m].n).toArray⟩) := (rentC_cells (range_of_block hr' (HW.out.block b hb))).1
              have hcyd := fun d os => cell_regrown hcy d os
              have hry : rightB l[m].n = true := ((err_text (k := k) (by omega) HE.out).2 m hym (by omega)).2
              have HYL := textQ_le l[m]
              have HPy : Hid (∀ W : World, Calls Try.prog 34 #[.string ⟨(textQ l[m].n).toArray⟩] W fun e w' => e = .returned (.agg (bC l[m].n)) ∧ Below W.heap.size W w') := fun W => by
                have := pad_any ⟨(textQ l[m].n).toArray⟩ W (by show (textQ l[m].n).toArray.size ≤ maxLen; unfold maxLen; simp; omega)
                rw [show (⟨(textQ l[m].n).toArray⟩ : ByteArray).data.toList = textQ l[m].n from rfl, padQ hry] at this
                exact this
              have hlast : (l.take k).getLast? = some l[m] := by
                rw [List.getLast?_eq_getElem?, HLk.out, List.getElem?_take, if_pos (by omega), show k - 1 = m by omega, List.getElem?_eq_getElem hym]
              rw [hlast] at HB
              have HB2 : Hid (behindE (l.take k) l[k] = if lessL l[m].n l[k].n = true then 0 else 8) := HB.out
              have HL : Hid (∀ W : World, Calls Try.prog 33 #[.agg (bC l[m].n), .agg (bC l[k].n)] W fun e w' => e = .returned (.bool (lessL l[m].n l[k].n)) ∧ Below W.heap.size W w') := fun W => by
                rw [lessL_lessR _ _ (l[m].hn.trans l[k].hn.symm)]
                exact refLess_any _ _ W l[m].hn l[k].hn
              have hs1 : IntKind.i64.wrap ((k : Int) - 1) = m := by rw [IntWalk.i64_in _ (by omega)]; omega
              have hkd : decide (0 < k) = true := by simp; omega
              have hkp : (0 : Int) < (k : Int) := by omega
              have hmn : (m : Int) < n := by omega
              clear HB hlast hqe hb' hr' hry HYL hcy hmk
              generalize l[m].n = yn at *
              generalize (⟨(textQ yn).toArray⟩ : ByteArray) = ty at *
              generalize l[k] = x at *
              generalize (⟨(textQ x.n).toArray⟩ : ByteArray) = tq at *
              generalize linesL (l.take k) = A at *
              generalize (⟨(escL x.t.data.toList).toArray⟩ : ByteArray) = ex at *
              cases hll : lessL yn x.n
              all_goals
                rw [hll] at HL HB2
                clear hll
                go_upto_region 11 with (go_at_call 32; (with_reducible refine (HIs.out _).mono ?_); rintro e w1 ⟨rfl, rfl⟩)
                refine wp_region_quiet_below (by kernel_rfl) (by kernel_rfl) ?_
                repeat go_big_quiet_step (first | (with_reducible exact rg_call HPy.out _ _) | (with_reducible exact rg_call HPd.out _ _) | (with_reducible exact rg_call HL.out _ _))
                refine wpQuiet_nil ?_
                rintro _ ⟨⟨dq, osq⟩, rfl⟩
              · obtain ⟨HP1, HP2⟩ := HST.out 8 HB2.out (by omega)
                go_wp2_with fail
                refine bodyPost_ret (results_tmp2 rfl _ _ _) rfl ?_
                exact ⟨by rw [HP1, HP2]; rfl, HW.out.trans ((below_regrown wr dq osq).mono HW.out.size)⟩
              have HE0 : Hid (errF l (k + 1) = 0) := by
                show errF l (k + 1) = 0
                rw [HES.out, HB2.out]; rfl
            all_goals
              have HW2 : Hid (Below w.heap.size w (Sort.grow (redrawn wr dq) osq)) := HW.out.trans ((below_regrown wr dq osq).mono HW.out.size)
              have hbw2 : b < (Sort.grow (redrawn wr dq) osq).heap.size := Nat.lt_of_lt_of_le hbw (below_regrown wr dq osq).size
              have hcn2 := hcnd dq osq
              have hct2 := hctd dq osq
              clear hcnd hctd HW hcn hct hbw
              generalize Sort.grow (redrawn wr dq) osq = W2 at *
              have hS : (fun w' : World => w'.cell? ⟨b, ob + k * 2, none⟩ = some (.string tq) ∧ w'.cell? ⟨b, ob + k * 2 + 1, none⟩ = some (.string x.t)) W2 := ⟨hcn2, hct2⟩
              have hWz := HW2.out.size
              have hA0 : (⟨A.toArray⟩ : ByteArray).size = A.length := List.size_toArray
              have HLS2 : Hid ((⟨A.toArray⟩ : ByteArray) ++ tq ++ ⟨#[61]⟩ ++ ex ++ ⟨#[10]⟩ = ⟨(linesL (l.take (k + 1))).toArray⟩) := by
                show _ = (⟨(linesL (l.take (k + 1))).toArray⟩ : ByteArray)
                rw [HLN.out]; exact HLS.out A
              have hAs : (⟨A.toArray⟩ : ByteArray).size ≤ 2200 := by omega
              clear HLS HLN HLL hAl
              clear hA0
              generalize (⟨A.toArray⟩ : ByteArray) = sa at *
              have hc1 : ¬ 9223372036854775807 < sa.size + tq.size := by omega
              have hc2 : ¬ 9223372036854775806 < sa.size + tq.size := by omega
              have hc3 : ¬ 9223372036854775807 < sa.size + tq.size + 1 + ex.size := by omega
              have hc4 : ¬ 9223372036854775806 < sa.size + tq.size + 1 + ex.size := by omega
              have hc5 : ¬ 9223372036854775807 < sa.size + tq.size + 1 := by omega
              have hc6 : ¬ 9223372036854775807 < sa.size + tq.size + 1 + ex.size + 1 := by omega
              have hcvd : (convert 65 9 (.slice (some ⟨W2.heap.size, 0, none⟩) 1 1)).run Try.prog (W2.alloc (.cells #[.int .u8 10] 5)).drew = .ok (.string ⟨#[10]⟩) (W2.alloc (.cells #[.int .u8 10] 5)).drew := conv1 10 W2.drew
              have hop : opConv = { dst := some 63, op := .convert 65 9 (.tmp 62), type := 9, pos := "ref.go:62", after := #[{ on := 15, ground := .data }], guard := none } := rfl
              go_upto_region 13 with fail
              rw [← hop]
              go_region_held3 (fun w' => w'.cell? ⟨b, ob + k * 2, none⟩ = some (.string tq) ∧ w'.cell? ⟨b, ob + k * 2 + 1, none⟩ = some (.string x.t)) (first | exact ⟨(cell_of (k2 _) _).trans hcn2, (cell_of (k2 _) _).trans hct2⟩ | exact ⟨(cell_of k1 _).trans hcn2, (cell_of k1 _).trans hct2⟩ | exact ⟨(cell_of (heap_alloc_old _ _ hbw2) _).trans hcn2, (cell_of (heap_alloc_old _ _ hbw2) _).trans hct2⟩ | exact ⟨hcn2, hct2⟩ | go_keep)
                ((go_at_call 35; refine (HTo.out _).mono ?_; rintro e w1 ⟨rfl, hb1⟩; (first | ((have hcw := conv_row w1 W2.heap.size ((hb1.block W2.heap.size (by simp)).trans (heap_alloc_new _ _)); have k1 : w1.heap[b]? = W2.heap[b]? := (hb1.block b (by simp; omega)).trans (heap_alloc_old _ _ hbw2); have hzz : W2.heap.size ≤ w1.heap.size := (by have := hb1.size; simp at this; omega))) | (have k1 : w1.heap[b]? = W2.heap[b]? := hb1.block b hbw2; have hzz : W2.heap.size ≤ w1.heap.size := hb1.size)); have k2 : ∀ o, (w1.alloc o).heap[b]? = W2.heap[b]? := fun o => (heap_alloc_old _ _ (Nat.lt_of_lt_of_le hbw2 hzz)).trans k1))
              all_goals
                go_wp2_with fail
                go_roundw
                case rel =>
                  refine ⟨k + 1, by omega, by go_num, by rw [← HLS2.out], HE0.out, ?_⟩
                  first
                    | exact HW2.out.trans ((belowDrew hb1).mono hWz)
                    | exact HW2.out.trans (((belowDrew hb1).mono hWz).trans ((below_alloc1 w1 _).mono (Nat.le_trans hWz hzz)))
                    | exact HW2.out.trans (((below_alloc1 W2 _).mono hWz).trans ((belowDrew hb1).mono (by simp; omega)))
                case measure => simp [intOf]; omega
    · obtain rfl : k = n := by omega
      have hll : (linesL (l.take k)).length ≤ k * 134 := lines_le (by rw [HN.out]; exact Nat.le_refl _) HE.out
      have hk16 := (err_text (by rw [HN.out]; exact Nat.le_refl _) HE.out).1
      have hE : Hid (errF l l.length = 0) := by show errF l l.length = 0; rw [HN.out]; exact HE.out
      have hL : l.take k = l := List.take_of_length_le (by rw [HN.out]; exact Nat.le_refl _)
      rw [hL] at hll
      rw [hL]
      clear hL
      by_cases h12 : 1200 < (linesL l).length
      · have HP : Hid (printE l = 2 ∧ printT l = []) := by
          have : printE l = 2 := by rw [printE, hE.out, if_pos rfl, if_pos h12]
          exact ⟨this, by rw [printT, this]; rfl⟩
        have h12' : (1200 : Int) < ((linesL l).length : Nat) := by omega
        go_wp2_with fail
        refine bodyPost_ret (results_tmp2 rfl _ _ _) rfl ?_
        exact ⟨by rw [HP.out.1, HP.out.2]; rfl, HW.out⟩
      · have HP : Hid (printE l = 0 ∧ printT l = linesL l) := by
          have : printE l = 0 := by rw [printE, hE.out, if_pos rfl, if_neg h12]
          exact ⟨this, by rw [printT, this]; rfl⟩
        have h12' : ¬ (1200 : Int) < ((linesL l).length : Nat) := by omega
        go_wp2_with fail
        refine bodyPost_ret (results_tmp2 rfl _ _ _) rfl ?_
        exact ⟨by rw [HP.out.1, HP.out.2]; rfl, HW.out⟩
end Go.Proofs.Ytpnmficlebnajaa
