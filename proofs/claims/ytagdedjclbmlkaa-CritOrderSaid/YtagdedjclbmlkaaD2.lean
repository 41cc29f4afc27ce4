/- The document's find and Get. -/
import Derived.Test.YtagdedjclbmlkaaD1
import Derived.Test.YtagdedjclbmlkaaC8
namespace Go.Proofs.Ytagdedjclbmlkaa
open Go.RowKit

section
variable {ops : Array Oper} {rest : List Oper} {o : Oper} {a : Act} {Q : Act → Prop}
theorem wq_ix (C : World → Prop) (hw : Region.wanted o (yielded ops a.tmps) = true) (T E : TypeId) (x y : Operand) (ho : o.op = .indexAddr T x y) (hT : Try.prog.underlying T = some (.slice E)) (k : Nat) (hE : (Try.prog.info? E).map (·.size) = some k) (b f : Nat) (n c j : Nat) (hx : a.eval x = .slice (some ⟨b, f, none⟩) n c) (hy : a.eval y = .int .i64 (j : Int)) (hj : j < n)
    (h : wpQuiet Try.prog ops C Q rest (a.put o.dst (.pointer (some ⟨b, f + j * k, none⟩)))) : wpQuiet Try.prog ops C Q (o :: rest) a := by
  refine wq_val (.pointer (some ⟨b, f + j * k, none⟩)) hw (fun w => ?_) h
  cases hq : Try.prog.info? E with
  | none => simp [hq] at hE
  | some i =>
    have hs : i.size = k := by simpa [hq] using hE
    unfold execOp
    simp only [ho, hx, hy]
    simp [go_sem, hT, sizeOf, typeInfo, hq, hs, hj]
end
theorem sizRE : (Try.prog.info? 57).map (·.size) = some 26 := by kernel_rfl
/-- Where a key stands, as the document tells it. -/
def fI : Option Nat → Int
  | none => -1
  | some i => (i : Int)
theorem find_at {xs : List RE} {k : List UInt8} {i : Nat} (hi : i < xs.length) (hno : ∀ j (h : j < i), (xs[j]'(by omega)).k ≠ k) (he : xs[i].k = k) : findL (xs.map RE.p) k = some i := by
  unfold findL
  rw [List.findIdx?_eq_some_iff_getElem]
  refine ⟨by simpa using hi, by simpa [RE.p] using he, fun j hj => ?_⟩
  simpa [RE.p] using hno j hj
theorem find_not {xs : List RE} {k : List UInt8} (hno : ∀ j (h : j < xs.length), xs[j].k ≠ k) : findL (xs.map RE.p) k = none := by
  unfold findL
  rw [List.findIdx?_eq_none_iff]
  intro x hx
  obtain ⟨y, hy, rfl⟩ := List.mem_map.1 hx
  obtain ⟨j, hj, rfl⟩ := List.getElem_of_mem hy
  simpa [RE.p] using hno j hj
/-- An entry's key, its number. -/
theorem re_key {w : World} {b o : Nat} {x : RE} (h : w.rangeAt b o (reC x)) : w.rangeAt b o (rkC x.k) := range_app_left h
theorem re_val {w : World} {b o : Nat} {x : RE} (h : w.rangeAt b o (reC x)) : w.cell? ⟨b, o + 25, none⟩ = some (.int .i64 x.v) := by
  have := range_app_right h 25 (rkC_len x.hk) 0 _ rfl
  simpa using this
set_option maxRecDepth 100000 in
set_option maxHeartbeats 4000000 in
theorem rfind_any (q : Option Addr) (n c : Nat) (xs : List RE) (k : List UInt8) (w : World) (hn : xs.length = n) (hn9 : n ≤ 1000000) (hk : k.length = 25) (hq : SlAt reC 26 w q xs) :
    Calls Try.prog 33 #[.slice q n c, .agg (rkC k).toArray] w fun e w' => e = .returned (.int .i64 (fI (findL (xs.map RE.p) k))) ∧ Below w.heap.size w w' := by
  have HN := Lib.hid hn
  have HK := Lib.hid hk
  have HB0 := Lib.hid (below_alloc1 w (.cells (rkC k).toArray 40))
  have HX0 := Lib.hid (heap_alloc_new w (.cells (rkC k).toArray 40))
  have HQ := Lib.hid (hq.below HB0.out)
  clear hn hq hk
  go_enter Try.func33, Try.ntmps33
  go_upto_region 1 with fail
  generalize w.alloc (.cells (rkC k).toArray 40) = W0 at *
  go_wp2_with fail
  go_loopw [5] (fun vi wr => ∃ (i : Nat), i ≤ n ∧ vi = .int .i64 i ∧ Hid (Below W0.heap.size W0 wr) ∧ Hid (∀ j (h : j < xs.length), j < i → xs[j].k ≠ k)) (fun vi _ => n - (intOf vi).toNat)
  case atStart => exact ⟨0, Nat.zero_le _, rfl, Lib.hid (Below.refl _ _), Lib.hid (fun j _ h => absurd h (by omega))⟩
  case round =>
    obtain ⟨i, hi, rfl, HB, HNo⟩ := hrel
    by_cases h1 : i < n
    · have h1i : (i : Int) < n := by omega
      have hil : i < xs.length := by rw [HN.out]; exact h1
      obtain ⟨x, hx⟩ : ∃ x, x = xs[i] := ⟨_, rfl⟩
      obtain ⟨qb, qo, rfl, hqb, hqr⟩ := (HQ.out.below HB.out) i hil
      rw [← hx] at hqr
      have hXr := (HB.out.block _ (lt_heap HX0.out)).trans HX0.out
      have hXl := lt_heap hXr
      have HXr := Lib.hid hXr
      have HRq := Lib.hid (re_key hqr)
      have HXe := Lib.hid hx
      have HL := x.hk
      clear hqr hx hXr
      go_upto_region 4 with fail
      refine wp_region_quiet_below (by kernel_rfl) (by kernel_rfl) ?_
      repeat (first
        | (refine wq_ix _ rfl 33 57 (.tmp 12) (.tmp 13) rfl Try.underlying33 26 sizRE qb qo n c i rfl rfl h1 ?_; simp only [Act.put, List.setIfInBounds_toArray, List.set_cons_zero, List.set_cons_succ])
        | (with_reducible refine wq_ldr rfl 40 (.tmp 15) rfl qb (qo + i * 26) (rkC x.k) _ Try.underlying40 rfl (by rw [sizRK, rkC_len HL]) rfl HRq.out hqb ?_; simp only [Act.put, List.setIfInBounds_toArray, List.set_cons_zero, List.set_cons_succ])
        | (with_reducible refine wq_ldr rfl 40 (.tmp 3) rfl w.heap.size 0 (rkC k) _ Try.underlying40 rfl (by rw [sizRK, rkC_len HK.out]) rfl (range_whole (by simpa using HXr.out)) hXl ?_; simp only [Act.put, List.setIfInBounds_toArray, List.set_cons_zero, List.set_cons_succ])
        | (refine wq_val (.bool (x.k == k)) rfl (fun w => exec_eqlRK w (.tmp 16) (.tmp 17) rfl _ _ HL HK.out rfl rfl) ?_; simp only [Act.put, List.setIfInBounds_toArray, List.set_cons_zero, List.set_cons_succ])
        | go_big_quiet_step (fail))
      refine wpQuiet_nil ?_
      rintro _ ⟨⟨dq, osq⟩, rfl⟩
      have HB9 : Hid (Below W0.heap.size W0 (Sort.grow (redrawn wr dq) osq)) := HB.out.trans ((below_regrown wr dq osq).mono HB.out.size)
      clear HB HXr HRq hXl hqb
      generalize Sort.grow (redrawn wr dq) osq = W9 at *
      cases he : (x.k == k) with
      | true =>
        have HE : Hid (findL (xs.map RE.p) k = some i) := find_at hil (fun j hj => HNo.out j (by omega) hj) (by rw [← HXe.out]; simpa using he)
        clear he
        go_wp2_with fail
        go_ret
        exact ⟨by rw [HE.out]; rfl, HB0.out.trans (HB9.out.mono HB0.out.size)⟩
      | false =>
        have HNe : Hid (x.k ≠ k) := Lib.hid (show x.k ≠ k by simpa using he)
        clear he
        go_wp2_with fail
        go_roundw
        case rel => exact ⟨i + 1, by omega, by go_num, HB9, Lib.hid (fun j hj hji => by
          rcases Nat.lt_succ_iff_lt_or_eq.1 hji with h | h
          · exact HNo.out j hj h
          · subst h; rw [← HXe.out]; exact HNe.out)⟩
        case measure => simp [intOf]; omega
    · have h1i : ¬ (i : Int) < n := by omega
      have HE : Hid (findL (xs.map RE.p) k = none) := find_not (fun j hj => HNo.out j hj (by rw [HN.out] at hj; omega))
      go_wp2_with fail
      go_ret
      exact ⟨by rw [HE.out]; rfl, HB0.out.trans (HB.out.mono HB0.out.size)⟩
set_option maxRecDepth 100000 in
set_option maxHeartbeats 4000000 in
theorem rget_any (q : Option Addr) (n c : Nat) (xs : List RE) (k : List UInt8) (w : World) (hn : xs.length = n) (hn9 : n ≤ 1000000) (hk : k.length = 25) (hq : SlAt reC 26 w q xs) :
    Calls Try.prog 15 #[.slice q n c, .agg (rkC k).toArray] w fun e w' => e = .returned (getR (getL (xs.map RE.p) k)) ∧ Below w.heap.size w w' := by
  have HN := Lib.hid hn
  have HK := Lib.hid hk
  have HB0 := Lib.hid (below_alloc1 w (.cells (rkC k).toArray 40))
  have HX0 := Lib.hid (heap_alloc_new w (.cells (rkC k).toArray 40))
  have HQ := Lib.hid (hq.below HB0.out)
  clear hn hq hk
  have KF : Hid (Calls Try.prog 33 #[.slice q n c, .agg (rkC k).toArray] (w.alloc (.cells (rkC k).toArray 40)) fun e w' => e = .returned (.int .i64 (fI (findL (xs.map RE.p) k))) ∧ Below (w.alloc (.cells (rkC k).toArray 40)).heap.size (w.alloc (.cells (rkC k).toArray 40)) w') := rfind_any q n c xs k _ HN.out hn9 HK.out HQ.out
  cases hf : findL (xs.map RE.p) k with
  | none =>
    have HG : Hid (getL (xs.map RE.p) k = none) := by
      show _ = _
      unfold getL
      rw [Option.map_eq_none_iff, List.find?_eq_none]
      intro y hy
      simpa using find_none.1 hf y hy
    rw [hf] at KF
    simp only [fI] at KF
    clear hf
    go_enter Try.func15, Try.ntmps15
    go_upto_region 1 with fail
    generalize w.alloc (.cells (rkC k).toArray 40) = W0 at *
    go_wp2_with (first
      | ((with_reducible refine gate_ld 40 (.tmp 3) rfl ?_); refine wl_ldr rfl 40 _ rfl w.heap.size 0 (rkC k) _ Try.underlying40 rfl (by rw [sizRK, rkC_len HK.out]) rfl (range_whole (by simpa using HX0.out)) ?_)
      | (go_at_call 33; (refine KF.out.mono ?_); rintro e W2 ⟨rfl, hb2⟩; have HB2 := Lib.hid hb2; clear hb2))
    refine bodyPost_ret (results_tmp2 rfl _ _ _) rfl ?_
    exact ⟨by rw [HG.out]; rfl, HB0.out.trans (HB2.out.mono HB0.out.size)⟩
  | some i =>
    obtain ⟨hi, he⟩ := find_some hf
    have hil : i < xs.length := by simpa using hi
    have hin : i < n := by rw [← HN.out]; exact hil
    have hini : (i : Int) < n := by omega
    have HG : Hid (getL (xs.map RE.p) k = some xs[i].v) := by
      show _ = _
      have h2 := List.findIdx?_eq_some_iff_getElem.1 hf
      obtain ⟨hi2, h3, h4⟩ := h2
      unfold getL
      rw [show (xs.map RE.p).find? (fun x => x.1 == k) = some (xs.map RE.p)[i] from List.find?_eq_some_iff_getElem.2 ⟨h3, i, hi2, rfl, fun j hj => by simpa using h4 j hj⟩]
      simp [RE.p]
    obtain ⟨x, hx⟩ : ∃ x, x = xs[i] := ⟨_, rfl⟩
    rw [← hx] at HG
    rw [hf] at KF
    simp only [fI] at KF
    clear hf he
    go_enter Try.func15, Try.ntmps15
    go_upto_region 1 with fail
    generalize w.alloc (.cells (rkC k).toArray 40) = W0 at *
    go_upto_region 4 with (first
      | ((with_reducible refine gate_ld 40 (.tmp 3) rfl ?_); refine wl_ldr rfl 40 _ rfl w.heap.size 0 (rkC k) _ Try.underlying40 rfl (by rw [sizRK, rkC_len HK.out]) rfl (range_whole (by simpa using HX0.out)) ?_)
      | (go_at_call 33; (refine KF.out.mono ?_); rintro e W2 ⟨rfl, hb2⟩; have HB2 := Lib.hid hb2; clear hb2))
    obtain ⟨qb, qo, rfl, hqb, hqr⟩ := (HQ.out.below HB2.out) i hil
    rw [← hx] at hqr
    have hc := re_val hqr
    clear hqr hx KF
    go_wp2_with fail
    refine bodyPost_ret (results_tmp2 rfl _ _ _) rfl ?_
    exact ⟨by rw [HG.out]; rfl, HB0.out.trans (HB2.out.mono HB0.out.size)⟩
end Go.Proofs.Ytagdedjclbmlkaa
