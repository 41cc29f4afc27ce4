/- What a nil tree answers. -/
import Derived.Test.YtagdedjclbmlkaaC20
import Derived.Test.YtagdedjclbmlkaaC12
namespace Go.Proofs.Ytagdedjclbmlkaa
open Go.RowKit

attribute [local go_sem] Oper.semAt_some

theorem putNil_any (k : List UInt8) (v : Int) (w : World) (_ : k.length = 25) :
    Calls Try.prog 13 #[.pointer none, .agg (bC k), .int .i64 v] w fun e w' => e = .returned (.bool false) ∧ Below w.heap.size w w' := by
  have HB := Lib.hid (below_alloc1 w (.cells (bC k) 30))
  go_enter Try.func13, Try.ntmps13
  go_wp2_with fail
  go_ret
  exact ⟨rfl, HB.out⟩
theorem getNil_any (k : List UInt8) (w : World) (hk : k.length = 25) :
    Calls Try.prog 14 #[.pointer none, .agg (bC k)] w fun e w' => e = .returned (.tuple #[.int .i64 0, .bool false]) ∧ Below w.heap.size w w' := by
  have HB := Lib.hid (below_alloc1 w (.cells (bC k) 30))
  have HN := Lib.hid (heap_alloc_new w (.cells (bC k) 30))
  have HK := Lib.hid hk
  clear hk
  go_enter Try.func14, Try.ntmps14
  go_upto_region 1 with fail
  generalize w.alloc (.cells (bC k) 30) = W0 at *
  go_wp2_with (first
    | ((with_reducible refine gate_ld 30 (.tmp 3) rfl ?_); refine wl_ldr rfl 30 _ rfl w.heap.size 0 (bC k).toList _ Try.underlying30 rfl (by rw [sizKey]; simp [bC, HK.out]) rfl (range_whole (by simpa using HN.out)) ?_)
    | (go_at_call 34; (refine (findNil_any k _).mono ?_); rintro e W2 ⟨rfl, hb2⟩; have HB2 := Lib.hid hb2; clear hb2))
  refine bodyPost_ret (results_tmp2 rfl _ _ _) rfl ?_
  exact ⟨rfl, HB.out.trans (HB2.out.mono HB.out.size)⟩
theorem branchNil_any (k : List UInt8) (w : World) (hk : k.length = 25) :
    Calls Try.prog 22 #[.pointer none, .agg (bC k)] w fun e w' => e = .returned (.slice none 0 0) ∧ Below w.heap.size w w' := by
  have HB := Lib.hid (below_alloc1 w (.cells (bC k) 30))
  have HN := Lib.hid (heap_alloc_new w (.cells (bC k) 30))
  have HK := Lib.hid hk
  clear hk
  go_enter Try.func22, Try.ntmps22
  go_upto_region 1 with fail
  generalize w.alloc (.cells (bC k) 30) = W0 at *
  go_wp2_with (first
    | ((with_reducible refine gate_ld 30 (.tmp 3) rfl ?_); refine wl_ldr rfl 30 _ rfl w.heap.size 0 (bC k).toList _ Try.underlying30 rfl (by rw [sizKey]; simp [bC, HK.out]) rfl (range_whole (by simpa using HN.out)) ?_)
    | (go_at_call 34; (refine (findNil_any k _).mono ?_); rintro e W2 ⟨rfl, hb2⟩; have HB2 := Lib.hid hb2; clear hb2))
  go_ret
  exact ⟨rfl, HB.out.trans (HB2.out.mono HB.out.size)⟩
set_option maxRecDepth 100000 in
set_option maxHeartbeats 16000000 in
theorem delNil_any (q : Option Addr) (n c : Nat) (ks : List (List UInt8)) (w : World) (hn : ks.length = n) (hn9 : n ≤ 1000000) (hq : SlAt keyE 25 w q ks) (hks : ∀ k ∈ ks, k.length = 25) :
    Calls Try.prog 11 #[.pointer none, .slice q n c] w fun e w' => e = .returned (.int .i64 0) ∧ Below w.heap.size w w' := by
  have HN := Lib.hid hn
  have HQ := Lib.hid hq
  have HKs := Lib.hid hks
  clear hn hq hks
  go_enter Try.func11, Try.ntmps11
  go_wp2_with fail
  go_loopw [5, 13] (fun vg vi wr => ∃ (i : Nat), i ≤ n ∧ vi = .int .i64 i ∧ vg = .int .i64 0 ∧ Hid (Below w.heap.size w wr)) (fun _ vi _ => n - (intOf vi).toNat)
  case atStart => exact ⟨0, Nat.zero_le _, rfl, rfl, Lib.hid (Below.refl _ _)⟩
  case round =>
    obtain ⟨i, hi, rfl, rfl, HD⟩ := hrel
    by_cases h1 : i < n
    · have h1i : (i : Int) < n := by omega
      obtain ⟨k, hk⟩ : ∃ k, k = ks[i]'(by rw [HN.out]; exact h1) := ⟨_, rfl⟩
      obtain ⟨qb, qo, rfl, hqb, hqr⟩ := (HQ.out.below HD.out) i (by rw [HN.out]; exact h1)
      rw [← hk] at hqr
      have HKl : Hid (k.length = 25) := HKs.out k (by rw [hk]; exact List.getElem_mem _)
      have HRk := Lib.hid hqr
      clear hqr hk hqb
      have HX4 : Hid ((wr.alloc (.cells (bC k) 30)).heap[wr.heap.size]? = some (.cells (bC k) 30 (0, 0))) := heap_alloc_new _ _
      have HD4 : Hid (Below w.heap.size w (wr.alloc (.cells (bC k) 30))) := HD.out.alloc HD.out.size _
      go_upto_region 5 with (first
        | ((with_reducible refine gate_ld 30 (.tmp 15) rfl ?_); refine wl_ldr rfl 30 _ rfl qb (qo + i * 25) (bC k).toList _ Try.underlying30 rfl (by rw [sizKey]; simp [bC, HKl.out]) rfl HRk.out ?_)
        | ((with_reducible refine gate_st 30 (.tmp 7) _ rfl ?_); refine wl_strn rfl _ _ _ rfl (bC k) z25A _ (by rw [sizKey, bC_size, HKl.out]) (by rw [bC_size, HKl.out]; rfl) (bC_one k) (by simp [Act.eval]) rfl ?_))
      generalize wr.alloc (.cells (bC k) 30) = W4 at *
      obtain ⟨kb, hkb⟩ : ∃ kb, kb = wr.heap.size := ⟨_, rfl⟩
      rw [← hkb] at HX4 ⊢
      clear hkb HD HRk
      go_wp2_with (first
        | ((with_reducible refine gate_ld 30 (.tmp 7) rfl ?_); refine wl_ldr rfl 30 _ rfl kb 0 (bC k).toList _ Try.underlying30 rfl (by rw [sizKey]; simp [bC, HKl.out]) rfl (range_whole (by simpa using HX4.out)) ?_)
        | (go_at_call 34; (refine (findNil_any k _).mono ?_); rintro e W5 ⟨rfl, hb5⟩; have HD5 := Lib.hid (HD4.out.trans (hb5.mono HD4.out.size)); clear hb5))
      go_roundw
      case rel => exact ⟨i + 1, by omega, by go_num, rfl, HD5⟩
      case measure => simp [intOf]; omega
    · have h1i : ¬ (i : Int) < n := by omega
      go_wp2_with fail
      go_ret
      exact ⟨rfl, HD.out⟩
end Go.Proofs.Ytagdedjclbmlkaa
