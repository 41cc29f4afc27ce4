/- holds: a tree holds a list. -/
import Derived.Test.YtagdedjclbmlkaaDX
import Derived.Test.YtagdedjclbmlkaaC18
import Derived.Test.YtagdedjclbmlkaaC7
namespace Go.Proofs.Ytagdedjclbmlkaa
open Go.RowKit

theorem neqRK (w : World) (xs ys : List UInt8) (hx : xs.length = 25) (hy : ys.length = 25) : (binOp .neq 40 (.agg (rkC xs).toArray) (.agg (rkC ys).toArray)).run Try.prog w = .ok (.bool (!(xs == ys))) w := by
  rw [run_neq_struct, show (10000 : Nat) = 9996 + 4 from rfl, eqInRK w 9996 xs ys hx hy]; rfl
theorem exec_neqRK {a : Act} {o : Oper} (w : World) (x y : Operand) (ho : o.op = .binOp .neq 40 x y 40) (xs : List UInt8) (hxs : xs.length = 25) (hx : a.eval x = .agg (rkC xs).toArray) (hy : a.eval y = .agg (rkC xs).toArray) : (execOp a.eval o).run Try.prog w = .ok (.value (.bool false)) w := by
  have hgd : (eqGuard .neq 40 x y (.agg (rkC xs).toArray) (.agg (rkC xs).toArray)).run Try.prog w = .ok () w := run_eqGuard_agg w .neq 40 x y _ _ (by kernel_rfl)
  unfold execOp
  simp only [ho, hx, hy, Sem.run_bind, hgd, neqRK w xs xs hxs hxs, Result.andThen_ok, Sem.run_pure]
  simp
theorem exec_neI {o : Oper} {a : Act} {w : World} (x y : Operand) (ho : o.op = .binOp .neq 3 x y 3) (m : Int) (hx : a.eval x = .int .i64 m) (hy : a.eval y = .int .i64 m) : (execOp a.eval o).run Try.prog w = .ok (.value (.bool false)) w := by
  unfold execOp
  simp only [ho, hx, hy]
  simp [go_sem]
theorem kv_key {w : World} {b o : Nat} {x : KV} (h : w.rangeAt b o (kvC x)) : w.rangeAt b o (bC x.k).toList := range_app_left h
theorem kv_val {w : World} {b o : Nat} {x : KV} (h : w.rangeAt b o (kvC x)) : w.cell? ⟨b, o + 25, none⟩ = some (.int .i64 x.v) := by
  have := range_app_right h 25 (by simp [bC, x.hk]) 0 _ rfl
  simpa using this
set_option maxRecDepth 100000 in
set_option maxHeartbeats 8000000 in
theorem holds_any (o : Option T) (w : World) (B tb : Nat) (q : Option Addr) (n c : Nat) (ys : List RE) (hT : TreeAt w B tb o) (hR : RSl w q n c ys) (hall : ys.map RE.p = allO o) (hn : n ≤ 1000000) :
    Calls Try.prog 16 #[ptrA tb, .slice q n c] w fun e w' => e = .returned (.bool true) ∧ Below w.heap.size w w' := by
  have hlen : (allO o).length = n := by rw [← hall, List.length_map, hR.len]
  have HT := Lib.hid hT
  have HR := Lib.hid hR
  have HA := Lib.hid hall
  have HLn := Lib.hid hlen
  have KM := Lib.hid (mapI_any o w B tb hT (by omega))
  clear hT hR hall hlen
  go_enter Try.func16, Try.ntmps16
  go_upto_region 2 with (go_at_call 40; (refine KM.out.mono ?_); rintro e W1 ⟨v, xs, rfl, ho, hp, hb⟩; have HO := Lib.hid ho; have HP := Lib.hid hp; have HB := Lib.hid hb; clear ho hp hb)
  obtain ⟨xq, xc, rfl, _, _, hat, _⟩ := HO.out.at kvC_len
  have hxl : xs.length = n := by have := congrArg List.length HP.out; rw [List.length_map] at this; rw [this]; exact HLn.out
  rw [hxl]
  have HX := Lib.hid hat
  have HXn := Lib.hid hxl
  have HR1 := Lib.hid (HR.out.below HB.out)
  have KLn : Hid (Calls Try.prog 29 #[ptrA tb] W1 fun e w' => e = .returned (.int .i64 (n : Int)) ∧ w' = W1) := by
    have := len_any W1 B tb o (HT.out.below HB.out)
    rwa [HLn.out] at this
  have HE : Hid (∀ i (h : i < n), (xs[i]'(by rw [HXn.out]; exact h)).k = (ys[i]'(by rw [HR.out.len]; exact h)).k ∧ (xs[i]'(by rw [HXn.out]; exact h)).v = (ys[i]'(by rw [HR.out.len]; exact h)).v) := fun i h => by
    have h1 := HP.out.trans HA.out.symm
    have h2 := congrArg (fun l => l[i]?) h1
    simp only [List.getElem?_map] at h2
    rw [List.getElem?_eq_getElem (by rw [HXn.out]; exact h), List.getElem?_eq_getElem (by rw [HR.out.len]; exact h)] at h2
    simp only [Option.map_some, Option.some.injEq, KV.p, RE.p, Prod.mk.injEq] at h2
    exact h2
  clear hat hxl KM HO HP HA
  go_upto_region 4 with (first
    | (go_at_call 29; (refine KLn.out.mono ?_); rintro e W2 ⟨rfl, rfl⟩))
  clear KLn
  go_wp2_with fail
  go_loopw [6] (fun vi wr => ∃ (i : Nat), i ≤ n ∧ vi = .int .i64 i ∧ Hid (Below W2.heap.size W2 wr)) (fun vi _ => n - (intOf vi).toNat)
  case atStart => exact ⟨0, Nat.zero_le _, rfl, Lib.hid (Below.refl _ _)⟩
  case round =>
    obtain ⟨i, hi, rfl, HBr⟩ := hrel
    by_cases h1 : i < n
    · have h1i : (i : Int) < n := by omega
      obtain ⟨xb, xo, hxq, hxb, hxr⟩ := (HX.out.below HBr.out) i (by rw [HXn.out]; exact h1)
      obtain ⟨qb, qo, hqq, hqb, hqr⟩ := (HR1.out.at_.below HBr.out) i (by rw [HR1.out.len]; exact h1)
      subst hxq hqq
      obtain ⟨hk, hv⟩ := HE.out i h1
      have hKx := (xs[i]'(by rw [HXn.out]; exact h1)).hk
      have HX1 := Lib.hid (kv_key hxr)
      have hcx := kv_val hxr
      have HQ1 := Lib.hid (re_key hqr)
      have hcq := re_val hqr
      rw [← hk] at HQ1
      rw [← hv] at hcq
      generalize (xs[i]'(by rw [HXn.out]; exact h1)).k = kk at *
      generalize (xs[i]'(by rw [HXn.out]; exact h1)).v = vv at *
      have KO := Lib.hid (fun W => of06_key kk W hKx)
      clear hxr hqr hk hv
      go_upto_region 7 with fail
      refine wp_region_quiet_below (by kernel_rfl) (by kernel_rfl) ?_
      repeat (first
        | (refine wq_ix _ rfl 95 98 (.tmp 27) (.tmp 28) rfl Try.underlying95 26 sizItem xb xo n xc i rfl rfl h1 ?_; simp only [Act.put, List.setIfInBounds_toArray, List.set_cons_zero, List.set_cons_succ])
        | (refine wq_ix _ rfl 95 98 (.tmp 40) (.tmp 41) rfl Try.underlying95 26 sizItem xb xo n xc i rfl rfl h1 ?_; simp only [Act.put, List.setIfInBounds_toArray, List.set_cons_zero, List.set_cons_succ])
        | (refine wq_ix _ rfl 33 57 (.tmp 33) (.tmp 34) rfl Try.underlying33 26 sizRE qb qo n c i rfl rfl h1 ?_; simp only [Act.put, List.setIfInBounds_toArray, List.set_cons_zero, List.set_cons_succ])
        | (refine wq_ix _ rfl 33 57 (.tmp 45) (.tmp 46) rfl Try.underlying33 26 sizRE qb qo n c i rfl rfl h1 ?_; simp only [Act.put, List.setIfInBounds_toArray, List.set_cons_zero, List.set_cons_succ])
        | (with_reducible refine wq_ldr rfl 30 (.tmp 30) rfl xb (xo + i * 26) (bC kk).toList _ Try.underlying30 rfl (by rw [sizKey]; simp [bC, hKx]) rfl HX1.out hxb ?_; simp only [Act.put, List.setIfInBounds_toArray, List.set_cons_zero, List.set_cons_succ])
        | (with_reducible refine wq_ldr rfl 40 (.tmp 36) rfl qb (qo + i * 26) (rkC kk) _ Try.underlying40 rfl (by rw [sizRK, rkC_len hKx]) rfl HQ1.out hqb ?_; simp only [Act.put, List.setIfInBounds_toArray, List.set_cons_zero, List.set_cons_succ])
        | (refine wq_val (.bool false) rfl (fun w => exec_neqRK w (.tmp 32) (.tmp 37) rfl kk hKx rfl rfl) ?_; simp only [Act.put, List.setIfInBounds_toArray, List.set_cons_zero, List.set_cons_succ])
        | (refine wq_ld1 rfl 3 (.tmp 43) rfl xb (xo + i * 26 + 25) (.int .i64 vv) ag3 rfl hcx hxb ?_; simp only [Act.put, List.setIfInBounds_toArray, List.set_cons_zero, List.set_cons_succ])
        | (refine wq_ld1 rfl 3 (.tmp 48) rfl qb (qo + i * 26 + 25) (.int .i64 vv) ag3 rfl hcq hqb ?_; simp only [Act.put, List.setIfInBounds_toArray, List.set_cons_zero, List.set_cons_succ])
        | (refine wq_val (.bool false) rfl (fun w => exec_neI (.tmp 44) (.tmp 49) rfl vv rfl rfl) ?_; simp only [Act.put, List.setIfInBounds_toArray, List.set_cons_zero, List.set_cons_succ])
        | go_big_quiet_step (first | (exact rg_call KO.out _ _)))
      refine wpQuiet_nil ?_
      rintro _ ⟨⟨dq, osq⟩, rfl⟩
      have HB9 := Lib.hid (HBr.out.trans ((below_regrown wr dq osq).mono HBr.out.size))
      generalize Sort.grow (redrawn wr dq) osq = W9 at *
      go_wp2_with fail
      go_roundw
      case rel => exact ⟨i + 1, by omega, by go_num, HB9⟩
      case measure => simp [intOf]; omega
    · have h1i : ¬ (i : Int) < n := by omega
      go_wp2_with fail
      go_ret
      exact ⟨rfl, HB.out.trans (HBr.out.mono HB.out.size)⟩
end Go.Proofs.Ytagdedjclbmlkaa
