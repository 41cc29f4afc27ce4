/- The document's Print. -/
import Derived.Test.YtmbbhnbfgcmkgaaDoorD4
namespace Go.Proofs.YtmbbhnbfgcmkgaaDoor
open Go.RowKit
theorem lineR_line (x : D4) (h : errD x = 0) : (lineR x).1 ++ [10] = lineD x ∧ (lineR x).2 = 0 := by rw [lineR_ok h]; exact ⟨rfl, rfl⟩
theorem one_at {w : World} {x : UInt8} {T : TypeId} {b : Nat} (hg : w.heap[b]? = some (.cells #[.int .u8 (x.toNat : Int)] T (0, 0))) : SlAt enc1 1 w (some ⟨b, 0, none⟩) [x] := by
  intro i hi
  obtain rfl : i = 0 := by simp at hi; omega
  exact ⟨_, _, rfl, lt_heap hg, fun j v hv => by
    cases j with
    | zero => simp only [enc1, List.getElem_cons_zero, List.getElem?_cons_zero, Option.some.injEq] at hv; subst hv; rw [cell_blk hg]; rfl
    | succ j => simp [enc1] at hv⟩
set_option maxRecDepth 100000 in
set_option maxHeartbeats 8000000 in
theorem refPrint_any (q : Option Addr) (xs : List D4) (n cap : Nat) (w : World) (hn : xs.length = n) (hm : n ≤ 1000000) (hq : SlAt d4C 4 w q xs) :
    Calls Tryd.prog 9 #[.slice q n cap] w fun e w' => e = .returned (.tuple #[.string ⟨(printF 0 [] xs).1.toArray⟩, .int .i64 (printF 0 [] xs).2]) ∧ Below w.heap.size w w' := by
  have HL := Lib.hid hn
  have HQ := Lib.hid hq
  clear hn hq
  go_enter Tryd.func9, Tryd.ntmps9
  go_wp2_with fail
  go_loopw [4, 5] (fun v i wr => ∃ (k : Nat) (acc : List UInt8), k ≤ n ∧ k ≤ 200 ∧ i = .int .i64 k ∧ v = .string ⟨acc.toArray⟩ ∧ Hid (Below w.heap.size w wr) ∧ Hid (printF k acc (xs.drop k) = printF 0 [] xs) ∧ Hid (acc.length ≤ k * 6000)) (fun _ i _ => n - (intOf i).toNat)
  case atStart => exact ⟨0, [], Nat.zero_le _, Nat.zero_le _, rfl, rfl, Below.refl _ _, rfl, Nat.zero_le _⟩
  case round =>
    obtain ⟨k, acc, hk, hk2, rfl, rfl, HW, HP, HAl⟩ := hrel
    by_cases hlt : k < n
    · have hli : (k : Int) < n := by omega
      have hkx : k < xs.length := by rw [HL.out]; exact hlt
      obtain ⟨b, f, rfl, hb1, hr1⟩ := (HQ.out.below HW.out) k hkx
      have HR := Lib.hid (InRow.mk hb1 hr1)
      have HS : Hid (xs.drop k = xs[k] :: xs.drop (k + 1)) := List.drop_eq_getElem_cons hkx
      clear hb1 hr1
      rw [HS.out] at HP
      clear HS
      generalize xs[k] = x at *
      by_cases h200 : k < 200
      · have hl200 : (k : Int) < 200 := by omega
        have KL : Hid (∀ W, Calls Tryd.prog 28 #[.agg (d4C x).toArray] W fun e w' => e = .returned (.tuple #[.string ⟨(lineR (bareD x)).1.toArray⟩, .int .i64 (lineR (bareD x)).2]) ∧ Below W.heap.size W w') := fun W => refLine_any x W
        by_cases he : errD (bareD x) = 0
        · have HP2 : Hid (printF (k + 1) (acc ++ lineD (bareD x)) (xs.drop (k + 1)) = printF 0 [] xs) := by show _ = _; rw [← HP.out]; conv => rhs; rw [printF, if_neg (by omega), if_neg (by rw [he]; decide)]
          have hl := lineR_line _ he
          have HLl : Hid ((lineD (bareD x)).length ≤ 6000) := lineD_len (err_ok he).2.2.2.2.2.2
          rw [hl.2] at KL
          have HLe := Lib.hid hl.1
          clear hl HP he
          generalize (lineR (bareD x)).1 = s at *
          generalize lineD (bareD x) = ls at *
          have hsl : s.length ≤ 6000 := by have h1 := HLl.out; have h2 := congrArg List.length HLe.out; rw [List.length_append, List.length_singleton] at h2; omega
          have hacl : acc.length ≤ 1200000 := by have := HAl.out; have : k * 6000 ≤ 200 * 6000 := Nat.mul_le_mul_right _ hk2; omega
          have HE : Hid (ls = s ++ [10]) := HLe.out.symm
          have ha := ba_size acc
          have hs := ba_size s
          have HFin : Hid ((⟨acc.toArray⟩ : ByteArray) ++ ⟨s.toArray⟩ ++ ⟨#[10]⟩ = ⟨(acc ++ ls).toArray⟩) := by show _ = _; rw [HE.out, ba_cat, ba_cat, ByteArray.append_assoc]
          generalize (⟨acc.toArray⟩ : ByteArray) = SA at *
          generalize (⟨s.toArray⟩ : ByteArray) = SS at *
          go_upto_region 10 with (first
            | (refine wl_ix rfl 29 32 _ _ rfl Tryd.underlying29 4 sizD4 b f n cap k rfl rfl hlt ?_)
            | (refine ld_D4 rfl _ rfl b (f + k * 4) x rfl HR.out.row ?_)
            | (go_at_call 28; (refine (KL.out _).mono ?_); rintro e W3 ⟨rfl, hb3⟩; have HW3 : Hid (Below w.heap.size w W3) := bt HW hb3; clear hb3 KL HR HW))
          have hcv : (convert 34 9 (.slice (some ⟨W3.heap.size, 0, none⟩) 1 1)).run Tryd.prog (W3.alloc (.cells #[.int .u8 10] 5)) = .ok (.string ⟨#[10]⟩) (W3.alloc (.cells #[.int .u8 10] 5)) := conv_any (W3.alloc (.cells #[.int .u8 10] 5)) (some ⟨W3.heap.size, 0, none⟩) 1 [10] (one_at (heap_alloc_new _ _))
          have HW4 : Hid (Below w.heap.size w (W3.alloc (.cells #[.int .u8 10] 5))) := HW3.out.alloc HW3.out.size _
          go_wp2_with fail
          go_roundw
          case rel => exact ⟨k + 1, acc ++ ls, by omega, by omega, by go_num, by rw [← HFin.out], HW4.out, HP2.out, by show _ ≤ _; rw [List.length_append]; have := HLl.out; have := HAl.out; omega⟩
          case measure => simp [intOf]; omega
        · have HP2 : Hid (printF 0 [] xs = ([], errD (bareD x))) := by show _ = _; rw [← HP.out, printF, if_neg (by omega), if_pos he]
          have hl : lineR (bareD x) = ([], errD (bareD x)) := lineR_err rfl he
          rw [hl] at KL
          have he1 : (errD (bareD x) != 0) = true := by simpa using he
          have he2 : (errD (bareD x) == 0) = false := by simpa using he
          clear HP hl
          generalize errD (bareD x) = ed at *
          go_wp2_with (first
            | (refine wl_ix rfl 29 32 _ _ rfl Tryd.underlying29 4 sizD4 b f n cap k rfl rfl hlt ?_)
            | (refine ld_D4 rfl _ rfl b (f + k * 4) x rfl HR.out.row ?_)
            | (go_at_call 28; (refine (KL.out _).mono ?_); rintro e W3 ⟨rfl, hb3⟩; have HW3 : Hid (Below w.heap.size w W3) := bt HW hb3; clear hb3 KL HR HW))
          go_ret2
          exact ⟨by rw [HP2.out]; rfl, HW3.out⟩
      · obtain rfl : k = 200 := by omega
        have HP2 : Hid (printF 0 [] xs = ([], 2)) := by show _ = _; rw [← HP.out, printF, if_pos (by omega)]
        go_wp2_with fail
        go_ret2
        exact ⟨by rw [HP2.out]; rfl, HW.out⟩
    · obtain rfl : n = k := by omega
      have HRes : Hid (printF 0 [] xs = (acc, 0)) := by
        show _ = _
        rw [← HP.out, List.drop_eq_nil_of_le (by rw [HL.out]; exact Nat.le_refl _)]; rfl
      go_wp2_with fail
      go_ret2
      exact ⟨by rw [HRes.out]; rfl, HW.out⟩
end Go.Proofs.YtmbbhnbfgcmkgaaDoor
