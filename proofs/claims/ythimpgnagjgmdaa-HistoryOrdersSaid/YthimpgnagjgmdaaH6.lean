/- The document's Fits. -/
import Derived.Test.YthimpgnagjgmdaaH5
namespace Go.Proofs.Ythimpgnagjgmdaa
open Go.RowKit

theorem rg_callB {W : World} {P : Program} {f : FuncId} {args : Array Value} {v : Value} (h : ∀ w, Below W.heap.size W w → Calls P f args w fun e w' => e = .returned v ∧ Below w.heap.size w w') (d : Nat) (os : Array Obj) :
    Calls P f args (Sort.grow (redrawn W d) os) fun e w'' => e = .returned v ∧ ∃ p : Regrown, w'' = Sort.grow (redrawn W p.d) p.os :=
  Calls.regrown_of (h _ (below_regrown W d os))
def FPost (xs : List Ca) (ord : List Int) (w : World) (e : Ending) (w' : World) : Prop := ∃ s : Nat × Nat × Bool, e = .returned (.tuple #[.int .i64 (s.1 : Int), .int .i64 (s.2.1 : Int), .bool s.2.2]) ∧ FR (trs xs) ord s ∧ Below w.heap.size w w'
set_option maxRecDepth 100000 in
set_option maxHeartbeats 16000000 in
theorem refFits_any (q : Option Addr) (n c : Nat) (xs : List Ca) (r : Option Addr) (k d : Nat) (ord : List Int) (w : World) (hn : xs.length = n) (hq : SlAt caC 51 w q xs) (hk : ord.length = k) (hr : SlAt eI 1 w r ord) (hk30 : k ≤ 30) :
    Calls Try.prog 15 #[.slice q n c, .slice r k d] w fun e w' => FPost xs ord w e w' := by
  have HN := Lib.hid hn
  have HQ := Lib.hid hq
  have HK := Lib.hid hk
  have HR := Lib.hid hr
  clear hn hq hk hr
  go_enter Try.func15, Try.ntmps15
  go_wp2_with fail
  go_loopw [7] (fun vi wr => ∃ i : Nat, i ≤ k ∧ vi = .int .i64 i ∧ Hid (∀ i' j' (_ : i' < j') (_ : j' < ord.length), i' < i → badB (trs xs) (ord[i']'(by omega)) ord[j'] = false) ∧ Hid (Below w.heap.size w wr)) (fun vi _ => k - (intOf vi).toNat)
  case atStart => exact ⟨0, Nat.zero_le _, rfl, fun _ _ _ _ h => by omega, Below.refl _ _⟩
  case round =>
    obtain ⟨i, hi, rfl, HP, HB⟩ := hrel
    by_cases h1 : i < k
    · have h1i : (i : Int) < k := by omega
      obtain ⟨ob, oo, rfl, hob, hor⟩ := HR.out i (by rw [HK.out]; exact h1)
      obtain ⟨a, ha⟩ : ∃ a, a = ord[i]'(by rw [HK.out]; exact h1) := ⟨_, rfl⟩
      rw [← ha] at hor
      have HHo : Hid (∀ v, Below w.heap.size w v → v.cell? ⟨ob, oo + i, none⟩ = some (.int .i64 a)) := fun v hb => by
        rw [cellB hb hob]
        have := hor 0 _ rfl
        simpa using this
      have HA := Lib.hid ha
      clear ha hor
      go_wp2_with fail
      go_loopw [8] (fun vj wr => ∃ j : Nat, i < j ∧ j ≤ k ∧ vj = .int .i64 j ∧ Hid (∀ j' (_ : i < j') (_ : j' < j) (_ : j' < ord.length), badB (trs xs) a ord[j'] = false) ∧ Hid (Below w.heap.size w wr)) (fun vj _ => k - (intOf vj).toNat)
      case atStart => exact ⟨i + 1, by omega, by omega, by go_num, fun _ _ _ _ => by omega, HB⟩
      case round =>
        clear HB
        obtain ⟨j, hij, hj, rfl, HJ, HB⟩ := hrel
        by_cases h2 : j < k
        · have h2i : (j : Int) < k := by omega
          obtain ⟨ob2, oo2, hobe, hob2, hor2⟩ := HR.out j (by rw [HK.out]; exact h2)
          simp only [Option.some.injEq, Addr.mk.injEq] at hobe
          obtain ⟨rfl, rfl, _⟩ := hobe
          obtain ⟨b, hb⟩ : ∃ b, b = ord[j]'(by rw [HK.out]; exact h2) := ⟨_, rfl⟩
          rw [← hb] at hor2
          have hob : wr.cell? ⟨ob, oo + j, none⟩ = some (.int .i64 b) := by
            rw [cellB HB.out hob2]
            have := hor2 0 _ rfl
            simpa using this
          have hoa := HHo.out _ HB.out
          have hobl : ob < wr.heap.size := Nat.lt_of_lt_of_le hob2 HB.out.size
          have KI : Hid (∀ z v, Below wr.heap.size wr v → Calls Try.prog 29 #[.slice q n c, .int .i64 z] v fun e w' => e = .returned (.bool (askB (trs xs) z)) ∧ Below v.heap.size v w') := fun z v hv =>
            (is_any q n c xs z v HN.out (HQ.out.below (HB.out.trans (hv.mono HB.out.size)))).mono fun e w' ⟨he, hw⟩ => ⟨he, by rw [hw]; exact Below.refl _ _⟩
          have KA := Lib.hid (KI.out a)
          have KB := Lib.hid (KI.out b)
          have HBo := Lib.hid hb
          clear hb hor2 KI
          cases hask : askB (trs xs) a with
          | false =>
            have HF : Hid (badB (trs xs) a b = false) := by show _ = _; simp [badB, hask]
            rw [hask] at KA
            go_upto_region 7 with fail
            try simp only [Act.put]
            refine wp_region_quiet_below (by kernel_rfl) (by kernel_rfl) ?_
            repeat (first
              | go_big_quiet_skip
              | (refine wq_one rfl 3 (.tmp 26) rfl ob (oo + i) (.int .i64 a) ag3 rfl hoa hobl ?_; simp only [Act.put, List.setIfInBounds_toArray, List.set_cons_zero, List.set_cons_succ])
              | go_big_quiet_step (with_reducible exact rg_callB KA.out _ _))
            refine wpQuiet_nil ?_
            rintro _ ⟨⟨dq, osq⟩, rfl⟩
            have HB6 := Lib.hid (HB.out.trans ((below_regrown wr dq osq).mono HB.out.size))
            go_wp2_with fail
            go_roundw
            case rel => exact ⟨j + 1, by omega, by omega, by go_num, fun j' g g' g2 => by
              rcases (by omega : j' < j ∨ j' = j) with h | rfl
              · exact HJ.out j' g h g2
              · rw [← HBo.out]; exact HF.out, HB6⟩
            case measure => simp [intOf]; omega
          | true =>
            rw [hask] at KA
            have HAsk := Lib.hid hask
            clear hask
            cases hask : askB (trs xs) b with
            | false =>
              have HF : Hid (badB (trs xs) a b = false) := by show _ = _; simp [badB, hask]
              rw [hask] at KB
              go_upto_region 7 with fail
              try simp only [Act.put]
              refine wp_region_quiet_below (by kernel_rfl) (by kernel_rfl) ?_
              repeat (first
                | go_big_quiet_skip
                | (refine wq_one rfl 3 (.tmp 26) rfl ob (oo + i) (.int .i64 a) ag3 rfl hoa hobl ?_; simp only [Act.put, List.setIfInBounds_toArray, List.set_cons_zero, List.set_cons_succ])
                | (refine wq_one rfl 3 (.tmp 33) rfl ob (oo + j) (.int .i64 b) ag3 rfl hob hobl ?_; simp only [Act.put, List.setIfInBounds_toArray, List.set_cons_zero, List.set_cons_succ])
                | go_big_quiet_step (first | (with_reducible exact rg_callB KA.out _ _) | (with_reducible exact rg_callB KB.out _ _)))
              refine wpQuiet_nil ?_
              rintro _ ⟨⟨dq, osq⟩, rfl⟩
              have HB6 := Lib.hid (HB.out.trans ((below_regrown wr dq osq).mono HB.out.size))
              go_wp2_with fail
              go_roundw
              case rel => exact ⟨j + 1, by omega, by omega, by go_num, fun j' g g' g2 => by
                rcases (by omega : j' < j ∨ j' = j) with h | rfl
                · exact HJ.out j' g h g2
                · rw [← HBo.out]; exact HF.out, HB6⟩
              case measure => simp [intOf]; omega
            | true =>
              rw [hask] at KB
              obtain ⟨ma, hma, hae⟩ := ask_in HAsk.out
              obtain ⟨mb, hmb, hbe0⟩ := ask_in hask
              obtain ⟨lb, lo, rfl, hlb, hlr⟩ := HQ.out ma hma
              obtain ⟨lb2, lo2, hlq, hlb2, hlr2⟩ := HQ.out mb hmb
              simp only [Option.some.injEq, Addr.mk.injEq] at hlq
              obtain ⟨rfl, rfl, _⟩ := hlq
              have hlbl : lb < wr.heap.size := Nat.lt_of_lt_of_le hlb HB.out.size
              have hbe : wr.cell? ⟨lb, lo + ma * 51 + 1, none⟩ = some (.int .i64 (xs[ma]).be) := by rw [cellB HB.out hlb]; exact hlr 1 _ (ca_cell _ 1 _ rfl)
              have hen : wr.cell? ⟨lb, lo + mb * 51 + 2, none⟩ = some (.int .i64 (xs[mb]).en) := by rw [cellB HB.out hlb]; exact hlr2 2 _ (ca_cell _ 2 _ rfl)
              have HBad : Hid (badB (trs xs) a b = (decide (0 ≤ (xs[mb]).en) && decide ((xs[mb]).en < (xs[ma]).be))) := by
                have h1 : (trs xs).getD mb (0, 0, 0) = ((xs[mb]).be, (xs[mb]).en, (xs[mb]).n) := by simp [trs, hmb]
                have h2 : (trs xs).getD ma (0, 0, 0) = ((xs[ma]).be, (xs[ma]).en, (xs[ma]).n) := by simp [trs, hma]
                show _ = _
                unfold badB
                rw [HAsk.out, hask, hae, hbe0, Int.toNat_natCast, Int.toNat_natCast, h1, h2]
                simp
              have hman : ma < n := by rw [← HN.out]; exact hma
              have hmbn : mb < n := by rw [← HN.out]; exact hmb
              generalize (xs[mb]).en = en at *
              generalize (xs[ma]).be = be at *
              clear hlr hlr2 hask
              have HAe := Lib.hid hae
              have HBe := Lib.hid hbe0
              clear hae hbe0
              have HAo2 : Hid ((ma : Int) = ord[i]'(by rw [HK.out]; exact h1)) := by show _ = _; rw [← HAe.out, HA.out]
              rw [HAe.out] at hoa KA HBad
              rw [HBe.out] at hob KB HBad
              by_cases h3 : 0 ≤ en
              · by_cases h4 : en < be
                · go_upto_region 7 with fail
                  try simp only [Act.put]
                  refine wp_region_quiet_below (by kernel_rfl) (by kernel_rfl) ?_
                  repeat (first
                    | go_big_quiet_skip
                    | (refine wq_one rfl 3 (.tmp 26) rfl ob (oo + i) (.int .i64 (ma : Int)) ag3 rfl hoa hobl ?_; simp only [Act.put, List.setIfInBounds_toArray, List.set_cons_zero, List.set_cons_succ])
                    | (refine wq_one rfl 3 (.tmp 33) rfl ob (oo + j) (.int .i64 (mb : Int)) ag3 rfl hob hobl ?_; simp only [Act.put, List.setIfInBounds_toArray, List.set_cons_zero, List.set_cons_succ])
                    | (refine wq_one rfl 3 (.tmp 41) rfl ob (oo + j) (.int .i64 (mb : Int)) ag3 rfl hob hobl ?_; simp only [Act.put, List.setIfInBounds_toArray, List.set_cons_zero, List.set_cons_succ])
                    | (refine wq_one rfl 3 (.tmp 44) rfl lb (lo + mb * 51 + 2) (.int .i64 en) ag3 rfl hen hlbl ?_; simp only [Act.put, List.setIfInBounds_toArray, List.set_cons_zero, List.set_cons_succ])
                    | (refine wq_one rfl 3 (.tmp 52) rfl ob (oo + j) (.int .i64 (mb : Int)) ag3 rfl hob hobl ?_; simp only [Act.put, List.setIfInBounds_toArray, List.set_cons_zero, List.set_cons_succ])
                    | (refine wq_one rfl 3 (.tmp 55) rfl lb (lo + mb * 51 + 2) (.int .i64 en) ag3 rfl hen hlbl ?_; simp only [Act.put, List.setIfInBounds_toArray, List.set_cons_zero, List.set_cons_succ])
                    | (refine wq_one rfl 3 (.tmp 60) rfl ob (oo + i) (.int .i64 (ma : Int)) ag3 rfl hoa hobl ?_; simp only [Act.put, List.setIfInBounds_toArray, List.set_cons_zero, List.set_cons_succ])
                    | (refine wq_one rfl 3 (.tmp 63) rfl lb (lo + ma * 51 + 1) (.int .i64 be) ag3 rfl hbe hlbl ?_; simp only [Act.put, List.setIfInBounds_toArray, List.set_cons_zero, List.set_cons_succ])
                    | go_big_quiet_step (first | (with_reducible exact rg_callB KA.out _ _) | (with_reducible exact rg_callB KB.out _ _)))
                  refine wpQuiet_nil ?_
                  rintro _ ⟨⟨dq, osq⟩, rfl⟩
                  have HB6 := Lib.hid (HB.out.trans ((below_regrown wr dq osq).mono HB.out.size))
                  go_wp2_with fail
                  refine bodyPost_ret (results_tmp3 rfl _ _ _) rfl ?_
                  have hjo : j < ord.length := by rw [HK.out]; exact h2
                  refine ⟨(i, j, false), rfl, Or.inr ⟨i, j, hij, hjo, rfl, ?_, fun i' j' g g' h => ?_⟩, HB6.out⟩
                  · rw [← HAo2.out, ← HBo.out, HBe.out, HBad.out]; simp [h3, h4]
                  · rcases h with h | ⟨rfl, h⟩
                    · exact HP.out i' j' g g' h
                    · rw [← HA.out]; exact HJ.out j' g h g'
                · go_upto_region 7 with fail
                  try simp only [Act.put]
                  refine wp_region_quiet_below (by kernel_rfl) (by kernel_rfl) ?_
                  repeat (first
                    | go_big_quiet_skip
                    | (refine wq_one rfl 3 (.tmp 26) rfl ob (oo + i) (.int .i64 (ma : Int)) ag3 rfl hoa hobl ?_; simp only [Act.put, List.setIfInBounds_toArray, List.set_cons_zero, List.set_cons_succ])
                    | (refine wq_one rfl 3 (.tmp 33) rfl ob (oo + j) (.int .i64 (mb : Int)) ag3 rfl hob hobl ?_; simp only [Act.put, List.setIfInBounds_toArray, List.set_cons_zero, List.set_cons_succ])
                    | (refine wq_one rfl 3 (.tmp 41) rfl ob (oo + j) (.int .i64 (mb : Int)) ag3 rfl hob hobl ?_; simp only [Act.put, List.setIfInBounds_toArray, List.set_cons_zero, List.set_cons_succ])
                    | (refine wq_one rfl 3 (.tmp 44) rfl lb (lo + mb * 51 + 2) (.int .i64 en) ag3 rfl hen hlbl ?_; simp only [Act.put, List.setIfInBounds_toArray, List.set_cons_zero, List.set_cons_succ])
                    | (refine wq_one rfl 3 (.tmp 52) rfl ob (oo + j) (.int .i64 (mb : Int)) ag3 rfl hob hobl ?_; simp only [Act.put, List.setIfInBounds_toArray, List.set_cons_zero, List.set_cons_succ])
                    | (refine wq_one rfl 3 (.tmp 55) rfl lb (lo + mb * 51 + 2) (.int .i64 en) ag3 rfl hen hlbl ?_; simp only [Act.put, List.setIfInBounds_toArray, List.set_cons_zero, List.set_cons_succ])
                    | (refine wq_one rfl 3 (.tmp 60) rfl ob (oo + i) (.int .i64 (ma : Int)) ag3 rfl hoa hobl ?_; simp only [Act.put, List.setIfInBounds_toArray, List.set_cons_zero, List.set_cons_succ])
                    | (refine wq_one rfl 3 (.tmp 63) rfl lb (lo + ma * 51 + 1) (.int .i64 be) ag3 rfl hbe hlbl ?_; simp only [Act.put, List.setIfInBounds_toArray, List.set_cons_zero, List.set_cons_succ])
                    | go_big_quiet_step (first | (with_reducible exact rg_callB KA.out _ _) | (with_reducible exact rg_callB KB.out _ _)))
                  refine wpQuiet_nil ?_
                  rintro _ ⟨⟨dq, osq⟩, rfl⟩
                  have HB6 := Lib.hid (HB.out.trans ((below_regrown wr dq osq).mono HB.out.size))
                  go_wp2_with fail
                  go_roundw
                  case rel => exact ⟨j + 1, by omega, by omega, by go_num, fun j' g g' g2 => by
                    rcases (by omega : j' < j ∨ j' = j) with h | rfl
                    · exact HJ.out j' g h g2
                    · rw [← HBo.out]; rw [HBe.out, HAe.out, HBad.out]; simp; omega, HB6⟩
                  case measure => simp [intOf]; omega
              · go_upto_region 7 with fail
                try simp only [Act.put]
                refine wp_region_quiet_below (by kernel_rfl) (by kernel_rfl) ?_
                repeat (first
                  | go_big_quiet_skip
                  | (refine wq_one rfl 3 (.tmp 26) rfl ob (oo + i) (.int .i64 (ma : Int)) ag3 rfl hoa hobl ?_; simp only [Act.put, List.setIfInBounds_toArray, List.set_cons_zero, List.set_cons_succ])
                  | (refine wq_one rfl 3 (.tmp 33) rfl ob (oo + j) (.int .i64 (mb : Int)) ag3 rfl hob hobl ?_; simp only [Act.put, List.setIfInBounds_toArray, List.set_cons_zero, List.set_cons_succ])
                  | (refine wq_one rfl 3 (.tmp 41) rfl ob (oo + j) (.int .i64 (mb : Int)) ag3 rfl hob hobl ?_; simp only [Act.put, List.setIfInBounds_toArray, List.set_cons_zero, List.set_cons_succ])
                  | (refine wq_one rfl 3 (.tmp 44) rfl lb (lo + mb * 51 + 2) (.int .i64 en) ag3 rfl hen hlbl ?_; simp only [Act.put, List.setIfInBounds_toArray, List.set_cons_zero, List.set_cons_succ])
                  | go_big_quiet_step (first | (with_reducible exact rg_callB KA.out _ _) | (with_reducible exact rg_callB KB.out _ _)))
                refine wpQuiet_nil ?_
                rintro _ ⟨⟨dq, osq⟩, rfl⟩
                have HB6 := Lib.hid (HB.out.trans ((below_regrown wr dq osq).mono HB.out.size))
                go_wp2_with fail
                go_roundw
                case rel => exact ⟨j + 1, by omega, by omega, by go_num, fun j' g g' g2 => by
                  rcases (by omega : j' < j ∨ j' = j) with h | rfl
                  · exact HJ.out j' g h g2
                  · rw [← HBo.out]; rw [HBe.out, HAe.out, HBad.out]; simp; omega, HB6⟩
                case measure => simp [intOf]; omega
        · have h2i : ¬ (j : Int) < k := by omega
          go_wp2_with fail
          go_roundw
          case rel => exact ⟨i + 1, by omega, by go_num, fun i' j' g g' h => by
            rcases (by omega : i' < i ∨ i' = i) with h | rfl
            · exact HP.out i' j' g g' h
            · rw [← HA.out]; exact HJ.out j' g (by rw [HK.out] at g'; omega) g', HB⟩
          case measure => simp [intOf]; omega
    · have h1i : ¬ (i : Int) < k := by omega
      go_wp2_with fail
      refine bodyPost_ret (results_tmp3 rfl _ _ _) rfl ?_
      exact ⟨(0, 0, true), rfl, Or.inl ⟨rfl, fun i' j' g g' => HP.out i' j' g g' (by rw [HK.out] at g'; omega)⟩, HB.out⟩
end Go.Proofs.Ythimpgnagjgmdaa
