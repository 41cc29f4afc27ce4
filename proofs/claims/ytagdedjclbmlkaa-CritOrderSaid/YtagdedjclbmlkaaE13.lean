/- CritOrder: whichever way keys are put, and whatever else was there in between. Printed by gE13.py. -/
import Derived.Test.YtagdedjclbmlkaaE12
import Derived.Deep.DeepCutAuto
namespace Go.Proofs.Ytagdedjclbmlkaa
open Go.RowKit

theorem exec_ixK {o : Oper} {a : Act} {w : World} (x y : Operand) (ho : o.op = .indexAddr 64 x y) (b f : Nat) (n c j : Nat) (hx : a.eval x = .slice (some ⟨b, f, none⟩) n c) (hy : a.eval y = .int .i64 (j : Int)) (hj : j < n) : (execOp a.eval o).run Try.prog w = .ok (.value (.pointer (some ⟨b, f + j * 25, none⟩))) w := by
  have hq := sizKey
  cases hq2 : Try.prog.info? 30 with
  | none => simp [hq2] at hq
  | some i =>
    have hs : i.size = 25 := by simpa [hq2] using hq
    unfold execOp
    simp only [ho, hx, hy]
    simp [go_sem, Try.underlying64, sizeOf, typeInfo, hq2, hs, hj]
theorem brL_len2 (l : List (List UInt8 × Int)) (k : List UInt8) : (brL l k).length ≤ 200 := by
  unfold brL branchL
  split
  · exact Nat.le_trans (List.length_filter_le _ _) (by rw [List.length_range]; omega)
  · simp
theorem sizIn : (Try.prog.info? 3).map (·.size) = some 1 := by kernel_rfl
theorem builtPZ : Try.prog.built 63 [] = some (pC z25 0).toArray := by kernel_rfl
theorem any_next (ks : List K25) (k : List UInt8) {j : Nat} (h : j < ks.length) : (ks.take (j + 1)).any (fun y => y.k == k) = ((ks.take j).any (fun y => y.k == k) || (ks[j].k == k)) := by
  rw [List.take_succ_eq_append_getElem h, List.any_append]
  simp
theorem any_mem (ks : List K25) (k : List UInt8) : ks.any (fun y => y.k == k) = true ↔ k ∈ ks.map (·.k) := by
  rw [List.any_eq_true, List.mem_map]
  constructor
  · rintro ⟨y, hy, h⟩; exact ⟨y, hy, by simpa using h⟩
  · rintro ⟨y, hy, h⟩; exact ⟨y, hy, by simpa using h⟩
set_option maxRecDepth 100000 in
set_option maxHeartbeats 64000000 in
theorem CritOrder_walk (q1 : Option Addr) (n1 c1 : Nat) (ks1 : List K25) (q2 : Option Addr) (n2 c2 : Nat) (ms1 : List K25) (turn : Int) (w : World) (hn1 : ks1.length = n1) (hc1 : n1 ≤ c1) (hq1 : SlAt encK 25 w q1 ks1) (hn2 : ms1.length = n2) (hc2 : n2 ≤ c2) (hq2 : SlAt encK 25 w q2 ms1) :
    Calls Try.prog 6 #[.slice q1 n1 c1, .slice q2 n2 c2, .int .i64 turn] w fun e w' => e = .returned (.bool true) ∧ Below w.heap.size w w' := by
  go_enter Try.func6, Try.ntmps6
  obtain ⟨n, hn⟩ : ∃ n, n = min n1 30 := ⟨_, rfl⟩
  obtain ⟨m, hm⟩ : ∃ m, m = min n2 30 := ⟨_, rfl⟩
  have hni : min (n1 : Int) 30 = (n : Int) := by omega
  have hmi : min (n2 : Int) 30 = (m : Int) := by omega
  have hnc : n ≤ c1 := by omega
  have hmc : m ≤ c2 := by omega
  go_upto_region 1 with fail
  refine wp_region_quiet_below (by kernel_rfl) (by kernel_rfl) ?_
  repeat (first
    | (refine wq_val (.int .i64 (n1 : Int)) rfl (fun w => exec_lenK 23 rfl q1 n1 c1 rfl) ?_; simp only [Act.put, List.setIfInBounds_toArray, List.set_cons_zero, List.set_cons_succ])
    | (refine wq_val (.int .i64 (n : Int)) rfl (fun w => exec_min30 24 rfl _ _ hni rfl) ?_; simp only [Act.put, List.setIfInBounds_toArray, List.set_cons_zero, List.set_cons_succ])
    | (refine wq_val (.slice q1 n c1) rfl (fun w => exec_hi Try.underlying64 sizKey (.tmp 22) (.tmp 25) rfl q1 n1 c1 n rfl rfl hnc) ?_; simp only [Act.put, List.setIfInBounds_toArray, List.set_cons_zero, List.set_cons_succ])
    | (refine wq_val (.int .i64 (n2 : Int)) rfl (fun w => exec_lenK 28 rfl q2 n2 c2 rfl) ?_; simp only [Act.put, List.setIfInBounds_toArray, List.set_cons_zero, List.set_cons_succ])
    | (refine wq_val (.int .i64 (m : Int)) rfl (fun w => exec_min30 29 rfl _ _ hmi rfl) ?_; simp only [Act.put, List.setIfInBounds_toArray, List.set_cons_zero, List.set_cons_succ])
    | (refine wq_val (.slice q2 m c2) rfl (fun w => exec_hi Try.underlying64 sizKey (.tmp 27) (.tmp 30) rfl q2 n2 c2 m rfl rfl hmc) ?_; simp only [Act.put, List.setIfInBounds_toArray, List.set_cons_zero, List.set_cons_succ])
    | go_big_quiet_step (fail))
  refine wpQuiet_nil ?_
  rintro _ ⟨⟨dq, osq⟩, rfl⟩
  have hb0 := below_regrown w dq osq
  have HBw := Lib.hid hb0
  obtain ⟨ks, hkl, hks⟩ : ∃ ks : List K25, ks.length = n ∧ SlAt encK 25 (Sort.grow (redrawn w dq) osq) q1 ks := ⟨ks1.take n, by rw [List.length_take]; omega, (hq1.take n).below hb0⟩
  obtain ⟨ms, hml, hms⟩ : ∃ ms : List K25, ms.length = m ∧ SlAt encK 25 (Sort.grow (redrawn w dq) osq) q2 ms := ⟨ms1.take m, by rw [List.length_take]; omega, (hq2.take m).below hb0⟩
  have hn30 : ks.length ≤ 30 := by omega
  have hm30 : ms.length ≤ 30 := by omega
  have HKs := Lib.hid hks
  have HMs := Lib.hid hms
  clear hn hm hni hmi hnc hmc hb0 hq1 hq2 hn1 hn2 hc1 hc2 hks hms
  subst hkl hml
  generalize Sort.grow (redrawn w dq) osq = W0 at *
  obtain ⟨tn, htn⟩ : ∃ tn : Nat, turn % 18446744073709551616 = (tn : Int) := ⟨(turn % 18446744073709551616).toNat, by omega⟩
  go_upto_region 3 with (go_at_call 8; (refine (new_any _).mono ?_); rintro e _ ⟨rfl, rfl⟩)
  have HT0 : Hid (Two W0 ((W0.alloc (.cells #[.pointer none, .int .i64 0] TREE)).alloc (.cells #[.pointer none, .int .i64 0] TREE)) W0.heap.size (W0.heap.size + 1) none none 0 0) := by
    have ha : TreeAt (W0.alloc (.cells #[.pointer none, .int .i64 0] TREE)) W0.heap.size W0.heap.size none := new_tree (Nat.le_refl _)
    have hb : TreeAt ((W0.alloc (.cells #[.pointer none, .int .i64 0] TREE)).alloc (.cells #[.pointer none, .int .i64 0] TREE)) W0.heap.size (W0.alloc (.cells #[.pointer none, .int .i64 0] TREE)).heap.size none := new_tree (by simp)
    have hz : (W0.alloc (.cells #[.pointer none, .int .i64 0] TREE)).heap.size = W0.heap.size + 1 := by simp
    rw [hz] at hb
    refine ⟨ha.below (below_alloc1 _ _), hb, ?_, Nat.le_refl _, Nat.le_refl _, below_alloc2 _ _ _⟩
    intro x hx hx'
    have hx : x ∈ [W0.heap.size] := hx
    have hx' : x ∈ [W0.heap.size + 1] := hx'
    rw [List.mem_singleton] at hx hx'
    omega
  generalize ((W0.alloc (.cells #[.pointer none, .int .i64 0] TREE)).alloc (.cells #[.pointer none, .int .i64 0] TREE)) = W1 at *
  obtain ⟨ta, hta⟩ : ∃ ta, ta = W0.heap.size := ⟨_, rfl⟩
  obtain ⟨tb, htb⟩ : ∃ tb, tb = W0.heap.size + 1 := ⟨_, rfl⟩
  rw [show Two W0 W1 W0.heap.size (W0.heap.size + 1) none none 0 0 = Two W0 W1 ta tb none none 0 0 by rw [hta, htb]] at HT0
  rw [← htb, ← hta]
  clear hta htb
  go_wp2_with fail
  go_loopw [10] (fun vi wr => ∃ (i : Nat) (oa : Option T), i ≤ ks.length ∧ vi = .int .i64 i ∧ Hid (Two W0 wr ta tb oa none i 0) ∧ Hid (∀ x, x ∈ allO oa ↔ x.1 ∈ (ks.take i).map (·.k) ∧ x.2 = 0)) (fun vi _ => ks.length - (intOf vi).toNat)
  case atStart => exact ⟨0, none, Nat.zero_le _, rfl, HT0, Lib.hid (fun x => by show x ∈ [] ↔ _; simp)⟩
  case round =>
    obtain ⟨i, oa, hi, rfl, HT, HI⟩ := hrel
    by_cases h1 : i < ks.length
    · have h1i : (i : Int) < ks.length := by omega
      obtain ⟨qb, qo, rfl, hqb, hqr⟩ := (HKs.out.below HT.out.bel) i h1
      have HRq := Lib.hid hqr
      have hl := ks[i].hk
      have hin := inv1_next HT.out.a.wf.sorted HI.out ks[i].k
      rw [← take_snoc ks (·.k) h1] at hin
      have HIn := Lib.hid hin
      have KP := Lib.hid (HT.out.put ks[i].k 0 hl (by omega))
      unfold encK at HRq
      generalize ks[i].k = kk at *
      clear hqr hin hqb
      go_wp2_with (first
        | ((with_reducible refine gate_ld 30 (.tmp 44) rfl ?_); refine wl_ldr rfl 30 _ rfl qb (qo + i * 25) (bC kk).toList _ Try.underlying30 rfl (by rw [sizKey]; simp [bC, hl]) rfl HRq.out ?_)
        | (go_at_call 13; (refine KP.out.mono ?_); rintro e W3 ⟨⟨r, rfl⟩, oa2, ht, hall⟩; have HT3 := Lib.hid ht; have HA3 := Lib.hid hall; clear ht hall))
      go_roundw
      case rel => exact ⟨i + 1, oa2, by omega, by go_num, HT3, by show ∀ x, _; rw [HA3.out]; exact HIn.out⟩
      case measure => simp [intOf]; omega
    · have h1i : ¬ (i : Int) < ks.length := by omega
      obtain rfl : ks.length = i := by omega
      have HA1 : Hid (∀ x, x ∈ allO oa ↔ x.1 ∈ ks.map (·.k) ∧ x.2 = 0) := by
        have := HI.out
        rw [List.take_length] at this
        exact this
      clear HI
      obtain ⟨Wa, rfl⟩ : ∃ Wa, Wa = wr := ⟨_, rfl⟩
      go_wp2_with fail
      go_loopw [11] (fun vi wr => ∃ (i : Nat) (ob : Option T), i ≤ ms.length ∧ vi = .int .i64 i ∧ Hid (Two W0 wr ta tb oa ob ks.length i) ∧ Hid (∀ x, x ∈ allO ob ↔ x.1 ∈ (ms.take i).map (·.k) ∧ x.2 = 1)) (fun vi _ => ms.length - (intOf vi).toNat)
      case atStart => exact ⟨0, none, Nat.zero_le _, rfl, HT, Lib.hid (fun x => by show x ∈ [] ↔ _; simp)⟩
      case round =>
        obtain ⟨i, ob, hi, rfl, HT, HI⟩ := hrel
        by_cases h2 : i < ms.length
        · have h2i : (i : Int) < ms.length := by omega
          obtain ⟨qb, qo, rfl, hqb, hqr⟩ := (HMs.out.below HT.out.bel) i h2
          have HRq := Lib.hid hqr
          have hl := ms[i].hk
          have hin := inv1_next HT.out.b.wf.sorted HI.out ms[i].k
          rw [← take_snoc ms (·.k) h2] at hin
          have HIn := Lib.hid hin
          have KP := Lib.hid (HT.out.swap.put ms[i].k 1 hl (by omega))
          unfold encK at HRq
          generalize ms[i].k = kk at *
          clear hqr hin hqb
          go_wp2_with (first
            | ((with_reducible refine gate_ld 30 (.tmp 56) rfl ?_); refine wl_ldr rfl 30 _ rfl qb (qo + i * 25) (bC kk).toList _ Try.underlying30 rfl (by rw [sizKey]; simp [bC, hl]) rfl HRq.out ?_)
            | (go_at_call 13; (refine KP.out.mono ?_); rintro e W3 ⟨⟨r, rfl⟩, ob2, ht, hall⟩; have HT3 := Lib.hid ht.swap; have HA3 := Lib.hid hall; clear ht hall))
          go_roundw
          case rel => exact ⟨i + 1, ob2, by omega, by go_num, HT3, by show ∀ x, _; rw [HA3.out]; exact HIn.out⟩
          case measure => simp [intOf]; omega
        · have h2i : ¬ (i : Int) < ms.length := by omega
          obtain rfl : ms.length = i := by omega
          have HM0 : Hid (Mid (allO ob) (ms.map (·.k)) []) := by
            have := HI.out
            rw [List.take_length] at this
            exact mid_start this
          clear HI
          obtain ⟨Wb, rfl⟩ : ∃ Wb, Wb = wr := ⟨_, rfl⟩
          go_wp2_with fail
          go_loopw [12] (fun vi wr => ∃ (i : Nat) (ob : Option T), i ≤ ks.length ∧ vi = .int .i64 i ∧ Hid (Two W0 wr ta tb oa ob ks.length (ms.length + i)) ∧ Hid (Mid (allO ob) (ms.map (·.k)) (rotK ks (tn % ks.length) i))) (fun vi _ => ks.length - (intOf vi).toNat)
          case atStart => exact ⟨0, ob, Nat.zero_le _, rfl, HT, HM0⟩
          case round =>
            clear HM0
            obtain ⟨i, ob, hi, rfl, HT, HI⟩ := hrel
            by_cases h3 : i < ks.length
            · have h3i : (i : Int) < ks.length := by omega
              have hn0 : 0 < ks.length := by omega
              have hjx : (i + tn % ks.length) % ks.length < ks.length := Nat.mod_lt _ hn0
              have hr := Nat.mod_lt tn hn0
              have hin := mid_next HT.out.b.wf.sorted HI.out ks[(i + tn % ks.length) % ks.length].k
              rw [← rot_next ks (tn % ks.length) i hjx] at hin
              have HIn := Lib.hid hin
              have hl := ks[(i + tn % ks.length) % ks.length].hk
              have KP := Lib.hid (HT.out.swap.put ks[(i + tn % ks.length) % ks.length].k 0 hl (by omega))
              obtain ⟨qb, qo, rfl, hqb, hqr⟩ := (HKs.out.below HT.out.bel) ((i + tn % ks.length) % ks.length) hjx
              have HRq := Lib.hid hqr
              unfold encK at HRq
              clear hin hqb hqr
              generalize ks[(i + tn % ks.length) % ks.length].k = kk at *
              obtain ⟨r, hr2⟩ : ∃ r, r = tn % ks.length := ⟨_, rfl⟩
              rw [← hr2] at hr hjx HRq HIn
              obtain ⟨jx, hjx2⟩ : ∃ jx, jx = (i + r) % ks.length := ⟨_, rfl⟩
              rw [← hjx2] at hjx HRq
              have hjxi : (jx : Int) < ks.length := by omega
              have Hr2 := Lib.hid hr2
              have Hjx2 := Lib.hid hjx2
              clear hr2 hjx2
              go_wp2_with (first
                | ((with_reducible refine gate_op (.convert 3 73 (.tmp 67)) rfl ?_); refine wl_valG rfl (.int .u64 (tn : Int)) (exec_convIU (.tmp 67) rfl turn tn htn rfl) ?_)
                | ((with_reducible refine gate_op (.convert 3 73 (.tmp 69)) rfl ?_); refine wl_valG rfl (.int .u64 (ks.length : Int)) (exec_convIU (.tmp 69) rfl (ks.length : Int) ks.length (by omega) rfl) ?_)
                | ((with_reducible refine gate_op (.binOp .rem 73 (.tmp 68) (.tmp 70) 73) rfl ?_); refine wl_valG rfl (.int .u64 (r : Int)) (by rw [Hr2.out]; exact exec_remU (.tmp 68) (.tmp 70) rfl tn ks.length hn0 (by omega) rfl rfl) ?_)
                | ((with_reducible refine gate_op (.convert 73 3 (.tmp 71)) rfl ?_); refine wl_valG rfl (.int .i64 (r : Int)) (exec_convUI (.tmp 71) rfl r (by omega) rfl) ?_)
                | ((with_reducible refine gate_op (.binOp .add 3 (.tmp 66) (.tmp 72) 3) rfl ?_); refine wl_valG rfl (.int .i64 ((i + r : Nat) : Int)) (exec_addI (.tmp 66) (.tmp 72) rfl i r (by omega) rfl rfl) ?_)
                | ((with_reducible refine gate_op (.binOp .rem 3 (.tmp 73) (.tmp 74) 3) rfl ?_); refine wl_valG rfl (.int .i64 (jx : Int)) (by rw [Hjx2.out]; exact exec_remI (.tmp 73) (.tmp 74) rfl (i + r) ks.length hn0 (by omega) rfl rfl) ?_)
                | ((with_reducible refine gate_ld 30 (.tmp 76) rfl ?_); refine wl_ldr rfl 30 _ rfl qb (qo + jx * 25) (bC kk).toList _ Try.underlying30 rfl (by rw [sizKey]; simp [bC, hl]) rfl HRq.out ?_)
                | (go_at_call 13; (refine KP.out.mono ?_); rintro e W3 ⟨⟨r', rfl⟩, ob2, ht, hall⟩; have HT3 := Lib.hid ht.swap; have HA3 := Lib.hid hall; clear ht hall))
              go_roundw
              case rel => exact ⟨i + 1, ob2, by omega, by go_num, HT3, by show Mid _ _ _; rw [HA3.out, ← Hr2.out]; exact HIn.out⟩
              case measure => simp [intOf]; omega
            · have h3i : ¬ (i : Int) < ks.length := by omega
              obtain rfl : ks.length = i := by omega
              have HL0 : Hid (Late (allO ob) (ms.map (·.k)) [] (ks.map (·.k))) := late_start (mid_same HI.out (rot_all ks _))
              clear HI
              obtain ⟨Wc, rfl⟩ : ∃ Wc, Wc = wr := ⟨_, rfl⟩
              go_wp2_with fail
              go_loopw [13] (fun vi wr => ∃ (i : Nat) (ob : Option T), i ≤ ms.length ∧ vi = .int .i64 i ∧ Hid (Two W0 wr ta tb oa ob ks.length (ms.length + ks.length)) ∧ Hid (Late (allO ob) (ms.map (·.k)) ((ms.take i).map (·.k)) (ks.map (·.k)))) (fun vi _ => ms.length - (intOf vi).toNat)
              case atStart => exact ⟨0, ob, Nat.zero_le _, rfl, HT, HL0⟩
              case round =>
                clear HL0
                obtain ⟨i, ob, hi, rfl, HT, HI⟩ := hrel
                by_cases h4 : i < ms.length
                · have h4i : (i : Int) < ms.length := by omega
                  obtain ⟨mk, hmk⟩ : ∃ mk, mk = ms[i] := ⟨_, rfl⟩
                  have hts := take_snoc ms (·.k) h4
                  obtain ⟨qb, qo, rfl, hqb, hqr⟩ := (HMs.out.below HT.out.bel) i h4
                  rw [← hmk] at hqr hts
                  have HRq := Lib.hid hqr
                  have HTs := Lib.hid hts
                  unfold encK at HRq
                  have hl := mk.hk
                  clear hqr hts hmk
                  obtain ⟨Wd, rfl⟩ : ∃ Wd, Wd = wr := ⟨_, rfl⟩
                  go_wp2_with fail
                  go_loopw [14, 15] (fun va vj wr2 => ∃ (j : Nat), j ≤ ks.length ∧ vj = .int .i64 j ∧ va = .bool ((ks.take j).any fun y => y.k == mk.k) ∧ Hid (Below Wd.heap.size Wd wr2)) (fun _ vj _ => ks.length - (intOf vj).toNat)
                  case atStart => exact ⟨0, Nat.zero_le _, rfl, rfl, Below.refl _ _⟩
                  case round =>
                    obtain ⟨j, hj, rfl, rfl, HBj⟩ := hrel
                    by_cases h5 : j < ks.length
                    · have h5i : (j : Int) < ks.length := by omega
                      have hnx := any_next ks mk.k h5
                      obtain ⟨kb, ko, rfl, hkb, hkr⟩ := (HKs.out.below (HT.out.bel.trans (HBj.out.mono HT.out.bel.size))) j h5
                      have HRk := Lib.hid hkr
                      unfold encK at HRk
                      have hlk := ks[j].hk
                      have HRm : Hid (wr.rangeAt qb (qo + i * 25) (bC mk.k).toList) := range_of_block HRq.out (HBj.out.block _ hqb)
                      have hqb2 := Nat.lt_of_lt_of_le hqb HBj.out.size
                      have HNx := Lib.hid hnx
                      clear hkr hnx
                      generalize ks[j].k = kk at *
                      obtain ⟨db, hdb⟩ : ∃ db, (kk == mk.k) = db := ⟨_, rfl⟩
                      rw [hdb] at HNx
                      have HDb := Lib.hid hdb
                      clear hdb
                      go_upto_region 23 with fail
                      cases hat : (ks.take j).any fun y => y.k == mk.k with
                      | true =>
                        rw [hat] at HNx
                        clear hat
                        refine wp_region_quiet_below (by kernel_rfl) (by kernel_rfl) ?_
                        repeat (first
                          | go_big_quiet_skip
                          | go_big_quiet_step (fail))
                        refine wpQuiet_nil ?_
                        rintro _ ⟨⟨dq, osq⟩, rfl⟩
                        have HB9 : Hid (Below Wd.heap.size Wd (Sort.grow (redrawn wr dq) osq)) := HBj.out.trans ((below_regrown wr dq osq).mono HBj.out.size)
                        generalize Sort.grow (redrawn wr dq) osq = W9 at *
                        go_wp2_with fail
                        go_roundw
                        case rel => exact ⟨j + 1, by omega, by go_num, by rw [HNx.out]; rfl, HB9⟩
                        case measure => simp [intOf]; omega
                      | false =>
                        rw [hat] at HNx
                        clear hat
                        refine wp_region_quiet_below (by kernel_rfl) (by kernel_rfl) ?_
                        repeat (first
                          | (refine wq_ix _ rfl 64 30 (.tmp 92) (.tmp 93) rfl Try.underlying64 25 sizKey kb ko ks.length c1 j rfl rfl h5 ?_; simp only [Act.put, List.setIfInBounds_toArray, List.set_cons_zero, List.set_cons_succ])
                          | (with_reducible refine wq_ldr rfl 30 (.tmp 94) rfl kb (ko + j * 25) (bC kk).toList _ Try.underlying30 rfl (by rw [sizKey]; simp [bC, hlk]) rfl HRk.out hkb ?_; simp only [Act.put, List.setIfInBounds_toArray, List.set_cons_zero, List.set_cons_succ])
                          | (refine wq_ix _ rfl 64 30 (.tmp 96) (.tmp 97) rfl Try.underlying64 25 sizKey qb qo ms.length c2 i rfl rfl h4 ?_; simp only [Act.put, List.setIfInBounds_toArray, List.set_cons_zero, List.set_cons_succ])
                          | (with_reducible refine wq_ldr rfl 30 (.tmp 98) rfl qb (qo + i * 25) (bC mk.k).toList _ Try.underlying30 rfl (by rw [sizKey]; simp [bC, hl]) rfl HRm.out hqb2 ?_; simp only [Act.put, List.setIfInBounds_toArray, List.set_cons_zero, List.set_cons_succ])
                          | (refine wq_val (.bool db) rfl (fun w => (by rw [← HDb.out]; exact exec_eqlKey w (.tmp 95) (.tmp 99) rfl kk mk.k hlk hl rfl rfl)) ?_; simp only [Act.put, List.setIfInBounds_toArray, List.set_cons_zero, List.set_cons_succ])
                          | go_big_quiet_step (fail))
                        refine wpQuiet_nil ?_
                        rintro _ ⟨⟨dq, osq⟩, rfl⟩
                        have HB9 : Hid (Below Wd.heap.size Wd (Sort.grow (redrawn wr dq) osq)) := HBj.out.trans ((below_regrown wr dq osq).mono HBj.out.size)
                        clear HRk hkb HRm hqb2
                        generalize Sort.grow (redrawn wr dq) osq = W9 at *
                        go_wp2_with fail
                        go_roundw
                        case rel => exact ⟨j + 1, by omega, by go_num, by rw [HNx.out]; rfl, HB9⟩
                        case measure => simp [intOf]; omega
                    · have h5i : ¬ (j : Int) < ks.length := by omega
                      rw [List.take_of_length_le (by omega)]
                      have hmem := any_mem ks mk.k
                      have HT2 := Lib.hid (HT.out.below HBj.out)
                      cases hh : ks.any fun y => y.k == mk.k with
                      | true =>
                        have HLn := Lib.hid (late_skip HI.out mk.k (hmem.1 hh))
                        clear hh hmem
                        go_wp2_with fail
                        go_roundw
                        case rel => exact ⟨i + 1, ob, by omega, by go_num, HT2, by show Late _ _ _ _; rw [HTs.out]; exact HLn.out⟩
                        case measure => simp [intOf]; omega
                      | false =>
                        have HLn := Lib.hid (late_del HT.out.b.wf.sorted HI.out mk.k (fun h => by rw [hmem.2 h] at hh; cases hh))
                        have HRm : Hid (wr.rangeAt qb (qo + i * 25) (bC mk.k).toList) := range_of_block HRq.out (HBj.out.block _ hqb)
                        have KD := Lib.hid (HT2.out.swap.del mk (by omega))
                        clear hh hmem
                        go_wp2_with (first
                          | ((with_reducible refine gate_ld 30 (.tmp 107) rfl ?_); refine wl_ldr rfl 30 _ rfl qb (qo + i * 25) (bC mk.k).toList _ Try.underlying30 rfl (by rw [sizKey]; simp [bC, hl]) rfl HRm.out ?_)
                          | ((with_reducible refine gate_op (.buildSlice 64 1 #[(0, .tmp 108)]) rfl ?_); refine wl_bs1 (enc := encK) (k := 25) 64 30 25 _ Try.underlying64 infoKey kz_sz (by omega) (by omega) encK_len rfl (.tmp 108) rfl mk rfl ?_)
                          | (go_at_call 11; (refine KD.out.mono ?_); rintro e W3 ⟨⟨r', rfl⟩, ob2, ht, hall⟩; have HT3 := Lib.hid ht.swap; have HA3 := Lib.hid hall; clear ht hall))
                        go_roundw
                        case rel => exact ⟨i + 1, ob2, by omega, by go_num, HT3, by show Late _ _ _ _; rw [HA3.out, HTs.out]; exact HLn.out⟩
                        case measure => simp [intOf]; omega
                · have h4i : ¬ (i : Int) < ms.length := by omega
                  obtain rfl : ms.length = i := by omega
                  have HE : Hid (allO ob = allO oa) := by
                    have h := HI.out
                    rw [List.take_length] at h
                    exact same_ext HT.out.b.wf.sorted HT.out.a.wf.sorted (late_end h) HA1.out
                  have hal := HT.out.la
                  clear HI HA1
                  obtain ⟨Wd, rfl⟩ : ∃ Wd, Wd = wr := ⟨_, rfl⟩
                  have KA := Lib.hid (keys_any oa z25 0 Wd W0.heap.size ta rfl HT.out.a (by omega))
                  have KB : Hid (∀ W2, Two W0 W2 ta tb oa ob ks.length (ms.length + ks.length) → Calls Try.prog 24 #[ptrA tb, .agg (pC z25 0).toArray] W2 fun e W' => ∃ v xs, e = .returned v ∧ OwnE encK 30 25 W' W2.heap.size v xs ∧ xs.map (·.k) = ((allO ob).filter fun x => hasP z25 0 x.1).map (·.1) ∧ Below W2.heap.size W2 W') := fun W2 h => keys_any ob z25 0 W2 W0.heap.size tb rfl h.b (by have := h.lb; omega)
                  go_upto_region 27 with (first
                    | ((with_reducible refine gate_bd 63 _ rfl ?_); refine wl_bd rfl 63 [] rfl [] rfl (pC z25 0).toArray builtPZ ?_)
                    | (go_at_call 24; (with_reducible refine KA.out.mono ?_); rintro e V1 ⟨v1, xs, rfl, ho1, hx1, hb1⟩; have HO1 := Lib.hid ho1; have HX1 := Lib.hid hx1; have HT1 := Lib.hid (HT.out.below hb1); clear ho1 hx1 hb1)
                    | (go_at_call 24; (with_reducible refine (KB.out V1 HT1.out).mono ?_); rintro e V2 ⟨v2, ys, rfl, ho2, hx2, hb2⟩; have HO2 := Lib.hid ho2; have HX2 := Lib.hid hx2; have HT2 := Lib.hid (HT1.out.below hb2); have HO1b := Lib.hid (OwnE.below HO1.out hb2); clear ho2 hx2 hb2))
                  obtain ⟨xq, xc, rfl, _, _, hx, _⟩ := HO1b.out.at encK_len
                  obtain ⟨yq, yc, rfl, _, _, hy, _⟩ := HO2.out.at encK_len
                  have hfil : ∀ l : LE, (l.filter fun x => hasP z25 0 x.1) = l := fun l => List.filter_eq_self.2 fun x _ => hasZ _
                  have hX := HX1.out
                  have hY := HX2.out
                  rw [hfil] at hX hY
                  rw [HE.out] at hY
                  have hxl : (allO oa).length = xs.length := by have := congrArg List.length hX; simpa using this.symm
                  have hyl : ys.length = xs.length := by have := congrArg List.length (hY.trans hX.symm); simpa using this
                  have hxy : ∀ i (h : i < xs.length) (h' : i < ys.length), ys[i].k = xs[i].k := fun i h h' => by
                    have := congrArg (fun l => l[i]?) (hY.trans hX.symm)
                    simp only [List.getElem?_map] at this
                    rw [List.getElem?_eq_getElem h', List.getElem?_eq_getElem h] at this
                    simpa using this
                  have hxs : ∀ i (h : i + 1 < xs.length) (h0 : i < xs.length), ltK xs[i].k xs[i + 1].k = true := fun i h h0 => by
                    have hs := sorted_at HT2.out.a.wf.sorted (i := i) (by omega)
                    have g : ∀ j (h : j < xs.length), xs[j].k = ((allO oa)[j]'(by omega)).1 := fun j h => by
                      have := congrArg (fun l => l[j]?) hX
                      simp only [List.getElem?_map] at this
                      rw [List.getElem?_eq_getElem h, List.getElem?_eq_getElem (by omega)] at this
                      simpa using this
                    rw [g i (by omega), g (i + 1) h]
                    exact hs
                  have hx60 : xs.length ≤ 1000000 := by omega
                  have KLa : Hid (Calls Try.prog 29 #[ptrA ta] V2 fun e w' => e = .returned (.int .i64 (xs.length : Int)) ∧ V2 = w') := by
                    have := len_any V2 W0.heap.size ta oa HT2.out.a
                    rw [hxl] at this
                    exact this.mono fun e w' h => ⟨h.1, h.2.symm⟩
                  have KLb : Hid (Calls Try.prog 29 #[ptrA tb] V2 fun e w' => e = .returned (.int .i64 (xs.length : Int)) ∧ V2 = w') := by
                    have := len_any V2 W0.heap.size tb ob HT2.out.b
                    rw [HE.out, hxl] at this
                    exact this.mono fun e w' h => ⟨h.1, h.2.symm⟩
                  rw [hyl]
                  have HXs := Lib.hid hx
                  have HYs := Lib.hid hy
                  have HYl := Lib.hid hyl
                  have HXy := Lib.hid hxy
                  have HSr := Lib.hid hxs
                  clear hx hy hX hY hfil HX1 HX2 HO1 HO1b HO2 HT1 hxl hyl hxy hxs hal
                  go_upto_region 29 with (first
                    | (go_at_call 29; (with_reducible refine KLa.out.mono ?_); rintro e _ ⟨rfl, rfl⟩)
                    | (go_at_call 29; (with_reducible refine KLb.out.mono ?_); rintro e _ ⟨rfl, rfl⟩))
                  clear KLa KLb
                  go_wp2_with fail
                  go_loopw [18] (fun vi wr => ∃ (i : Nat), i ≤ xs.length ∧ vi = .int .i64 i ∧ Hid (Below V2.heap.size V2 wr)) (fun vi _ => xs.length - (intOf vi).toNat)
                  case atStart => exact ⟨0, Nat.zero_le _, rfl, Below.refl _ _⟩
                  case round =>
                    obtain ⟨i, hi, rfl, HBr⟩ := hrel
                    by_cases h6 : i < xs.length
                    · have h6i : (i : Int) < xs.length := by omega
                      obtain ⟨xb, xo, rfl, hxb, hxr⟩ := (HXs.out.below HBr.out) i h6
                      obtain ⟨yb, yo, rfl, hyb, hyr⟩ := (HYs.out.below HBr.out) i (by rw [HYl.out]; exact h6)
                      have HXr := Lib.hid hxr
                      have HYr := Lib.hid hyr
                      unfold encK at HXr HYr
                      rw [HXy.out i h6 (by rw [HYl.out]; exact h6)] at HYr
                      have hl := xs[i].hk
                      try clear hyr
                      try clear hxr
                      go_upto_region 32 with fail
                      go_cut [167] (fun v6 wx => v6 = .bool false ∧ Hid (Below V2.heap.size V2 wx))
                      case first =>
                        rcases Nat.eq_zero_or_pos i with h7 | h7
                        · have h7i : decide ((0 : Int) < (i : Int)) = false := by simp [h7]
                          refine wp_region_quiet_below (by kernel_rfl) (by kernel_rfl) ?_
                          repeat (first
                            | go_big_quiet_skip
                            | (refine wq_ix _ rfl 64 30 (.tmp 142) (.tmp 143) rfl Try.underlying64 25 sizKey xb xo xs.length xc i rfl rfl h6 ?_; simp only [Act.put, List.setIfInBounds_toArray, List.set_cons_zero, List.set_cons_succ])
                            | (with_reducible refine wq_ldr rfl 30 (.tmp 144) rfl xb (xo + i * 25) (bC xs[i].k).toList _ Try.underlying30 rfl (by rw [sizKey]; simp [bC, hl]) rfl HXr.out hxb ?_; simp only [Act.put, List.setIfInBounds_toArray, List.set_cons_zero, List.set_cons_succ])
                            | (refine wq_ix _ rfl 64 30 (.tmp 146) (.tmp 147) rfl Try.underlying64 25 sizKey yb yo xs.length yc i rfl rfl h6 ?_; simp only [Act.put, List.setIfInBounds_toArray, List.set_cons_zero, List.set_cons_succ])
                            | (with_reducible refine wq_ldr rfl 30 (.tmp 148) rfl yb (yo + i * 25) (bC xs[i].k).toList _ Try.underlying30 rfl (by rw [sizKey]; simp [bC, hl]) rfl HYr.out hyb ?_; simp only [Act.put, List.setIfInBounds_toArray, List.set_cons_zero, List.set_cons_succ])
                            | (refine wq_val (.bool false) rfl (fun w => (by simpa using exec_neqKey w (.tmp 145) (.tmp 149) rfl xs[i].k xs[i].k hl hl rfl rfl)) ?_; simp only [Act.put, List.setIfInBounds_toArray, List.set_cons_zero, List.set_cons_succ])
                            | (refine wq_val (.bool false) rfl (fun w => exec_gtI (.tmp 152) (.const (.int .i64 0)) rfl _ _ _ h7i rfl rfl) ?_; simp only [Act.put, List.setIfInBounds_toArray, List.set_cons_zero, List.set_cons_succ])
                            | go_big_quiet_step (fail))
                          refine wpQuiet_nil ?_
                          rintro _ ⟨⟨dq, osq⟩, rfl⟩
                          have HB9 : Hid (Below V2.heap.size V2 (Sort.grow (redrawn wr dq) osq)) := HBr.out.trans ((below_regrown wr dq osq).mono HBr.out.size)
                          generalize Sort.grow (redrawn wr dq) osq = W9 at *
                          go_wp2_with fail
                          go_meet
                          exact ⟨rfl, HB9⟩
                        · obtain ⟨i', rfl⟩ : ∃ i', i = i' + 1 := ⟨i - 1, by omega⟩
                          have h7i : decide ((0 : Int) < ((i' + 1 : Nat) : Int)) = true := by simp
                          have h8 : i' < xs.length := by omega
                          obtain ⟨xb2, xo2, he2, hxb2, hxr2⟩ := (HXs.out.below HBr.out) i' h8
                          have HXr2 := Lib.hid hxr2
                          unfold encK at HXr2
                          have hl2 := xs[i'].hk
                          have KL := Lib.hid (fun W => less_any xs[i'].k xs[i' + 1].k W hl2 hl)
                          rw [HSr.out i' h6 h8] at KL
                          simp only [Option.some.injEq, Addr.mk.injEq, and_true] at he2
                          obtain ⟨rfl, rfl⟩ := he2
                          generalize xs[i'].k = kp at *
                          generalize xs[i' + 1].k = kk at *
                          refine wp_region_quiet_below (by kernel_rfl) (by kernel_rfl) ?_
                          repeat (first
                            | (refine wq_ix _ rfl 64 30 (.tmp 142) (.tmp 143) rfl Try.underlying64 25 sizKey xb xo xs.length xc (i' + 1) rfl rfl h6 ?_; simp only [Act.put, List.setIfInBounds_toArray, List.set_cons_zero, List.set_cons_succ])
                            | (with_reducible refine wq_ldr rfl 30 (.tmp 144) rfl xb (xo + (i' + 1) * 25) (bC kk).toList _ Try.underlying30 rfl (by rw [sizKey]; simp [bC, hl]) rfl HXr.out hxb ?_; simp only [Act.put, List.setIfInBounds_toArray, List.set_cons_zero, List.set_cons_succ])
                            | (refine wq_ix _ rfl 64 30 (.tmp 146) (.tmp 147) rfl Try.underlying64 25 sizKey yb yo xs.length yc (i' + 1) rfl rfl h6 ?_; simp only [Act.put, List.setIfInBounds_toArray, List.set_cons_zero, List.set_cons_succ])
                            | (with_reducible refine wq_ldr rfl 30 (.tmp 148) rfl yb (yo + (i' + 1) * 25) (bC kk).toList _ Try.underlying30 rfl (by rw [sizKey]; simp [bC, hl]) rfl HYr.out hyb ?_; simp only [Act.put, List.setIfInBounds_toArray, List.set_cons_zero, List.set_cons_succ])
                            | (refine wq_ix _ rfl 64 30 (.tmp 155) (.tmp 157) rfl Try.underlying64 25 sizKey xb xo xs.length xc i' rfl rfl h8 ?_; simp only [Act.put, List.setIfInBounds_toArray, List.set_cons_zero, List.set_cons_succ])
                            | (with_reducible refine wq_ldr rfl 30 (.tmp 158) rfl xb (xo + i' * 25) (bC kp).toList _ Try.underlying30 rfl (by rw [sizKey]; simp [bC, hl2]) rfl HXr2.out hxb ?_; simp only [Act.put, List.setIfInBounds_toArray, List.set_cons_zero, List.set_cons_succ])
                            | (refine wq_ix _ rfl 64 30 (.tmp 160) (.tmp 161) rfl Try.underlying64 25 sizKey xb xo xs.length xc (i' + 1) rfl rfl h6 ?_; simp only [Act.put, List.setIfInBounds_toArray, List.set_cons_zero, List.set_cons_succ])
                            | (with_reducible refine wq_ldr rfl 30 (.tmp 162) rfl xb (xo + (i' + 1) * 25) (bC kk).toList _ Try.underlying30 rfl (by rw [sizKey]; simp [bC, hl]) rfl HXr.out hxb ?_; simp only [Act.put, List.setIfInBounds_toArray, List.set_cons_zero, List.set_cons_succ])
                            | (refine wq_val (.bool false) rfl (fun w => (by simpa using exec_neqKey w (.tmp 145) (.tmp 149) rfl kk kk hl hl rfl rfl)) ?_; simp only [Act.put, List.setIfInBounds_toArray, List.set_cons_zero, List.set_cons_succ])
                            | (refine wq_val (.bool true) rfl (fun w => exec_gtI (.tmp 152) (.const (.int .i64 0)) rfl _ _ _ h7i rfl rfl) ?_; simp only [Act.put, List.setIfInBounds_toArray, List.set_cons_zero, List.set_cons_succ])
                            | (refine wq_val (.int .i64 (i' : Int)) rfl (fun w => exec_subI (.tmp 156) rfl i' (by omega) rfl) ?_; simp only [Act.put, List.setIfInBounds_toArray, List.set_cons_zero, List.set_cons_succ])
                            | go_big_quiet_step (first | (exact rg_call KL.out _ _)))
                          refine wpQuiet_nil ?_
                          rintro _ ⟨⟨dq, osq⟩, rfl⟩
                          have HB9 : Hid (Below V2.heap.size V2 (Sort.grow (redrawn wr dq) osq)) := HBr.out.trans ((below_regrown wr dq osq).mono HBr.out.size)
                          generalize Sort.grow (redrawn wr dq) osq = W9 at *
                          go_wp2_with fail
                          go_meet
                          exact ⟨rfl, HB9⟩
                      case rest =>
                        clear HXr HYr hxb hyb HBr
                        obtain ⟨rfl, HBc⟩ := hcut
                        have HTc := Lib.hid (HT2.out.below HBc.out)
                        obtain ⟨xb, xo, he, hxb, hxr⟩ := (HXs.out.below HBc.out) i h6
                        simp only [Option.some.injEq, Addr.mk.injEq, and_true] at he
                        obtain ⟨rfl, rfl⟩ := he
                        have HXr := Lib.hid hxr
                        unfold encK at HXr
                        clear hxr
                        generalize xs[i].k = kk at *
                        go_upto_region 34 with fail
                        have hbd : Below wc.heap.size wc wc.drew := ⟨rfl, rfl, rfl, Nat.le_refl _, fun _ _ => rfl⟩
                        refine wp_region_held_drew (S := fun w' => Below wc.heap.size wc w') (by kernel_rfl) hbd (fun _ => ?_)
                        show wpAnyH Try.prog Region.Mode.any _ _ _ 14 #[false, false, false, false, false, false, false, false, false, false, false, false, false, false] _ _
                        generalize wc.drew = Wd2 at *
                        refine takeD (i := 0) (v := ptrA ta) 168 rfl rfl (by kernel_rfl) (by kernel_rfl) (by kernel_rfl) (fun _ _ _ h => h) (Or.inl ⟨rfl, fun w' hS => rfl⟩) hbd ?_
                        simp only [Act.put, List.setIfInBounds_toArray, List.set_cons_zero, List.set_cons_succ]
                        refine takeD (i := 1) (v := .slice (some ⟨xb, xo, none⟩) xs.length xc) 169 rfl rfl (by kernel_rfl) (by kernel_rfl) (by kernel_rfl) (fun _ _ _ h => h) (Or.inl ⟨rfl, fun w' hS => rfl⟩) hbd ?_
                        simp only [Act.put, List.setIfInBounds_toArray, List.set_cons_zero, List.set_cons_succ]
                        refine takeD (i := 2) (v := .int .i64 (i : Int)) 170 rfl rfl (by kernel_rfl) (by kernel_rfl) (by kernel_rfl) (fun _ _ _ h => h) (Or.inl ⟨rfl, fun w' hS => rfl⟩) hbd ?_
                        simp only [Act.put, List.setIfInBounds_toArray, List.set_cons_zero, List.set_cons_succ]
                        refine takeD (i := 3) (v := .pointer (some ⟨xb, xo + i * 25, none⟩)) 171 rfl rfl (by kernel_rfl) (by kernel_rfl) (by kernel_rfl) (fun _ _ _ h => h) (Or.inl ⟨rfl, fun w' hS => exec_ixK (.tmp 169) (.tmp 170) rfl xb xo xs.length xc i rfl rfl h6⟩) hbd ?_
                        simp only [Act.put, List.setIfInBounds_toArray, List.set_cons_zero, List.set_cons_succ]
                        refine takeD (i := 4) (v := .agg (bC kk)) 172 rfl rfl (by kernel_rfl) (by kernel_rfl) (by kernel_rfl) (fun _ _ _ h => h) (Or.inl ⟨rfl, fun w' hS => exec_ldr 30 (.tmp 171) rfl xb (xo + i * 25) (bC kk).toList _ Try.underlying30 rfl (by rw [sizKey]; simp [bC, hl]) rfl (range_of_block HXr.out (hS.block _ hxb))⟩) hbd ?_
                        simp only [Act.put, List.setIfInBounds_toArray, List.set_cons_zero, List.set_cons_succ]
                        refine takeD (i := 6) (v := ptrA tb) 174 rfl rfl (by kernel_rfl) (by kernel_rfl) (by kernel_rfl) (fun _ _ _ h => h) (Or.inl ⟨rfl, fun w' hS => rfl⟩) hbd ?_
                        simp only [Act.put, List.setIfInBounds_toArray, List.set_cons_zero, List.set_cons_succ]
                        refine takeD (i := 7) (v := .slice (some ⟨xb, xo, none⟩) xs.length xc) 175 rfl rfl (by kernel_rfl) (by kernel_rfl) (by kernel_rfl) (fun _ _ _ h => h) (Or.inl ⟨rfl, fun w' hS => rfl⟩) hbd ?_
                        simp only [Act.put, List.setIfInBounds_toArray, List.set_cons_zero, List.set_cons_succ]
                        refine takeD (i := 8) (v := .int .i64 (i : Int)) 176 rfl rfl (by kernel_rfl) (by kernel_rfl) (by kernel_rfl) (fun _ _ _ h => h) (Or.inl ⟨rfl, fun w' hS => rfl⟩) hbd ?_
                        simp only [Act.put, List.setIfInBounds_toArray, List.set_cons_zero, List.set_cons_succ]
                        refine takeD (i := 9) (v := .pointer (some ⟨xb, xo + i * 25, none⟩)) 177 rfl rfl (by kernel_rfl) (by kernel_rfl) (by kernel_rfl) (fun _ _ _ h => h) (Or.inl ⟨rfl, fun w' hS => exec_ixK (.tmp 175) (.tmp 176) rfl xb xo xs.length xc i rfl rfl h6⟩) hbd ?_
                        simp only [Act.put, List.setIfInBounds_toArray, List.set_cons_zero, List.set_cons_succ]
                        refine takeD (i := 10) (v := .agg (bC kk)) 178 rfl rfl (by kernel_rfl) (by kernel_rfl) (by kernel_rfl) (fun _ _ _ h => h) (Or.inl ⟨rfl, fun w' hS => exec_ldr 30 (.tmp 177) rfl xb (xo + i * 25) (bC kk).toList _ Try.underlying30 rfl (by rw [sizKey]; simp [bC, hl]) rfl (range_of_block HXr.out (hS.block _ hxb))⟩) hbd ?_
                        simp only [Act.put, List.setIfInBounds_toArray, List.set_cons_zero, List.set_cons_succ]
                        refine oneH 5 (by kernel_rfl) (wpOp_call rfl rfl (exec_calls rfl (enters_of Try.func22 (by kernel_rfl) rfl) (vs := #[ptrA ta, .agg (bC kk)]) (by simp [Act.eval]) Wd2) (branch_any oa kk Wd2 W0.heap.size ta hl (HTc.out.below hbd).a) ?_)
                        rintro e U1 ⟨v1, rfl, ho1, hu1⟩
                        have hd1 : Below wc.heap.size wc U1 := hbd.trans (hu1.mono hbd.size)
                        refine ⟨_, rfl, hd1, ?_⟩
                        simp only [Act.put, List.setIfInBounds_toArray, List.set_cons_zero, List.set_cons_succ]
                        refine oneH 11 (by kernel_rfl) (wpOp_call rfl rfl (exec_calls rfl (enters_of Try.func22 (by kernel_rfl) rfl) (vs := #[ptrA tb, .agg (bC kk)]) (by simp [Act.eval]) U1) (branch_any ob kk U1 W0.heap.size tb hl (HTc.out.below hd1).b) ?_)
                        rintro e U3 ⟨v3, rfl, ho3, hu3⟩
                        have hd3 : Below wc.heap.size wc U3 := hd1.trans (hu3.mono hd1.size)
                        refine ⟨_, rfl, hd3, ?_⟩
                        simp only [Act.put, List.setIfInBounds_toArray, List.set_cons_zero, List.set_cons_succ]
                        refine oneH 12 (by kernel_rfl) (wpOp_as rfl rfl (.tmp 173) rfl v1 rfl ⟨hd3, ?_⟩)
                        refine oneH 13 (by kernel_rfl) (wpOp_as rfl rfl (.tmp 179) rfl v3 rfl ⟨hd3, ?_⟩)
                        refine wpAnyH_done (by kernel_rfl) ?_ _
                        rw [HE.out] at ho3
                        have ho13 : OwnE encI 3 1 U3 Wd2.heap.size v1 (brL (allO oa) kk) := OwnE.below ho1 hu3
                        obtain ⟨aq, ac, rfl, _, _, hx1, _⟩ := ho13.at encI_len
                        obtain ⟨bq, bc, rfl, _, _, hx3, _⟩ := ho3.at encI_len
                        have HXa := Lib.hid hx1
                        have HXb := Lib.hid hx3
                        have HBV : Hid (Below V2.heap.size V2 U3) := HBc.out.trans (hd3.mono HBc.out.size)
                        clear hd1 hd3 hu1 hu3 ho1 ho3 ho13 hx1 hx3 hbd HTc HXr hxb
                        simp only [Act.put, List.getElem_toArray, List.getElem_cons_zero, List.getElem_cons_succ, List.setIfInBounds_toArray, List.set_cons_zero, List.set_cons_succ]
                        have hbl := brL_len2 (allO oa) kk
                        generalize brL (allO oa) kk = bl at *
                        go_wp2_with fail
                        obtain ⟨Wf, rfl⟩ : ∃ Wf, Wf = wr := ⟨_, rfl⟩
                        go_loopw [21] (fun vt wr2 => ∃ (t : Nat), t ≤ bl.length ∧ vt = .int .i64 t ∧ Hid (Below U3.heap.size U3 wr2)) (fun vt _ => bl.length - (intOf vt).toNat)
                        case atStart => exact ⟨0, Nat.zero_le _, rfl, Below.refl _ _⟩
                        case round =>
                          obtain ⟨t, ht, rfl, HBt⟩ := hrel
                          by_cases h9 : t < bl.length
                          · have h9i : (t : Int) < bl.length := by omega
                            obtain ⟨ab, ao, rfl, hab, har⟩ := (HXa.out.below HBt.out) t h9
                            obtain ⟨bb, bo, rfl, hbb, hbr⟩ := (HXb.out.below HBt.out) t h9
                            have hcx : wr.cell? ⟨ab, ao + t * 1, none⟩ = some (.int .i64 (bl[t] : Int)) := by simpa using har 0 _ rfl
                            have hcy : wr.cell? ⟨bb, bo + t * 1, none⟩ = some (.int .i64 (bl[t] : Int)) := by simpa using hbr 0 _ rfl
                            generalize (bl[t] : Int) = bv at *
                            clear har hbr
                            go_upto_region 40 with fail
                            refine wp_region_quiet_below (by kernel_rfl) (by kernel_rfl) ?_
                            repeat (first
                              | (refine wq_ix _ rfl 58 3 (.tmp 191) (.tmp 192) rfl Try.underlying58 1 sizIn ab ao bl.length ac t rfl rfl h9 ?_; simp only [Act.put, List.setIfInBounds_toArray, List.set_cons_zero, List.set_cons_succ])
                              | (refine wq_ix _ rfl 58 3 (.tmp 195) (.tmp 196) rfl Try.underlying58 1 sizIn bb bo bl.length bc t rfl rfl h9 ?_; simp only [Act.put, List.setIfInBounds_toArray, List.set_cons_zero, List.set_cons_succ])
                              | (refine wq_ld1 rfl 3 (.tmp 193) rfl ab (ao + t * 1) (.int .i64 bv) ag3 rfl hcx hab ?_; simp only [Act.put, List.setIfInBounds_toArray, List.set_cons_zero, List.set_cons_succ])
                              | (refine wq_ld1 rfl 3 (.tmp 197) rfl bb (bo + t * 1) (.int .i64 bv) ag3 rfl hcy hbb ?_; simp only [Act.put, List.setIfInBounds_toArray, List.set_cons_zero, List.set_cons_succ])
                              | (refine wq_val (.bool false) rfl (fun w => exec_neI (.tmp 194) (.tmp 198) rfl bv rfl rfl) ?_; simp only [Act.put, List.setIfInBounds_toArray, List.set_cons_zero, List.set_cons_succ])
                              | go_big_quiet_step (fail))
                            refine wpQuiet_nil ?_
                            rintro _ ⟨⟨dq, osq⟩, rfl⟩
                            have HB9 : Hid (Below U3.heap.size U3 (Sort.grow (redrawn wr dq) osq)) := HBt.out.trans ((below_regrown wr dq osq).mono HBt.out.size)
                            clear hcx hcy hab hbb
                            generalize Sort.grow (redrawn wr dq) osq = W9 at *
                            go_wp2_with fail
                            go_roundw
                            case rel => exact ⟨t + 1, by omega, by go_num, HB9⟩
                            case measure => simp [intOf]; omega
                          · have h9i : ¬ (t : Int) < bl.length := by omega
                            have HBf : Hid (Below V2.heap.size V2 wr) := HBV.out.trans (HBt.out.mono HBV.out.size)
                            go_wp2_with fail
                            go_roundw
                            case rel => exact ⟨i + 1, by omega, by go_num, HBf⟩
                            case measure => simp [intOf]; omega
                    · have h6i : ¬ (i : Int) < xs.length := by omega
                      go_wp2_with (first
                        | (go_at_call 17; (refine (known_any _).mono ?_); rintro e W9 ⟨rfl, hb9⟩; have HB9 := Lib.hid (HBr.out.trans (hb9.mono HBr.out.size)); clear hb9))
                      go_ret
                      exact ⟨rfl, HBw.out.trans ((HT2.out.bel.trans (HB9.out.mono HT2.out.bel.size)).mono HBw.out.size)⟩
end Go.Proofs.Ytagdedjclbmlkaa
