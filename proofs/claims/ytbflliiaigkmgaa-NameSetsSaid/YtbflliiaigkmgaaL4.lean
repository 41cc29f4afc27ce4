/- PROVED: for every slice of names the law NameSorts returns true and leaves its argument as it was. No condition. -/
import Derived.Test.YtbflliiaigkmgaaN6
namespace Go.Proofs.Ytbflliiaigkmgaa
open Go.ChangeShapes Go.WideShapes Go.ChangeAt Go.RowKit Go.Deep

theorem RowsAt.shape {w : World} {v : Value} {ns : List (List UInt8)} (h : RowsAt w v ns) (h12 : All12 ns) : ∃ p cap, v = .slice p ns.length cap ∧ ∀ i (hi : i < ns.length), ∃ g o, p = some ⟨g, o, none⟩ ∧ g < w.heap.size ∧ w.rangeAt g (o + i * 12) (bC ns[i]).toList := by
  rcases h with ⟨rfl, rfl⟩ | ⟨b, o, cap, rfl, hc, hb, hr⟩
  · exact ⟨none, 0, rfl, fun i hi => by simp at hi⟩
  · exact ⟨_, _, rfl, fun i hi => ⟨b, o, rfl, hb, range_elem hr h12 i hi⟩⟩

/-- What is read through a slice's pointer. -/
def RowP (w : World) (p : Option Addr) (S : List (List UInt8)) : Prop := ∀ i (hi : i < S.length), ∃ g o, p = some ⟨g, o, none⟩ ∧ g < w.heap.size ∧ w.rangeAt g (o + i * 12) (bC S[i]).toList
theorem RowP.below {w w' : World} {p : Option Addr} {S : List (List UInt8)} (h : RowP w p S) (hb : Below w.heap.size w w') : RowP w' p S := fun i hi => by
  obtain ⟨g, o, h1, h2, h3⟩ := h i hi
  exact ⟨g, o, h1, Nat.lt_of_lt_of_le h2 hb.size, range_of_block h3 (hb.block g h2)⟩
theorem RowsAt.rowP {w : World} {v : Value} {S : List (List UInt8)} (h : RowsAt w v S) (h12 : All12 S) (L : Nat) (hL : S.length = L) : ∃ p cap, v = .slice p L cap ∧ RowP w p S := by
  subst hL; exact h.shape h12

/-- A sorted row, as a slice of its length. -/
def SortPost (S : List (List UInt8)) (L : Nat) (w : World) (e : Ending) (w' : World) : Prop := Below w.heap.size w w' ∧ ∃ p cap, e = .returned (.slice p L cap) ∧ RowP w' p S
theorem sortN_post (v : Value) (ns : List (List UInt8)) (w : World) (hv : RowsAt w v ns) (h12 : All12 ns) (hlen : ns.length ≤ 1000000) (L : Nat) (hL : (insAll (rights ns)).length = L) :
    Calls Try.prog 23 #[v] w (SortPost (insAll (rights ns)) L w) := (sortN_any v ns w hv h12 hlen).mono fun e w' ⟨hb, v', he, ho⟩ => by
  obtain ⟨p, cap, rfl, h⟩ := ho.rows.rowP (all12_perm (insAll_perm _) (rights_12 h12)) L hL
  exact ⟨hb, p, cap, he, h⟩

theorem newAt_pos {S : List (List UInt8)} {k : Nat} (h0 : k ≠ 0) (hk : k < S.length) (hk1 : k - 1 < S.length) : newAt S k = !(S[k] == S[k - 1]) := by
  simp [newAt, h0, List.getD, hk, hk1]

theorem run_len49 (w : World) (r : Nat) (l : List Ent) (c m : Nat) (hr : w.heap[r]? = some (mObj l c)) (hl : l.length = m) : (Builtin.len_ #[49] 3 #[.map (some r)]).run Try.prog w = .ok (.int .i64 m) w := by
  have hg : (getObj r).run Try.prog w = .ok (mObj l c) w := by simp [getObj, Sem.run, hr, mObj]
  subst hl
  simp [Builtin.len_, run_underlying Try.underlying49, hg, mObj, Result.andThen, goInt]

set_option maxHeartbeats 1600000 in
theorem NameSorts_walkB (b o cap n m : Nat) (ms : List (List UInt8)) (w : World) (hm : ms.length = m) (hmin : min (n : Int) 40 = (m : Int)) (hcap : n ≤ cap) (hcm : cap ≤ maxLen) (hb : b < w.heap.size) (h12 : All12 ms) (hrg : w.rangeAt b o (bC ms.flatten).toList) :
    Calls Try.prog 6 #[.slice (some ⟨b, o, none⟩) n cap] w fun e w' => e = .returned (.bool true) ∧ Below w.heap.size w w' := by
  have h40 : m ≤ 40 := by omega
  have hmn : m ≤ n := by omega
  unfold maxLen at hcm
  have HM := Lib.hid hm
  have H12 := Lib.hid h12
  have HRG := Lib.hid hrg
  have HB := Lib.hid hb
  clear h12 hrg hb hm
  go_enter Try.func6, Try.ntmps6
  go_wp2_with fail
  go_loopw [3, 4] (fun c i wr => ∃ k : Nat, k ≤ m ∧ i = .int .i64 k ∧ Hid (RowsAt wr c (insAll (rights (ms.take k)))) ∧ Hid (Below w.heap.size w wr)) (fun _ i _ => m - (intOf i).toNat)
  case atStart => exact ⟨0, Nat.zero_le _, rfl, .inl ⟨rfl, rfl⟩, Below.refl _ _⟩
  case round =>
    obtain ⟨k, hk, rfl, HO, HBel⟩ := hrel
    by_cases hlt : k < m
    · have hk2 : k < ms.length := by rw [HM.out]; exact hlt
      have hnk : Hid (ms[k].length = 12) := H12.out _ (List.getElem_mem hk2)
      have hrk : Hid (wr.rangeAt b (o + k * 12) (bC ms[k]).toList) := range_of_block (range_elem HRG.out H12.out k hk2) (HBel.out.block b HB.out)
      have HA : Hid (rights (ms.take (k + 1)) = rights (ms.take k) ++ if rightB ms[k] then [ms[k]] else []) := rights_snoc ms k hk2
      have H12k : Hid (All12 (insAll (rights (ms.take k)))) := all12_perm (insAll_perm _) (rights_12 fun x hx => H12.out x (List.mem_of_mem_take hx))
      have hcl : Hid ((insAll (rights (ms.take k))).length ≤ 1000000) := by
        show (insAll (rights (ms.take k))).length ≤ 1000000
        rw [(insAll_perm _).length_eq]
        have := Nat.le_trans (List.length_filter_le rightB (ms.take k)) (List.length_take_le _ _)
        have : (rights (ms.take k)).length ≤ k := this
        omega
      have hz : w.heap.size ≤ wr.heap.size := HBel.out.size
      have hne0 : rightB ms[k] = false → (⟨(textL ms[k]).toArray⟩ : ByteArray) = ⟨#[]⟩ := fun h => by rw [textL_no h]
      have hne1 : rightB ms[k] = true → (⟨(textL ms[k]).toArray⟩ : ByteArray).toList.isEmpty = false := fun h => by
        rw [ByteArray.toList_eq]
        have h1 := textL_yes h
        cases ht : textL ms[k] with
        | nil => rw [ht] at h1; simp at h1
        | cons x l => rfl
      generalize ms[k] = nk at *
      have hk3 : (k : Int) < (m : Int) := by omega
      have HT : Hid (∀ W : World, Calls Try.prog 14 #[.agg (bC nk)] W fun e w' => e = .returned (.string ⟨(textL nk).toArray⟩) ∧ Below W.heap.size W w') := fun W => refText_any nk W hnk.out
      generalize (⟨(textL nk).toArray⟩ : ByteArray) = tx at *
      cases hr : rightB nk
      case false =>
        rw [hr] at HA
        obtain rfl := hne0 hr
        clear hr hne0 hne1
        go_wp2_with (first
          | (with_reducible refine ldmid23 rfl _ rfl b (o + k * 12) nk rfl hnk.out hrk.out ?_)
          | (go_at_call 14; (with_reducible refine (HT.out _).mono ?_); rintro e w1 ⟨rfl, hb1⟩))
        have HB2 : Hid (Below w.heap.size w w1) := HBel.out.trans (hb1.mono HBel.out.size)
        have HO2 : Hid (RowsAt w1 u3 (insAll (rights (ms.take k)))) := HO.out.below hb1 (Nat.le_refl _)
        go_roundw
        case rel =>
          refine ⟨k + 1, by omega, by go_num, ?_, HB2.out⟩
          rw [HA.out]
          show RowsAt w1 u3 (insAll (rights (ms.take k) ++ []))
          rw [List.append_nil]; exact HO2.out
        case measure => simp [intOf]; omega
      case true =>
        rw [hr] at HA
        have hne := hne1 hr
        clear hr hne0 hne1
        go_upto_region 7 with (first
          | (with_reducible refine ldmid23 rfl _ rfl b (o + k * 12) nk rfl hnk.out hrk.out ?_)
          | (go_at_call 14; (with_reducible refine (HT.out _).mono ?_); rintro e w1 ⟨rfl, hb1⟩))
        have HB2 : Hid (Below w.heap.size w w1) := HBel.out.trans (hb1.mono HBel.out.size)
        have HO2 : Hid (RowsAt w1 u3 (insAll (rights (ms.take k)))) := HO.out.below hb1 (Nat.le_refl _)
        have hrk1 : Hid (w1.rangeAt b (o + k * 12) (bC nk).toList) := range_of_block hrk.out (hb1.block b (Nat.lt_of_lt_of_le HB.out hz))
        have HI : Hid (Calls Try.prog 22 #[u3, .agg (bC nk)] w1 fun e w' => Below w1.heap.size w1 w' ∧ ∃ v', e = .returned v' ∧ Own w' w1.heap.size 22 v' (insL nk (insAll (rights (ms.take k))))) := insert_any u3 _ nk w1 HO2.out H12k.out hnk.out hcl.out
        clear hne hb1
        go_wp2_with (first
          | (with_reducible refine ldmid23 rfl _ rfl b (o + k * 12) nk rfl hnk.out hrk1.out ?_)
          | (go_at_call 22; (with_reducible refine HI.out.mono ?_); rintro e w2 ⟨hb2, v', rfl, ho2⟩))
        go_roundw
        case rel =>
          refine ⟨k + 1, by omega, by go_num, ?_, HB2.out.trans (hb2.mono HB2.out.size)⟩
          rw [HA.out]
          show RowsAt w2 v' (insAll (rights (ms.take k) ++ [nk]))
          rw [insAll_snoc]; exact ho2.rows
        case measure => simp [intOf]; omega
    · obtain rfl : k = m := by omega
      have HTK : Hid (ms.take k = ms) := List.take_of_length_le (by rw [HM.out]; exact Nat.le_refl _)
      have H12S : Hid (All12 (insAll (rights ms))) := all12_perm (insAll_perm _) (rights_12 H12.out)
      have HSR : Hid (SortedL (insAll (rights ms))) := insAll_sorted _ (rights_12 H12.out)
      have HO1 : Hid (RowsAt wr u3 (insAll (rights ms))) := by have := HO.out; rw [HTK.out] at this; exact this
      have hl0 : (insAll (rights ms)).length ≤ 40 := by
        rw [(insAll_perm _).length_eq]
        have := List.length_filter_le rightB ms
        have : (rights ms).length ≤ ms.length := this
        rw [HM.out] at this; omega
      obtain ⟨L, hL⟩ : ∃ L, Hid ((insAll (rights ms)).length = L) := ⟨_, rfl⟩
      rw [hL.out] at hl0
      have HCntS : Hid (∀ x, (rights ms).count x = (insAll (rights ms)).count x) := fun x => ((insAll_perm (rights ms)).count_eq x).symm
      have HSZ : Hid (∀ W r, CntIs W r (rights ms) → ∃ l c, W.heap[r]? = some (mObj l c) ∧ l.length = (runTo (insAll (rights ms)) L).length) := fun W r h => by
        have := h.size (rights_12 H12.out); rw [hL.out] at this; exact this
      obtain ⟨pw, cw, hu3, HPW0⟩ := HO1.out.rowP H12S.out L hL.out
      subst hu3
      have HPW := Lib.hid HPW0
      have HRM : Hid (∀ W, Below wr.heap.size wr W → RowsAt W (.slice (some ⟨b, o, none⟩) k cap) ms) := fun W hW => .inr ⟨b, o, cap, by rw [HM.out], by rw [HM.out]; omega, Nat.lt_of_lt_of_le (Nat.lt_of_lt_of_le HB.out HBel.out.size) hW.size, range_of_block HRG.out ((hW.block b (Nat.lt_of_lt_of_le HB.out HBel.out.size)).trans (HBel.out.block b HB.out))⟩
      have HSort : Hid (Calls Try.prog 23 #[.slice (some ⟨b, o, none⟩) k cap] wr (SortPost (insAll (rights ms)) L wr)) := sortN_post _ ms wr (HRM.out _ (Below.refl _ _)) H12.out (by rw [HM.out]; omega) L hL.out
      have HCount : Hid (∀ W, Below wr.heap.size wr W → Calls Try.prog 24 #[.slice (some ⟨b, o, none⟩) k cap] W fun e w' => Below W.heap.size W w' ∧ e = .returned (.map (some W.heap.size)) ∧ CntIs w' W.heap.size (rights ms)) := fun W hW => count_any _ ms W (HRM.out W hW) H12.out (by rw [HM.out]; omega)
      clear HPW0 HRM HRG HO HTK
      generalize rights ms = R at *
      generalize insAll R = S at *
      clear hmin hcap hcm
      go_upto_region 9 with (first
        | (go_at_call 23; (with_reducible refine HSort.out.mono ?_); rintro e w1 ⟨hb1, px, cx, rfl, hpx⟩)
        | (go_at_call 24; (with_reducible refine (HCount.out _ hb1).mono ?_); rintro e w2 ⟨hb2, rfl, hcnt⟩))
      have HB2 : Hid (Below w.heap.size w w2) := (HBel.out.trans (hb1.mono HBel.out.size)).trans (hb2.mono (HBel.out.trans (hb1.mono HBel.out.size)).size)
      have HX := Lib.hid (hpx.below hb2)
      have HW := Lib.hid ((HPW.out.below hb1).below hb2)
      have HR2 := Lib.hid ((HO1.out.below hb1 (Nat.le_refl _)).below hb2 (Nat.le_refl _))
      have HC := Lib.hid hcnt
      clear hpx hcnt HPW HO1 HSort HCount HBel hb1 hb2
      generalize w1.heap.size = r at *
      go_wp2_with fail
      go_loopw [7, 8] (fun kd i wr => ∃ j : Nat, j ≤ L ∧ i = .int .i64 j ∧ kd = .int .i64 ((runTo S j).length : Nat) ∧ Hid (Below w2.heap.size w2 wr)) (fun _ i _ => L - (intOf i).toNat)
      case atStart => exact ⟨0, Nat.zero_le _, rfl, rfl, Below.refl _ _⟩
      case round =>
        obtain ⟨j, hj, rfl, rfl, HQ⟩ := hrel
        by_cases hjl : j < L
        · have hj2 : j < S.length := by rw [hL.out]; exact hjl
          have hj3 : (j : Int) < (L : Int) := by omega
          have hsj : Hid (S[j].length = 12) := H12S.out _ (List.getElem_mem hj2)
          obtain ⟨gx, ox, epx, hgx, hrx⟩ := HX.out j hj2
          obtain ⟨gw, ow, epw, hgw, hrw⟩ := HW.out j hj2
          subst epx epw
          have hrx1 : Hid (wr.rangeAt gx (ox + j * 12) (bC S[j]).toList) := range_of_block hrx (HQ.out.block gx hgx)
          have hrw1 : Hid (wr.rangeAt gw (ow + j * 12) (bC S[j]).toList) := range_of_block hrw (HQ.out.block gw hgw)
          have hgx1 : Hid (gx < wr.heap.size) := Nat.lt_of_lt_of_le hgx HQ.out.size
          have hgw1 : Hid (gw < wr.heap.size) := Nat.lt_of_lt_of_le hgw HQ.out.size
          have HCq : Hid (CntIs wr r R) := HC.out.block (HQ.out.block r HC.out.lt)
          have HIn : Hid (∀ W, Below wr.heap.size wr W → Calls Try.prog 25 #[.slice (some ⟨gw, ow, none⟩) L cw, .agg (bC S[j])] W fun e w' => e = .returned (.int .i64 (R.count S[j] : Nat)) ∧ Below W.heap.size W w') := fun W hW => by
            have h := in_any _ S S[j] W ((HR2.out.below HQ.out (Nat.le_refl _)).below hW (Nat.le_refl _)) H12S.out hsj.out (by rw [hL.out]; unfold maxLen; omega)
            rw [← HCntS.out] at h; exact h
          have hkl : (runTo S j).length ≤ j := runTo_le S j
          have HN : Hid ((runTo S (j + 1)).length = (runTo S j).length + if newAt S j then 1 else 0) := runTo_len S j
          have hneq : ∀ W, (binOp .neq 22 (.agg (bC S[j])) (.agg (bC S[j]))).run Try.prog W = .ok (.bool false) W := fun W => by
            rw [neq22 W _ _ hsj.out hsj.out]; simp
          by_cases hj0 : j = 0
          · have hnw : Hid (newAt S j = true) := by subst hj0; rfl
            generalize S[j] = sj at *
            obtain ⟨ct, hct⟩ : ∃ ct, Hid (R.count sj = ct) := ⟨_, rfl⟩
            rw [hct.out] at HIn
            have HJ0 := Lib.hid hj0
            clear hj0
            go_wp2_with fail
            refine wp_region_quiet_below (by kernel_rfl) (by kernel_rfl) ?_
            repeat (first
              | (with_reducible refine wq_ldmid23 _ gx (ox + j * 12) sj rfl rfl rfl hrx1.out hgx1.out hsj.out ?_; simp only [Act.put, List.setIfInBounds_toArray, List.set_cons_zero, List.set_cons_succ])
              | (with_reducible refine wq_ldmid22 _ gw (ow + j * 12) sj rfl rfl rfl hrw1.out hgw1.out hsj.out ?_; simp only [Act.put, List.setIfInBounds_toArray, List.set_cons_zero, List.set_cons_succ])
              | (with_reducible refine wq_look49 _ _ r R sj rfl rfl rfl rfl HCq.out hsj.out ?_; simp only [Act.put, List.setIfInBounds_toArray, List.set_cons_zero, List.set_cons_succ, hct.out])
              | go_big_quiet_step (exact Calls.regrown_of (HIn.out _ (below_regrown _ _ _))))
            refine wpQuiet_nil ?_
            rintro _ ⟨⟨dq, osq⟩, rfl⟩
            have HQ2 : Hid (Below w2.heap.size w2 (Sort.grow (redrawn wr dq) osq)) := HQ.out.trans ((below_regrown wr dq osq).mono HQ.out.size)
            have hrx2 : Hid ((Sort.grow (redrawn wr dq) osq).rangeAt gx (ox + j * 12) (bC sj).toList) := range_of_block hrx1.out ((below_regrown wr dq osq).block gx hgx1.out)
            have hgx2 : Hid (gx < (Sort.grow (redrawn wr dq) osq).heap.size) := Nat.lt_of_lt_of_le hgx1.out (below_regrown wr dq osq).size
            clear hneq HIn hrx1 hrw1 HCq HQ hgx1 hgw1
            generalize Sort.grow (redrawn wr dq) osq = w4 at *
            rw [hnw.out] at HN
            have hjz : (j : Int) = 0 := by rw [HJ0.out]; rfl
            go_wp2_with fail
            refine wp_region_quiet_below (by kernel_rfl) (by kernel_rfl) ?_
            repeat (go_big_quiet_step (fail))
            refine wpQuiet_nil ?_
            rintro _ ⟨⟨dq5, osq5⟩, rfl⟩
            have HQ3 : Hid (Below w2.heap.size w2 (Sort.grow (redrawn w4 dq5) osq5)) := HQ2.out.trans ((below_regrown w4 dq5 osq5).mono HQ2.out.size)
            generalize Sort.grow (redrawn w4 dq5) osq5 = w5 at *
            go_wp2_with fail
            go_roundw
            case rel => exact ⟨j + 1, by omega, by go_num, by rw [HN.out]; first | rfl | simp, HQ3.out⟩
            case measure => simp [intOf]; omega
          · have hj1 : j - 1 < S.length := by omega
            have hsp : Hid (S[j - 1].length = 12) := H12S.out _ (List.getElem_mem hj1)
            have hrp : Hid (wr.rangeAt gx (ox + (j - 1) * 12) (bC S[j - 1]).toList) := by
              obtain ⟨g', o', e', _, h'⟩ := HX.out (j - 1) hj1
              simp only [Option.some.injEq, Addr.mk.injEq] at e'
              obtain ⟨rfl, rfl, _⟩ := e'
              exact range_of_block h' (HQ.out.block gx hgx)
            have hnw : Hid (newAt S j = !(S[j] == S[j - 1])) := newAt_pos hj0 hj2 hj1
            have hnp := fun W => neq23 W S[j] S[j - 1] hsj.out hsp.out
            rw [← hnw.out] at hnp
            have hjj : ¬ (j : Int) = 0 := by omega
            have hjb : ((j : Int) == 0) = false := by simpa using hj0
            have hjd : decide (j = 0) = false := by simpa using hj0
            have hje : decide ((j : Int) = 0) = false := by simpa using hj0
            have hjn : (j == 0) = false := by simpa using hj0
            have hjm : IntKind.i64.wrap ((j : Int) - 1) = ((j - 1 : Nat) : Int) := by rw [IntKind.wrap_i64]; omega
            have hjp : ((j - 1 : Nat) : Int) < (L : Int) := by omega
            generalize S[j] = sj at *
            generalize S[j - 1] = sp at *
            obtain ⟨ct, hct⟩ : ∃ ct, Hid (R.count sj = ct) := ⟨_, rfl⟩
            rw [hct.out] at HIn
            go_wp2_with fail
            refine wp_region_quiet_below (by kernel_rfl) (by kernel_rfl) ?_
            repeat (first
              | (with_reducible refine wq_ldmid23 _ gx (ox + j * 12) sj rfl rfl rfl hrx1.out hgx1.out hsj.out ?_; simp only [Act.put, List.setIfInBounds_toArray, List.set_cons_zero, List.set_cons_succ])
              | (with_reducible refine wq_ldmid22 _ gw (ow + j * 12) sj rfl rfl rfl hrw1.out hgw1.out hsj.out ?_; simp only [Act.put, List.setIfInBounds_toArray, List.set_cons_zero, List.set_cons_succ])
              | (with_reducible refine wq_look49 _ _ r R sj rfl rfl rfl rfl HCq.out hsj.out ?_; simp only [Act.put, List.setIfInBounds_toArray, List.set_cons_zero, List.set_cons_succ, hct.out])
              | go_big_quiet_step (exact Calls.regrown_of (HIn.out _ (below_regrown _ _ _))))
            refine wpQuiet_nil ?_
            rintro _ ⟨⟨dq, osq⟩, rfl⟩
            have HQ2 : Hid (Below w2.heap.size w2 (Sort.grow (redrawn wr dq) osq)) := HQ.out.trans ((below_regrown wr dq osq).mono HQ.out.size)
            have hrx2 : Hid ((Sort.grow (redrawn wr dq) osq).rangeAt gx (ox + j * 12) (bC sj).toList) := range_of_block hrx1.out ((below_regrown wr dq osq).block gx hgx1.out)
            have hgx2 : Hid (gx < (Sort.grow (redrawn wr dq) osq).heap.size) := Nat.lt_of_lt_of_le hgx1.out (below_regrown wr dq osq).size
            have hrp2 : Hid ((Sort.grow (redrawn wr dq) osq).rangeAt gx (ox + (j - 1) * 12) (bC sp).toList) := range_of_block hrp.out ((below_regrown wr dq osq).block gx hgx1.out)
            clear hneq HIn hrx1 hrw1 hrp HCq HQ hgx1 hgw1
            generalize Sort.grow (redrawn wr dq) osq = w4 at *
            cases hb : newAt S j
            all_goals
              rw [hb] at hnp HN
              clear hb
              go_wp2_with fail
              refine wp_region_quiet_below (by kernel_rfl) (by kernel_rfl) ?_
              repeat (first
                | (with_reducible refine wq_ldmid23 _ gx (ox + j * 12) sj rfl rfl rfl hrx2.out hgx2.out hsj.out ?_; simp only [Act.put, List.setIfInBounds_toArray, List.set_cons_zero, List.set_cons_succ])
                | (with_reducible refine wq_ldmid23 _ gx (ox + (j - 1) * 12) sp rfl rfl rfl hrp2.out hgx2.out hsp.out ?_; simp only [Act.put, List.setIfInBounds_toArray, List.set_cons_zero, List.set_cons_succ])
                | go_big_quiet_step (fail))
              refine wpQuiet_nil ?_
              rintro _ ⟨⟨dq5, osq5⟩, rfl⟩
              have HQ3 : Hid (Below w2.heap.size w2 (Sort.grow (redrawn w4 dq5) osq5)) := HQ2.out.trans ((below_regrown w4 dq5 osq5).mono HQ2.out.size)
              clear hnp
              generalize Sort.grow (redrawn w4 dq5) osq5 = w5 at *
              go_wp2_with fail
              go_roundw
              case rel => exact ⟨j + 1, by omega, by go_num, by rw [HN.out]; first | rfl | simp, HQ3.out⟩
              case measure => simp [intOf]; omega
        · obtain rfl : j = L := by omega
          obtain ⟨l, c, hmr, hll⟩ := HSZ.out _ _ HC.out
          have HMR : Hid (w2.heap[r]? = some (mObj l c)) := hmr
          have HLL : Hid (l.length = (runTo S j).length) := hll
          clear hmr hll
          generalize (runTo S j).length = kd at *
          go_wp2_with (first
            | (go_at_call 15; (with_reducible refine (known_any _).mono ?_); rintro e w3 ⟨rfl, hb3⟩; have hle := run_len49 w3 r l c kd ((hb3.block r (Nat.lt_of_lt_of_le (lt_heap HMR.out) HQ.out.size)).trans ((HQ.out.block r (lt_heap HMR.out)).trans HMR.out)) HLL.out))
          go_ret
          exact ⟨rfl, HB2.out.trans ((HQ.out.trans (hb3.mono HQ.out.size)).mono HB2.out.size)⟩

theorem sortZ (q : Option Addr) (cap : Nat) (w : World) : Calls Try.prog 23 #[.slice q 0 cap] w (SortPost [] 0 w) := (sortN_zero q cap w).mono fun e w' ⟨hb, v', he, ho⟩ => by
  obtain ⟨p, cap, rfl, h⟩ := ho.rows.rowP (fun x hx => by simp at hx) 0 rfl
  exact ⟨hb, p, cap, he, h⟩
theorem cnt_nil {w : World} {r : Nat} (h : CntIs w r []) : ∃ l c, w.heap[r]? = some (mObj l c) ∧ l.length = 0 := by
  obtain ⟨l, c, h1, h2, _⟩ := h
  refine ⟨l, c, h1, ?_⟩
  cases l with
  | nil => rfl
  | cons e l => have := (h2 e (by simp)).2.2.2; simp at this

set_option maxHeartbeats 1600000 in
theorem NameSorts_walkA (q : Option Addr) (cap : Nat) (hq : q = none → cap = 0) (w : World) :
    Calls Try.prog 6 #[.slice q 0 cap] w fun e w' => e = .returned (.bool true) ∧ Below w.heap.size w w' := by
  rcases q with _ | ⟨b, o, sp⟩
  · obtain rfl := hq rfl
    clear hq
    have hmin : min (0 : Int) 40 = 0 := by omega
    go_enter Try.func6, Try.ntmps6
    go_wp2_with fail
    go_loop [3, 4] (fun c i => c = .slice none 0 0 ∧ i = .int .i64 0) (fun _ _ => 0)
    case atStart => exact ⟨rfl, rfl⟩
    case round =>
      obtain ⟨rfl, rfl⟩ := hrel
      go_wp2_with (first
        | (go_at_call 23; (refine (sortZ _ _ _).mono ?_); rintro e w1 ⟨hb1, px, cx, rfl, hpx⟩)
        | (go_at_call 24; (refine (count_zero _ _ _).mono ?_); rintro e w2 ⟨hb2, rfl, hcnt⟩))
      go_loop [7, 8] (fun c i => c = .int .i64 0 ∧ i = .int .i64 0) (fun _ _ => 0)
      case atStart => exact ⟨rfl, rfl⟩
      case round =>
        obtain ⟨rfl, rfl⟩ := hrel
        obtain ⟨l, c, hmr, hll⟩ := cnt_nil hcnt
        go_wp2_with (go_at_call 15; (with_reducible refine (known_any _).mono ?_); rintro e w3 ⟨rfl, hb3⟩; have hle := run_len49 w3 w1.heap.size l c 0 ((hb3.block _ (lt_heap hmr)).trans hmr) hll)
        go_ret
        exact ⟨rfl, (hb1.trans (hb2.mono hb1.size)).trans (hb3.mono (Nat.le_trans hb1.size hb2.size))⟩
  · clear hq
    have hmin : min (0 : Int) 40 = 0 := by omega
    go_enter Try.func6, Try.ntmps6
    go_wp2_with fail
    go_loop [3, 4] (fun c i => c = .slice none 0 0 ∧ i = .int .i64 0) (fun _ _ => 0)
    case atStart => exact ⟨rfl, rfl⟩
    case round =>
      obtain ⟨rfl, rfl⟩ := hrel
      go_wp2_with (first
        | (go_at_call 23; (refine (sortZ _ _ _).mono ?_); rintro e w1 ⟨hb1, px, cx, rfl, hpx⟩)
        | (go_at_call 24; (refine (count_zero _ _ _).mono ?_); rintro e w2 ⟨hb2, rfl, hcnt⟩))
      go_loop [7, 8] (fun c i => c = .int .i64 0 ∧ i = .int .i64 0) (fun _ _ => 0)
      case atStart => exact ⟨rfl, rfl⟩
      case round =>
        obtain ⟨rfl, rfl⟩ := hrel
        obtain ⟨l, c, hmr, hll⟩ := cnt_nil hcnt
        go_wp2_with (go_at_call 15; (with_reducible refine (known_any _).mono ?_); rintro e w3 ⟨rfl, hb3⟩; have hle := run_len49 w3 w1.heap.size l c 0 ((hb3.block _ (lt_heap hmr)).trans hmr) hll)
        go_ret
        exact ⟨rfl, (hb1.trans (hb2.mono hb1.size)).trans (hb3.mono (Nat.le_trans hb1.size hb2.size))⟩

theorem NameSorts_walk {H : Type} {enc : TypeId × Value → H} {w : World} {base : Nat} {held : Bool} (v : Value) {d : DataW H} {p : List MemPlace} {r : Reach} {b0 : Nat}
    (h : DataW.Trod enc Try.prog w base (fun _ => true) held 45 v d p) (hv : Value.okWide Try.prog w r b0 45 v) :
    Calls Try.prog 6 #[v] w fun e w' => e = .returned (.bool true) ∧ Below w.heap.size w w' := by
  rcases open_names hv h with ⟨q, cap, rfl, hq, _⟩ | ⟨b, o, cap, ns, rfl, h0, hc, hm, hb, h12, hr⟩
  · exact NameSorts_walkA q cap hq w
  · refine NameSorts_walkB b o cap ns.length (min ns.length 40) (ns.take 40) w (by simp [Nat.min_comm]) (by omega) hc hm hb (fun x hx => h12 x (List.mem_of_mem_take hx)) ?_
    intro j u hu
    refine hr j u ?_
    simp only [bC, List.toList_toArray, List.getElem?_map] at hu ⊢
    have hj : ((ns.take 40).flatten)[j]? = ns.flatten[j]? := by
      have e0 : ns.flatten = (ns.take 40).flatten ++ (ns.drop 40).flatten := by rw [← List.flatten_append, List.take_append_drop]
      rw [e0]
      have : j < (ns.take 40).flatten.length := by
        rcases Nat.lt_or_ge j (ns.take 40).flatten.length with h | h
        · exact h
        · rw [List.getElem?_eq_none h] at hu; simp at hu
      rw [List.getElem?_append_left this]
    rw [← hj]; exact hu
set_option maxRecDepth 100000 in
theorem NameSorts_lifted (os : Os) (started : os.Started) (H : Type) (enc : TypeId × Value → H) :
    ReturnsInHanded {} Try.checked os 6 .any (Rows.nameSortsSpec.pre6 enc Try.prog Try.f6 Rows.nameSortsRow.domain false) (Rows.nameSortsSpec.post enc Try.prog Try.f6 false true false false) := by
  refine returnsInHanded_of_change (C := Try.checked) own started (by kernel_rfl) Try.func6
    (ChangeSpec.witness6 (enc := enc) (C := Try.checked) false ⟨#[], #[.slice none 0 0], []⟩ 8 (by kernel_rfl) (by kernel_rfl) (by kernel_rfl) (by kernel_rfl)) ?_
  intro W base args ds gs before hval0 hW hcnd hroom
  have hval : ∀ (j : Nat) t v, Try.f6.params[j]? = some t → args[j]? = some v → Value.okWide Try.prog W .any base t v := hval0
  have hW' := hW
  obtain ⟨p, q, hA0, hV, rfl, hfz, hnd⟩ := hW
  have hA : DataW.TrodAll enc Try.prog W 0 (fun _ => true) true Try.f6.params.toList args.toList ds p := hA0
  rw [Try.params6] at hA hval
  obtain ⟨v0, vs0, d0, ds0, p0, q0, hargs, rfl, rfl, h0, r0⟩ := trodAll_cons hA
  obtain ⟨rfl, rfl, rfl⟩ := trodAll_nil r0
  obtain rfl : args = #[v0] := by cases args; simp_all
  obtain ⟨rfl, rfl⟩ := trodVars_none hV
  have k0 := h0
  have lt0 : ∀ x ∈ p0, x.block < W.heap.size := by obtain ⟨m, hm⟩ := k0; exact DataW.trod_lt m _ _ _ hm
  clear hA0 hval0
  refine (NameSorts_walk v0 k0 (hval 0 45 v0 rfl rfl)).mono fun e W' ⟨he, bel⟩ => ?_
  subst he
  exact ⟨_, rfl, _, _, _, [], _, [], hW', trodAll_mk1 (shut_bool Try.underlying4 _), (trodAll_cons_mk (Below.trod laidOut (by kernel_rfl) (of_decide_eq_true (by kernel_rfl)) k0 bel lt0) trodAll_mk0), rfl, bel.frame _, fun h => by cases h⟩

theorem NameSorts_holds : Rows.NameSortsSaid :=
  OpenClaim.holds_of_wide 6 Try.f6 rfl rfl rfl rfl rfl rfl rfl ⟨rfl, rfl, rfl, rfl, rfl⟩ rfl rfl rfl rfl rfl (by kernel_rfl) Try.func6 (by kernel_rfl)
    (of_decide_eq_true (by kernel_rfl)) (by unfold Func.isWrapper; first | (rw [if_pos (by decide +kernel)]; kernel_rfl) | (rw [if_neg (by decide +kernel)]; exact ⟨rfl, rfl⟩))
    (fun os started H enc _ => NameSorts_lifted os started H enc)

end Go.Proofs.Ytbflliiaigkmgaa
