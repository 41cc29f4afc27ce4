/- nextPowerOfTwo, breakPatterns at words. -/
import Derived.Test.YtmdhlpnieimdaaaZ9
namespace Go.Proofs.Ytmdhlpnieimdaaa
open Go.RowKit

/-- One block turned, others laid. -/
def Below' (g : Nat) (w w' : World) : Prop := Turn [g] w w'
theorem bl_eq : ∀ n : Fin 901, Lib.bitLen n.val = Sort.bitsLen n.val := by decide +kernel
theorem pow_bd : ∀ n : Fin 901, 1 ≤ n.val → n.val < 1 <<< Sort.bitsLen n.val ∧ 1 <<< Sort.bitsLen n.val ≤ 2 * n.val ∧ Sort.bitsLen n.val ≤ 10 := by decide +kernel
set_option maxRecDepth 100000 in
set_option maxHeartbeats 4000000 in
theorem pow2_any (l : Nat) (w : World) (h1 : 1 ≤ l) (h2 : l ≤ 900) :
    Calls Try.prog 40 #[.int .i64 (l : Int)] w fun e w' => e = .returned (.int .u64 ((1 <<< Sort.bitsLen l : Nat) : Int)) ∧ w = w' := by
  have hb := pow_bd ⟨l, by omega⟩ h1
  have hbl : Lib.bitLen l = Sort.bitsLen l := bl_eq ⟨l, by omega⟩
  have hb3 : Sort.bitsLen l ≤ 10 := hb.2.2
  have K : Hid (∀ W, Calls Try.prog 27 #[.int .u64 (l : Int)] W fun e w' => e = .returned (.int .i64 (Sort.bitsLen l : Nat)) ∧ w' = W) := fun W => by
    have := Try.bits_Len (l : Int) W (by omega) (by omega)
    rwa [show ((l : Int)).toNat = l from rfl, hbl] at this
  have hP : Hid ((1 <<< Sort.bitsLen l : Nat) = 2 ^ Sort.bitsLen l) := by show _ = _; rw [Nat.shiftLeft_eq, Nat.one_mul]
  rw [hP.out]
  clear hb hbl
  generalize Sort.bitsLen l = B at *
  have hw1 : IntKind.u64.wrap (l : Int) = (l : Int) := by rw [IntWalk.u64_in _ (by omega)]
  have hpB : 2 ^ B ≤ 2 ^ 10 := Nat.pow_le_pow_right (by decide) hb3
  have hw2 : IntKind.u64.wrap ((2 : Int) ^ B) = ((2 ^ B : Nat) : Int) := by
    rw [show ((2 : Int) ^ B) = ((2 ^ B : Nat) : Int) by simp]
    have hz : ∀ z : Nat, z ≤ 1024 → IntKind.u64.wrap (z : Int) = (z : Int) := fun z hz => by rw [IntWalk.u64_in _ (by omega)]
    exact hz _ (Nat.le_trans hpB (by decide))
  have hmin : min B 64 = B := by omega
  go_enter Try.func40, Try.ntmps40
  go_wp2_with (go_at_call 27; (refine (K.out _).mono ?_); rintro e w1 ⟨rfl, rfl⟩)
  go_ret
  exact ⟨by simp, rfl⟩
def bst (a l M i0 : Nat) (s0 : UInt64 × Array Nat) : Nat → UInt64 × Array Nat
  | 0 => s0
  | t + 1 => Sort.breakStep a l M (bst a l M i0 s0 t) (i0 + t)
theorem and_bd {x M : Nat} (h : 1 ≤ M) : x &&& (M - 1) < M := by
  have := @Nat.and_le_right x (M - 1)
  omega
set_option maxRecDepth 100000 in
set_option maxHeartbeats 8000000 in
theorem break_any (g n a b cap : Nat) (d : Array Nat) (w : World) (h : SM w g d) (hn : d.size = n) (hab : a + 12 < b) (hb : b ≤ n) (hn2 : n ≤ 900) :
    Calls Try.prog 30 #[.slice (some ⟨g, 0, none⟩) n cap, .int .i64 (a : Int), .int .i64 (b : Int)] w fun e w' => e = .returned (.tuple #[]) ∧ Below' g w w' ∧ SM w' g (Sort.breakPatterns d a b) := by
  have hgl := h.lt (by omega)
  obtain ⟨l, hl⟩ : ∃ k, b - a = k := ⟨_, rfl⟩
  obtain ⟨q, hq⟩ : ∃ k, l / 4 = k := ⟨_, rfl⟩
  obtain ⟨q2, hq2⟩ : ∃ k, q * 2 = k := ⟨_, rfl⟩
  obtain ⟨aq, haq⟩ : ∃ k, a + q2 = k := ⟨_, rfl⟩
  obtain ⟨i0, hi0⟩ : ∃ k, aq - 1 = k := ⟨_, rfl⟩
  obtain ⟨i9, hi9⟩ : ∃ k, aq + 1 = k := ⟨_, rfl⟩
  have hpb := pow_bd ⟨l, by omega⟩ (by show 1 ≤ l; omega)
  obtain ⟨M, hM⟩ : ∃ M, 1 <<< Sort.bitsLen l = M := ⟨_, rfl⟩
  have hMb : l < M ∧ M ≤ 2 * l := by have h1 := hpb.1; have h2 := hpb.2.1; simp only [hM] at h1 h2; exact ⟨h1, h2⟩
  have KP : Hid (∀ W, Calls Try.prog 40 #[.int .i64 (l : Int)] W fun e w' => e = .returned (.int .u64 (M : Int)) ∧ W = w') := fun W => by have := pow2_any l W (by omega) (by omega); rwa [hM] at this
  obtain ⟨R, hR⟩ : ∃ R, Sort.breakPatterns d a b = R := ⟨_, rfl⟩
  have HR : Hid ((bst a l M i0 (UInt64.ofNat l, d) 3).2 = R) := by
    show _ = _
    rw [← hR]
    unfold Sort.breakPatterns
    simp only [hl, hq, hq2, haq, hi0, hM, if_pos (show l ≥ 8 by omega)]
    rfl
  rw [hR]
  clear hpb hR hM
  have hq3 : (l : Int).tdiv 4 = (q : Int) := by rw [← hq]; rfl
  have hq4 : (l : Int) / 4 = (q : Int) := by rw [← hq]; rfl
  have hw1 : IntKind.i64.wrap ((b : Int) - (a : Int)) = (l : Int) := by rw [IntWalk.i64_in _ (by omega)]; omega
  have hw2 : IntKind.i64.wrap ((q : Int) * 2) = (q2 : Int) := by rw [IntWalk.i64_in _ (by omega)]; omega
  have hw3 : IntKind.i64.wrap ((a : Int) + (q2 : Int)) = (aq : Int) := by rw [IntWalk.i64_in _ (by omega)]; omega
  have hw4 : IntKind.i64.wrap ((aq : Int) - 1) = (i0 : Int) := by rw [IntWalk.i64_in _ (by omega)]; omega
  have hw5 : IntKind.i64.wrap ((aq : Int) + 1) = (i9 : Int) := by rw [IntWalk.i64_in _ (by omega)]; omega
  have hw6 : IntKind.i64.wrap (q : Int) = (q : Int) := by rw [IntWalk.i64_in _ (by omega)]
  have hw7 : IntKind.u64.wrap (l : Int) = (l : Int) := by rw [IntWalk.u64_in _ (by omega)]
  have hw8 : IntKind.u64.wrap ((M : Int) - 1) = ((M - 1 : Nat) : Int) := by rw [IntWalk.u64_in _ (by omega)]; omega
  have hl8 : (8 : Int) ≤ (l : Int) := by omega
  have h99 : i9 = i0 + 2 ∧ i0 + 3 ≤ n ∧ l ≤ 900 ∧ a + l ≤ n := by omega
  obtain ⟨rb, hrb⟩ : ∃ rb, rb = w.heap.size := ⟨_, rfl⟩
  have hne : g ≠ rb := by omega
  have HS0 : Hid (Turn [g, rb] w (w.alloc (.cells #[.int .u64 (l : Int)] 75)) ∧ SM (w.alloc (.cells #[.int .u64 (l : Int)] 75)) g d) := ⟨Turn.alloc _ _ _, h.block ((below_alloc1 w _).block g hgl)⟩
  have HRb0 : Hid ((w.alloc (.cells #[.int .u64 (l : Int)] 75)).heap[rb]? = some (.cells #[.int .u64 (l : Int)] 75 (0, 0))) := by show _ = _; rw [hrb]; exact heap_alloc_new w _
  have HN := Lib.hid hn
  have HG := Lib.hid hgl
  clear h hl hq hq2 haq hi0 hi9 hn hgl
  go_enter Try.func30, Try.ntmps30
  go_upto_region 3 with fail
  rw [← hrb]
  generalize w.alloc (.cells #[.int .u64 (l : Int)] 75) = W0 at *
  have HRB := Lib.hid hrb
  clear hrb
  go_wp2_with (go_at_call 40; (refine (KP.out _).mono ?_); rintro e w1 ⟨rfl, rfl⟩)
  go_loopw [9, 10] (fun ix oo wr => ∃ (t : Nat) (st : UInt64 × Array Nat), t ≤ 3 ∧ ix = .int .i64 ((i0 + t : Nat) : Int) ∧ Hid (bst a l M i0 (UInt64.ofNat l, d) t = st) ∧ Hid (st.2.size = n) ∧ Hid (Turn [g, rb] w wr ∧ SM wr g st.2) ∧ Hid (wr.heap[rb]? = some (.cells #[.int .u64 (st.1.toNat : Int)] 75 (0, 0)))) (fun ix _ _ => i0 + 3 - (intOf ix).toNat)
  case atStart => exact ⟨0, (UInt64.ofNat l, d), by omega, rfl, rfl, HN.out, HS0.out, by show _ = _; rw [show (UInt64.ofNat l).toNat = l by rw [UInt64.toNat_ofNat']; omega]; exact HRb0.out⟩
  case round =>
    obtain ⟨t, st, ht3, rfl, HST, HN3, HM2, HR2⟩ := hrel
    clear HS0 HRb0 HN
    obtain ⟨iv, hiv⟩ : ∃ k, i0 + t = k := ⟨_, rfl⟩
    rw [hiv]
    by_cases ht : t < 3
    · have hleI : (iv : Int) ≤ (i9 : Int) := by omega
      have hm0 : st.1.toNat < 18446744073709551616 := st.1.toNat_lt
      have KX := Lib.hid (next_any rb st.1.toNat wr hm0 HR2.out)
      have HX0 : Hid ((Sort.xorNext st.1).toNat = nx st.1.toNat) := by
        show _ = _
        have := nx_u64 hm0
        rwa [UInt64.ofNat_toNat] at this
      have hmlt : nx st.1.toNat < 18446744073709551616 := by rw [← HX0.out]; exact UInt64.toNat_lt _
      obtain ⟨m, hm⟩ : ∃ m, nx st.1.toNat = m := ⟨_, rfl⟩
      rw [hm] at KX HX0 hmlt
      obtain ⟨o1, ho1⟩ : ∃ o, m &&& (M - 1) = o := ⟨_, rfl⟩
      have ho1M : o1 < M := by rw [← ho1]; exact and_bd (by omega)
      have hand : bits BinOp.and IntKind.u64 (m : Int) ((M - 1 : Nat) : Int) = (o1 : Int) := by rw [← ho1]; exact bits_and_u64_nat _ _ hmlt (by omega)
      have hcv : IntKind.i64.wrap (o1 : Int) = (o1 : Int) := by rw [IntWalk.i64_in _ (by omega)]
      obtain ⟨o, ho⟩ : ∃ o, (if o1 ≥ l then o1 - l else o1) = o := ⟨_, rfl⟩
      have hol : o < l := by rw [← ho]; split <;> omega
      obtain ⟨ao, hao⟩ : ∃ k, a + o = k := ⟨_, rfl⟩
      have HBS : Hid (Sort.breakStep a l M st iv = (Sort.xorNext st.1, Sort.swp st.2 iv ao)) := by
        show _ = _
        unfold Sort.breakStep
        simp only [HX0.out, ho1, ho, hao]
      have HST2 : Hid (bst a l M i0 (UInt64.ofNat l, d) (t + 1) = (Sort.xorNext st.1, Sort.swp st.2 iv ao)) := by
        show Sort.breakStep a l M (bst a l M i0 (UInt64.ofNat l, d) t) (i0 + t) = _
        rw [HST.out, hiv]; exact HBS.out
      have hadd : IntKind.i64.wrap ((a : Int) + (o : Int)) = (ao : Int) := by rw [IntWalk.i64_in _ (by omega)]; omega
      have hq1 : (iv : Int) < (n : Int) := by omega
      have hq2 : (ao : Int) < (n : Int) := by omega
      have hq5 : iv < n := by omega
      have hq6 : ao < n := by omega
      have hinc : IntKind.i64.wrap ((iv : Int) + 1) = ((i0 + (t + 1) : Nat) : Int) := by rw [IntWalk.i64_in _ (by omega)]; omega
      have HIV := Lib.hid hiv
      go_upto_region 8 with (go_at_call 41; (refine KX.out.mono ?_); rintro e W1 ⟨rfl, ht1, hr1⟩; have HM3 : Hid (Turn [g, rb] w W1 ∧ SM W1 g st.2) := ⟨HM2.out.1.trans (ht1.mono (fun k _ h => by simp at h ⊢; exact .inr h)), HM2.out.2.block (ht1.block g (HM2.out.2.lt (by rw [HN3.out]; omega)) (by simpa using hne))⟩; have HRb := Lib.hid hr1; clear ht1 hr1)
      by_cases hl1 : l ≤ o1
      · have hl1I : (l : Int) ≤ (o1 : Int) := by omega
        have hsub : IntKind.i64.wrap ((o1 : Int) - (l : Int)) = (o : Int) := by rw [IntWalk.i64_in _ (by omega)]; rw [← ho, if_pos hl1]; omega
        clear hiv hm ho1 ho hao
        go_upto_region 10 with fail
        have hca := HM3.out.2.c iv (by rw [HN3.out]; omega)
        obtain ⟨x, hxa⟩ : ∃ x, st.2[iv]! = x := ⟨_, rfl⟩
        have HXa := Lib.hid hxa
        rw [hxa] at hca
        clear hxa hca
        have hcb := HM3.out.2.c ao (by rw [HN3.out]; omega)
        obtain ⟨y, hxb⟩ : ∃ x, st.2[ao]! = x := ⟨_, rfl⟩
        have HXb := Lib.hid hxb
        rw [hxb] at hcb
        clear hxb hcb
        have hci := HM3.out.2.c iv (by rw [HN3.out]; omega)
        have hcj := HM3.out.2.c ao (by rw [HN3.out]; omega)
        rw [HXa.out] at hci
        rw [HXb.out] at hcj
        have hfr := HM3.out.2.f
        have hl := HM3.out.2.lt (by rw [HN3.out]; omega)
        obtain ⟨zm, hmid⟩ := HM3.out.2.mid iv ao y (by rw [HN3.out]; omega) (by rw [HN3.out]; omega)
        have HS : Hid (Turn [g, rb] w ((((W1.setCell ⟨g, iv, none⟩ (.int .u64 (y : Int))).setCell ⟨g, ao, none⟩ (.int .u64 (x : Int)))).drew) ∧ SM ((((W1.setCell ⟨g, iv, none⟩ (.int .u64 (y : Int))).setCell ⟨g, ao, none⟩ (.int .u64 (x : Int)))).drew) g (Sort.swp st.2 iv ao)) := by
          have h := HM3.out.2.swap iv ao (by rw [HN3.out]; omega) (by rw [HN3.out]; omega)
          rw [HXa.out, HXb.out] at h
          exact ⟨(HM3.out.1.trans (((Turn.setCell g iv _ _).trans (Turn.setCell g ao _ _)).mono (fun k _ h => by simp at h ⊢; exact .inl h))).trans ⟨rfl, rfl, rfl, Nat.le_refl _, fun _ _ _ => rfl⟩, h.block rfl⟩
        go_wp2_with fail
        go_region
        have HRb2 : Hid (((((W1.setCell ⟨g, iv, none⟩ (.int .u64 (y : Int))).setCell ⟨g, ao, none⟩ (.int .u64 (x : Int)))).drew).heap[rb]? = some (.cells #[.int .u64 (m : Int)] 75 (0, 0))) := by
          show ((W1.setCell ⟨g, iv, none⟩ (.int .u64 (y : Int))).setCell ⟨g, ao, none⟩ (.int .u64 (x : Int))).heap[rb]? = _
          rw [heap_setCell_other _ (Ne.symm hne), heap_setCell_other _ (Ne.symm hne)]; exact HRb.out
        clear hci hcj hfr hl hmid HM3
        generalize (((W1.setCell ⟨g, iv, none⟩ (.int .u64 (y : Int))).setCell ⟨g, ao, none⟩ (.int .u64 (x : Int)))).drew = W9 at *
        go_wp2_with fail
        go_roundw
        case rel => exact ⟨t + 1, (Sort.xorNext st.1, Sort.swp st.2 iv ao), by omega, by first | rfl | exact congrArg (Value.int .i64) hinc | simp [hinc], HST2.out, by show _ = _; rw [swp_size]; exact HN3.out, HS.out, by show _ = _; rw [HX0.out]; exact HRb2.out⟩
        case measure => have := HIV.out; simp [intOf, hinc]; omega
      · have hl1I : ¬ (l : Int) ≤ (o1 : Int) := by omega
        have hoo : o1 = o := by rw [← ho, if_neg (by omega)]
        subst hoo
        clear hiv hm ho1 ho hao
        go_upto_region 10 with fail
        have hca := HM3.out.2.c iv (by rw [HN3.out]; omega)
        obtain ⟨x, hxa⟩ : ∃ x, st.2[iv]! = x := ⟨_, rfl⟩
        have HXa := Lib.hid hxa
        rw [hxa] at hca
        clear hxa hca
        have hcb := HM3.out.2.c ao (by rw [HN3.out]; omega)
        obtain ⟨y, hxb⟩ : ∃ x, st.2[ao]! = x := ⟨_, rfl⟩
        have HXb := Lib.hid hxb
        rw [hxb] at hcb
        clear hxb hcb
        have hci := HM3.out.2.c iv (by rw [HN3.out]; omega)
        have hcj := HM3.out.2.c ao (by rw [HN3.out]; omega)
        rw [HXa.out] at hci
        rw [HXb.out] at hcj
        have hfr := HM3.out.2.f
        have hl := HM3.out.2.lt (by rw [HN3.out]; omega)
        obtain ⟨zm, hmid⟩ := HM3.out.2.mid iv ao y (by rw [HN3.out]; omega) (by rw [HN3.out]; omega)
        have HS : Hid (Turn [g, rb] w ((((W1.setCell ⟨g, iv, none⟩ (.int .u64 (y : Int))).setCell ⟨g, ao, none⟩ (.int .u64 (x : Int)))).drew) ∧ SM ((((W1.setCell ⟨g, iv, none⟩ (.int .u64 (y : Int))).setCell ⟨g, ao, none⟩ (.int .u64 (x : Int)))).drew) g (Sort.swp st.2 iv ao)) := by
          have h := HM3.out.2.swap iv ao (by rw [HN3.out]; omega) (by rw [HN3.out]; omega)
          rw [HXa.out, HXb.out] at h
          exact ⟨(HM3.out.1.trans (((Turn.setCell g iv _ _).trans (Turn.setCell g ao _ _)).mono (fun k _ h => by simp at h ⊢; exact .inl h))).trans ⟨rfl, rfl, rfl, Nat.le_refl _, fun _ _ _ => rfl⟩, h.block rfl⟩
        go_wp2_with fail
        go_region
        have HRb2 : Hid (((((W1.setCell ⟨g, iv, none⟩ (.int .u64 (y : Int))).setCell ⟨g, ao, none⟩ (.int .u64 (x : Int)))).drew).heap[rb]? = some (.cells #[.int .u64 (m : Int)] 75 (0, 0))) := by
          show ((W1.setCell ⟨g, iv, none⟩ (.int .u64 (y : Int))).setCell ⟨g, ao, none⟩ (.int .u64 (x : Int))).heap[rb]? = _
          rw [heap_setCell_other _ (Ne.symm hne), heap_setCell_other _ (Ne.symm hne)]; exact HRb.out
        clear hci hcj hfr hl hmid HM3
        generalize (((W1.setCell ⟨g, iv, none⟩ (.int .u64 (y : Int))).setCell ⟨g, ao, none⟩ (.int .u64 (x : Int)))).drew = W9 at *
        go_wp2_with fail
        go_roundw
        case rel => exact ⟨t + 1, (Sort.xorNext st.1, Sort.swp st.2 iv ao), by omega, by first | rfl | exact congrArg (Value.int .i64) hinc | simp [hinc], HST2.out, by show _ = _; rw [swp_size]; exact HN3.out, HS.out, by show _ = _; rw [HX0.out]; exact HRb2.out⟩
        case measure => have := HIV.out; simp [intOf, hinc]; omega
    · have hleI : ¬ (iv : Int) ≤ (i9 : Int) := by omega
      have ht4 : t = 3 := by omega
      have HD : Hid (st.2 = R) := by show _ = _; rw [← HR.out, ← HST.out, ht4]
      clear ht4 hiv
      go_wp2_with fail
      go_end0
      refine ⟨rfl, ?_, by rw [← HD.out]; exact HM2.out.2⟩
      exact HM2.out.1.mono (fun k hk h => by simp at h ⊢; rcases h with h | h; exact h; (have := HRB.out; omega))
end Go.Proofs.Ytmdhlpnieimdaaa
