/- The law NameOrder, walked. -/
import Derived.Test.YtbflliiaigkmgaaF
namespace Go.Proofs.Ytbflliiaigkmgaa
open Go.RowKit

theorem less_iff : ∀ (a b : List UInt8), a.length = b.length → (Lib.compareBytes a b < 0 ↔ lessR a b = true)
  | [], [], _ => by simp [Lib.compareBytes, lessR]
  | [], _ :: _, h => by simp at h
  | _ :: _, [], h => by simp at h
  | x :: a, y :: b, h => by
    have ih := less_iff a b (by simpa using h)
    show (if x < y then (-1 : Int) else if y < x then 1 else Lib.compareBytes a b) < 0 ↔ (if x = y then lessR a b else decide (x.toNat < y.toNat)) = true
    by_cases h1 : x < y
    · have : x ≠ y := fun e => by subst e; exact absurd h1 (UInt8.lt_irrefl x)
      rw [if_pos h1, if_neg this]
      simpa [UInt8.lt_iff_toNat_lt] using h1
    · rw [if_neg h1]
      by_cases h2 : y < x
      · have : x ≠ y := fun e => by subst e; exact absurd h2 (UInt8.lt_irrefl x)
        rw [if_pos h2, if_neg this]
        rw [UInt8.lt_iff_toNat_lt] at h1
        simpa using h1
      · have : x = y := by
          apply UInt8.toNat_inj.1
          rw [UInt8.lt_iff_toNat_lt] at h1 h2
          omega
        rw [if_neg h2, if_pos this, ih]
theorem lessL_lessR (a b : List UInt8) (h : a.length = b.length) : lessL a b = lessR a b := by
  rw [Bool.eq_iff_iff, lessL, decide_eq_true_eq]
  exact less_iff a b h
theorem lessR_irrefl : ∀ (a : List UInt8), lessR a a = false
  | [] => rfl
  | x :: a => by simp [lessR, lessR_irrefl a]
theorem lessL_irrefl (a : List UInt8) : lessL a a = false := by rw [lessL_lessR a a rfl, lessR_irrefl]

theorem lessR_zeros : ∀ n, lessR (List.replicate n 0) (List.replicate n 0) = false := fun n => lessR_irrefl _
theorem lessR_bytes : ∀ (s t : List UInt8) (m n : Nat), s.length + m = t.length + n → (∀ b ∈ s, b ≠ 0) → (∀ b ∈ t, b ≠ 0) → lessR (s ++ List.replicate m 0) (t ++ List.replicate n 0) = Op.bytesLess s t
  | [], [], m, n, h, _, _ => by
    obtain rfl : m = n := by simpa using h
    simp [lessR_irrefl, Op.bytesLess]
  | [], y :: t, m, n, h, _, ht => by
    obtain ⟨m', rfl⟩ : ∃ m', m = m' + 1 := ⟨m - 1, by simp at h; omega⟩
    have hy : y ≠ 0 := ht y (by simp)
    have hp : 0 < y.toNat := by
      rcases Nat.eq_zero_or_pos y.toNat with h0 | h0
      · exact absurd (UInt8.toNat_inj.1 (by simpa using h0)) hy
      · exact h0
    simp [List.replicate_succ, lessR, Op.bytesLess, Ne.symm hy, hp]
  | x :: s, [], m, n, h, hs, _ => by
    obtain ⟨n', rfl⟩ : ∃ n', n = n' + 1 := ⟨n - 1, by simp at h; omega⟩
    have hx : x ≠ 0 := hs x (by simp)
    simp [List.replicate_succ, lessR, Op.bytesLess, hx]
  | x :: s, y :: t, m, n, h, hs, ht => by
    have ih := lessR_bytes s t m n (by simp at h; omega) (fun b hb => hs b (by simp [hb])) (fun b hb => ht b (by simp [hb]))
    simp only [List.cons_append, lessR, Op.bytesLess, ih]
    by_cases e : x = y
    · subst e; simp [UInt8.lt_irrefl]
    · have : (x == y) = false := by simpa using e
      simp [e, UInt8.lt_iff_toNat_lt]
theorem lessL_pad {s t : List UInt8} (hs : isName s = true) (ht : isName t = true) : lessL (pad s) (pad t) = Op.bytesLess s t := by
  obtain ⟨_, s2, s3⟩ := isName_spec hs
  obtain ⟨_, t2, t3⟩ := isName_spec ht
  rw [lessL_lessR _ _ (by rw [pad_length, pad_length])]
  unfold pad
  rw [List.take_of_length_le s2, List.take_of_length_le t2]
  exact lessR_bytes s t _ _ (by omega) s3 t3
theorem pad_eq {s t : List UInt8} (hs : isName s = true) (ht : isName t = true) : (pad s == pad t) = (s == t) := by
  rw [Bool.eq_iff_iff]
  simp only [beq_iff_eq]
  constructor
  · intro h
    rw [← front_pad hs, ← front_pad ht, h]
  · rintro rfl; rfl

set_option maxRecDepth 100000 in
set_option maxHeartbeats 1600000 in
theorem NameOrder_walk (a : List UInt8) (ha : a.length = 12) (b : List UInt8) (hb : b.length = 12) (s : ByteArray) (hs : s.size ≤ maxLen) (t : ByteArray) (ht : t.size ≤ maxLen) (w : World) :
    Calls Try.prog 4 #[.agg (bC a), .agg (bC b), .string s, .string t] w fun e w' => e = .returned (.bool true) ∧ Below w.heap.size w w' := by
  have HA := Lib.hid ha
  have HB := Lib.hid hb
  have HL1 : Hid (∀ W : World, Calls Try.prog 16 #[.agg (bC a), .agg (bC b)] W fun e w' => e = .returned (.bool (lessR a b)) ∧ Below W.heap.size W w') := fun W => by
    have := less_any a b W ha hb
    rw [lessL_lessR a b (ha.trans hb.symm)] at this
    exact this
  have HL2 : Hid (∀ W : World, Calls Try.prog 17 #[.agg (bC a), .agg (bC b)] W fun e w' => e = .returned (.bool (lessR a b)) ∧ Below W.heap.size W w') := fun W => refLess_any a b W ha hb
  have HL3 : Hid (∀ W : World, Calls Try.prog 16 #[.agg (bC a), .agg (bC a)] W fun e w' => e = .returned (.bool false) ∧ Below W.heap.size W w') := fun W => by
    have := less_any a a W ha ha
    rw [lessL_irrefl] at this
    exact this
  have HPs : Hid (∀ W : World, Calls Try.prog 9 #[.string s] W fun e w' => e = .returned (.tuple #[.agg (bC (parseN s.data.toList)), .int .i64 (parseE s.data.toList)]) ∧ Below W.heap.size W w') := fun W => parse_any s W hs
  have HPt : Hid (∀ W : World, Calls Try.prog 9 #[.string t] W fun e w' => e = .returned (.tuple #[.agg (bC (parseN t.data.toList)), .int .i64 (parseE t.data.toList)]) ∧ Below W.heap.size W w') := fun W => parse_any t W ht
  clear ha hb hs ht
  have HW0 := Lib.hid (below_alloc2 w (.cells (bC a) 23) (.cells (bC b) 23))
  have h1 := Lib.hid (heap_alloc2_old w (.cells (bC a) 23) (.cells (bC b) 23))
  have h2 := Lib.hid (heap_alloc2_new w (.cells (bC a) 23) (.cells (bC b) 23))
  go_enter Try.func4, Try.ntmps4
  go_upto_region 1 with fail
  generalize (w.alloc (.cells (bC a) 23)).alloc (.cells (bC b) 23) = w0 at *
  refine wp_region_quiet_below (by kernel_rfl) (by kernel_rfl) ?_
  repeat (first
    | (with_reducible refine wq_load23 _ w.heap.size a (0, 0) rfl rfl rfl h1.out HA.out ?_; simp only [Act.put, List.setIfInBounds_toArray, List.set_cons_zero, List.set_cons_succ])
    | (with_reducible refine wq_load23 _ (w.heap.size + 1) b (0, 0) rfl rfl rfl h2.out HB.out ?_; simp only [Act.put, List.setIfInBounds_toArray, List.set_cons_zero, List.set_cons_succ])
    | go_big_quiet_step (first | (with_reducible exact rg_call HL1.out _ _) | (with_reducible exact rg_call HL2.out _ _) | (with_reducible exact rg_call HL3.out _ _)))
  refine wpQuiet_nil ?_
  rintro _ ⟨⟨dq, osq⟩, rfl⟩
  have HW1 : Hid (Below w.heap.size w (Sort.grow (redrawn w0 dq) osq)) := HW0.out.trans ((below_regrown w0 dq osq).mono HW0.out.size)
  clear h1 h2 HA HB HL1 HL2 HL3
  generalize Sort.grow (redrawn w0 dq) osq = w1 at *
  cases hs : isName s.data.toList
  case' false =>
    have HS : Hid (parseN s.data.toList = z12 ∧ parseE s.data.toList = 15) := ⟨by rw [parseN, hs]; rfl, by rw [parseE, hs]; rfl⟩
    rw [HS.out.1, HS.out.2] at HPs
  case' true =>
    have HS : Hid (parseN s.data.toList = pad s.data.toList ∧ parseE s.data.toList = 0) := ⟨by rw [parseN, hs]; rfl, by rw [parseE, hs]; rfl⟩
    rw [HS.out.1, HS.out.2] at HPs
  all_goals cases ht : isName t.data.toList
  case' false.false | true.false =>
    have HT : Hid (parseN t.data.toList = z12 ∧ parseE t.data.toList = 15) := ⟨by rw [parseN, ht]; rfl, by rw [parseE, ht]; rfl⟩
    rw [HT.out.1, HT.out.2] at HPt
  case' false.true | true.true =>
    have HT : Hid (parseN t.data.toList = pad t.data.toList ∧ parseE t.data.toList = 0) := ⟨by rw [parseN, ht]; rfl, by rw [parseE, ht]; rfl⟩
    rw [HT.out.1, HT.out.2] at HPt
  case' true.true =>
    have HL : Hid (∀ W : World, Calls Try.prog 16 #[.agg (bC (pad s.data.toList)), .agg (bC (pad t.data.toList))] W fun e w' => e = .returned (.bool (Op.bytesLess s.toList t.toList)) ∧ Below W.heap.size W w') := fun W => by
      have := less_any (pad s.data.toList) (pad t.data.toList) W (pad_length _) (pad_length _)
      rw [lessL_pad hs ht] at this
      rw [Lib.toList_data, Lib.toList_data]
      exact this
    have heq : ∀ W, (binOp .eql 23 (.agg (bC (pad s.data.toList))) (.agg (bC (pad t.data.toList)))).run Try.prog W = .ok (.bool (s.toList == t.toList)) W := fun W => by
      rw [eql23 W _ _ (pad_length _) (pad_length _), pad_eq hs ht, Lib.toList_data, Lib.toList_data]
  case true.true =>
    clear hs ht HS HT
    go_upto_region 7 with (first
      | (go_at_call 9; (with_reducible refine (HPs.out _).mono ?_); rintro e w2 ⟨rfl, hb2⟩; have s2 := hb2.size; have HW2 : Hid (Below w.heap.size w w2) := HW1.out.trans (hb2.mono HW1.out.size))
      | (go_at_call 9; (with_reducible refine (HPt.out _).mono ?_); rintro e w3 ⟨rfl, hb3⟩; have s3 := hb3.size; have HW3 : Hid (Below w.heap.size w w3) := (HW2.out.alloc HW2.out.size _).trans (hb3.mono (HW2.out.alloc HW2.out.size _).size))
      | (go_at_call 15; (with_reducible refine (known_any _).mono ?_); rintro e w4 ⟨rfl, hb4⟩; have HW4 : Hid (Below w.heap.size w w4) := (HW3.out.alloc HW3.out.size _).trans (hb4.mono (HW3.out.alloc HW3.out.size _).size))
      | (rw [← bC_z12]; with_reducible refine st23n rfl _ _ rfl _ rfl rfl (pad_length _) ?_)
      | (rw [← bC_z12]; with_reducible refine st23n rfl _ _ rfl z12 rfl rfl rfl ?_))
    simp only [World.size_alloc] at s3
    have HA : Hid ((w3.alloc (.cells (bC (pad t.data.toList)) 23)).heap[w2.heap.size]? = some (.cells (bC (pad s.data.toList)) 23)) := by
      show (w3.alloc _).heap[w2.heap.size]? = _
      rw [heap_alloc_old _ _ (by omega), hb3.block _ (by simp)]
      exact heap_alloc_new _ _
    have HB : Hid ((w3.alloc (.cells (bC (pad t.data.toList)) 23)).heap[w3.heap.size]? = some (.cells (bC (pad t.data.toList)) 23)) := heap_alloc_new _ _
    have HW4 : Hid (Below w.heap.size w (w3.alloc (.cells (bC (pad t.data.toList)) 23))) := HW3.out.alloc HW3.out.size _
    clear hb3 hb2
    refine wp_region_lex_below ?_
    repeat (first
      | (with_reducible refine wq_load23 _ w2.heap.size (pad s.data.toList) (0, 0) rfl rfl rfl HA.out (pad_length _) ?_; simp only [Act.put, List.setIfInBounds_toArray, List.set_cons_zero, List.set_cons_succ])
      | (with_reducible refine wq_load23 _ w3.heap.size (pad t.data.toList) (0, 0) rfl rfl rfl HB.out (pad_length _) ?_; simp only [Act.put, List.setIfInBounds_toArray, List.set_cons_zero, List.set_cons_succ])
      | go_big_quiet_step (first | (with_reducible exact rg_call known_any _ _) | (with_reducible exact rg_call HL.out _ _)))
    refine wpQuiet_nil ?_
    rintro _ ⟨⟨dq, osq⟩, rfl⟩
    go_wp2_with fail
    go_ret
    exact ⟨rfl, HW4.out.trans ((below_regrown _ dq osq).mono HW4.out.size)⟩
  all_goals
    clear hs ht HS HT
    go_upto_region 7 with (first
      | (go_at_call 9; (with_reducible refine (HPs.out _).mono ?_); rintro e w2 ⟨rfl, hb2⟩; have s2 := hb2.size; have HW2 : Hid (Below w.heap.size w w2) := HW1.out.trans (hb2.mono HW1.out.size))
      | (go_at_call 9; (with_reducible refine (HPt.out _).mono ?_); rintro e w3 ⟨rfl, hb3⟩; have s3 := hb3.size; have HW3 : Hid (Below w.heap.size w w3) := (HW2.out.alloc HW2.out.size _).trans (hb3.mono (HW2.out.alloc HW2.out.size _).size))
      | (go_at_call 15; (with_reducible refine (known_any _).mono ?_); rintro e w4 ⟨rfl, hb4⟩; have HW4 : Hid (Below w.heap.size w w4) := (HW3.out.alloc HW3.out.size _).trans (hb4.mono (HW3.out.alloc HW3.out.size _).size))
      | (rw [← bC_z12]; with_reducible refine st23n rfl _ _ rfl _ rfl rfl (pad_length _) ?_)
      | (rw [← bC_z12]; with_reducible refine st23n rfl _ _ rfl z12 rfl rfl rfl ?_))
    go_ret
    exact ⟨rfl, HW4.out⟩

end Go.Proofs.Ytbflliiaigkmgaa
