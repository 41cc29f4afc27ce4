/- The law NameTexts, walked. -/
import Derived.Test.YtbflliiaigkmgaaK
namespace Go.Proofs.Ytbflliiaigkmgaa
open Go.RowKit

theorem sign_ne (b : UInt8) (h : signB b.toNat = true) : b ≠ 0 := by
  rintro rfl
  revert h
  decide +kernel
theorem isName_spec {l : List UInt8} (h : isName l = true) : 1 ≤ l.length ∧ l.length ≤ 12 ∧ ∀ b ∈ l, b ≠ 0 := by
  simp only [isName, Bool.and_eq_true, decide_eq_true_eq, List.all_eq_true] at h
  exact ⟨h.1.1.1, h.1.1.2, fun b hb => sign_ne b (h.2 b hb)⟩
theorem front_pad {l : List UInt8} (h : isName l = true) : front (pad l) = l := by
  obtain ⟨_, h2, h3⟩ := isName_spec h
  unfold front pad
  rw [List.take_of_length_le h2, List.takeWhile_append_of_pos (fun b hb => by simpa using h3 b hb)]
  have : (List.replicate (12 - l.length) (0 : UInt8)).takeWhile (· != 0) = [] := by
    cases 12 - l.length <;> simp [List.replicate_succ]
  rw [this, List.append_nil]
theorem right_pad {l : List UInt8} (h : isName l = true) : rightB (pad l) = true := by
  simp [rightB, front_pad h, h]
theorem text_pad {l : List UInt8} (h : isName l = true) : textL (pad l) = l := by
  rw [textL, right_pad h, if_pos rfl, front_pad h]
theorem back (s : ByteArray) : (⟨s.data.toList.toArray⟩ : ByteArray) = s := by simp

theorem eql9 (x : ByteArray) (W : World) : (binOp .eql 9 (.string x) (.string x)).run Try.prog W = .ok (.bool true) W := by
  go_simp
theorem textL_yes {l : List UInt8} (h : rightB l = true) : 1 ≤ (textL l).length := by
  rw [textL, if_pos h]
  simp only [rightB, Bool.and_eq_true] at h
  exact (isName_spec h.1).1
theorem textL_no {l : List UInt8} (h : rightB l = false) : textL l = [] := by
  rw [textL, h]; rfl

set_option maxRecDepth 100000 in
set_option maxHeartbeats 1600000 in
theorem texts_any (s : ByteArray) (s0 : ByteArray) (n : List UInt8) (w : World) (hn : n.length = 12) (hs0 : s0.size ≤ maxLen) (hs : s0.extract 0 (min (s0.size : Int) 40).toNat = s) (hsz : s.size ≤ maxLen) :
    Calls Try.prog 3 #[.string s0, .agg (bC n)] w fun e w' => e = .returned (.bool true) ∧ Below w.heap.size w w' := by
  unfold maxLen at hs0
  have HL := Lib.hid hn
  clear hn
  have hparse : ∀ W : World, Calls Try.prog 9 #[.string s] W fun e w' => e = .returned (.tuple #[.agg (bC (parseN s.data.toList)), .int .i64 (parseE s.data.toList)]) ∧ Below W.heap.size W w' := fun W => parse_any s W hsz
  have his : ∀ W : World, Calls Try.prog 10 #[.string s] W fun e w' => e = .returned (.bool (isName s.data.toList)) ∧ W = w' := fun W => is_any s W hsz
  have hpad : ∀ W : World, Calls Try.prog 11 #[.string s] W fun e w' => e = .returned (.agg (bC (pad s.data.toList))) ∧ Below W.heap.size W w' := fun W => pad_any s W hsz
  have hreft : ∀ W : World, Calls Try.prog 14 #[.agg (bC n)] W fun e w' => e = .returned (.string ⟨(textL n).toArray⟩) ∧ Below W.heap.size W w' := fun W => refText_any n W HL.out
  have htext : ∀ W : World, Calls Try.prog 12 #[.agg (bC n)] W fun e w' => e = .returned (.string ⟨(textL n).toArray⟩) ∧ Below W.heap.size W w' := fun W => text_any n W HL.out
  have hright : ∀ W : World, Calls Try.prog 13 #[.agg (bC n)] W fun e w' => e = .returned (.bool (rightB n)) ∧ Below W.heap.size W w' := fun W => right_any n W HL.out
  clear hsz
  have HReft := Lib.hid hreft
  have HText := Lib.hid htext
  clear hreft htext
  cases hq : isName s.data.toList
  case' false =>
    rw [parseN, parseE, hq] at hparse
    have HP : Hid (∀ W : World, Calls Try.prog 9 #[.string s] W fun e w' => e = .returned (.tuple #[.agg (bC z12), .int .i64 15]) ∧ Below W.heap.size W w') := hparse
    rw [hq] at his
    have HI := Lib.hid his
    have HR := Lib.hid hright
    have hneq : ∀ W, (binOp .neq 23 (.agg (bC z12)) (.agg #[.int .u8 0, .int .u8 0, .int .u8 0, .int .u8 0, .int .u8 0, .int .u8 0, .int .u8 0, .int .u8 0, .int .u8 0, .int .u8 0, .int .u8 0, .int .u8 0])).run Try.prog W = .ok (.bool false) W := fun W => by
      rw [← bC_z12, neq23 W z12 z12 rfl rfl]; rfl
    clear hq hparse his hpad hright
    go_enter Try.func3, Try.ntmps3
    go_upto_region 3 with (first
      | (go_at_call 9; (with_reducible refine (HP.out _).mono ?_); rintro e w1 ⟨rfl, hb1⟩; have s1 := hb1.size)
      | (rw [← bC_z12]; with_reducible refine st23n rfl _ _ rfl z12 rfl rfl rfl ?_))
    have H1 : Hid ((w1.alloc (.cells (bC z12) 23)).heap[w1.heap.size]? = some (.cells (bC z12) 23)) := heap_alloc_new _ _
    refine wp_region_quiet_below (by kernel_rfl) (by kernel_rfl) ?_
    repeat (first
      | (with_reducible refine wq_load23 _ w1.heap.size z12 (0, 0) rfl rfl rfl H1.out rfl ?_; simp only [Act.put, List.setIfInBounds_toArray, List.set_cons_zero, List.set_cons_succ])
      | go_big_quiet_step (with_reducible exact rg_call0 HI.out _ _))
    refine wpQuiet_nil ?_
    rintro _ ⟨⟨dq, osq⟩, rfl⟩
    clear hneq
    simp only [World.size_alloc] at s1
    have hall : Below w.heap.size w (Sort.grow (redrawn (w1.alloc (.cells (bC z12) 23)) dq) osq) :=
      (((below_alloc1 w _).trans (hb1.mono (by simp))).alloc (by omega) _).trans ((below_regrown _ dq osq).mono (by simp; omega))
    have hg : (Sort.grow (redrawn (w1.alloc (.cells (bC z12) 23)) dq) osq).heap[w.heap.size]? = some (.cells (bC n) 23) := by
      refine rg_block ?_ dq osq
      rw [heap_alloc_old _ _ (by omega), hb1.block _ (by simp)]
      exact heap_alloc_new _ _
    have HG := Lib.hid hg
    have HALL := Lib.hid hall
    clear hg hall H1 hb1 HI HP
    generalize Sort.grow (redrawn (w1.alloc (.cells (bC z12) 23)) dq) osq = w2 at *
  case' true =>
    rw [parseN, parseE, hq] at hparse
    have HP : Hid (∀ W : World, Calls Try.prog 9 #[.string s] W fun e w' => e = .returned (.tuple #[.agg (bC (pad s.data.toList)), .int .i64 0]) ∧ Below W.heap.size W w') := hparse
    rw [hq] at his
    have HI := Lib.hid his
    have HPad := Lib.hid hpad
    have HT : Hid (∀ W : World, Calls Try.prog 12 #[.agg (bC (pad s.data.toList))] W fun e w' => e = .returned (.string s) ∧ Below W.heap.size W w') := fun W => by
      have := text_any (pad s.data.toList) W (pad_length _)
      rw [text_pad hq, back] at this
      exact this
    have HRx : Hid (∀ W : World, Calls Try.prog 13 #[.agg (bC (pad s.data.toList))] W fun e w' => e = .returned (.bool true) ∧ Below W.heap.size W w') := fun W => by
      have := right_any (pad s.data.toList) W (pad_length _)
      rw [right_pad hq] at this
      exact this
    have HR := Lib.hid hright
    have hneq : ∀ W, (binOp .neq 22 (.agg (bC (pad s.data.toList))) (.agg (bC (pad s.data.toList)))).run Try.prog W = .ok (.bool false) W := fun W => by
      rw [neq22 W _ _ (pad_length _) (pad_length _)]; simp
    clear hq hparse his hpad hright
    go_enter Try.func3, Try.ntmps3
    go_upto_region 3 with (first
      | (go_at_call 9; (with_reducible refine (HP.out _).mono ?_); rintro e w1 ⟨rfl, hb1⟩; have s1 := hb1.size)
      | (rw [← bC_z12]; with_reducible refine st23n rfl _ _ rfl (pad s.data.toList) rfl rfl (pad_length _) ?_))
    have H1 : Hid ((w1.alloc (.cells (bC (pad s.data.toList)) 23)).heap[w1.heap.size]? = some (.cells (bC (pad s.data.toList)) 23)) := heap_alloc_new _ _
    refine wp_region_quiet_below (by kernel_rfl) (by kernel_rfl) ?_
    repeat (first
      | (with_reducible refine wq_load23 _ w1.heap.size (pad s.data.toList) (0, 0) rfl rfl rfl H1.out (pad_length _) ?_; simp only [Act.put, List.setIfInBounds_toArray, List.set_cons_zero, List.set_cons_succ])
      | go_big_quiet_step (first | (with_reducible exact rg_call0 HI.out _ _) | (with_reducible exact rg_call HPad.out _ _) | (with_reducible exact rg_call HT.out _ _) | (with_reducible exact rg_call HRx.out _ _)))
    refine wpQuiet_nil ?_
    rintro _ ⟨⟨dq, osq⟩, rfl⟩
    clear hneq
    simp only [World.size_alloc] at s1
    have hall : Below w.heap.size w (Sort.grow (redrawn (w1.alloc (.cells (bC (pad s.data.toList)) 23)) dq) osq) :=
      (((below_alloc1 w _).trans (hb1.mono (by simp))).alloc (by omega) _).trans ((below_regrown _ dq osq).mono (by simp; omega))
    have hg : (Sort.grow (redrawn (w1.alloc (.cells (bC (pad s.data.toList)) 23)) dq) osq).heap[w.heap.size]? = some (.cells (bC n) 23) := by
      refine rg_block ?_ dq osq
      rw [heap_alloc_old _ _ (by omega), hb1.block _ (by simp)]
      exact heap_alloc_new _ _
    have HG := Lib.hid hg
    have HALL := Lib.hid hall
    clear hg hall H1 hb1 HI HP
    generalize Sort.grow (redrawn (w1.alloc (.cells (bC (pad s.data.toList)) 23)) dq) osq = w2 at *
  all_goals
    go_upto_region 6 with (first
      | (with_reducible refine ld23 rfl _ rfl w.heap.size rfl n HL.out (0, 0) HG.out ?_)
      | (go_at_call 14; (with_reducible refine (HReft.out _).mono ?_); rintro e w3 ⟨rfl, hb3⟩; have s3 := hb3.size))
    have HG3 : Hid (w3.heap[w.heap.size]? = some (.cells (bC n) 23)) := by
      show w3.heap[w.heap.size]? = _
      rw [hb3.block _ (by
        rcases Nat.lt_or_ge w.heap.size w2.heap.size with h' | h'
        · exact h'
        · have := HG.out; simp [Array.getElem?_eq_none h'] at this)]
      exact HG.out
    have HALL3 : Hid (Below w.heap.size w w3) := HALL.out.trans (hb3.mono HALL.out.size)
    clear hb3 s3
    cases hr : rightB n
    case' false =>
      have HE : Hid ((textL n).isEmpty = true) := by show (textL n).isEmpty = true; rw [textL_no hr]; rfl
    case' true =>
      have HE : Hid ((textL n).isEmpty = false) := by
        show (textL n).isEmpty = false
        have := textL_yes hr
        cases hx : textL n
        · rw [hx] at this; simp at this
        · rfl
    all_goals
      rw [hr] at HR
      have heq := eql9 ⟨(textL n).toArray⟩
      refine wp_region_lex_below ?_
      repeat (first
        | (with_reducible refine wq_load23 _ w.heap.size n (0, 0) rfl rfl rfl HG3.out HL.out ?_; simp only [Act.put, List.setIfInBounds_toArray, List.set_cons_zero, List.set_cons_succ])
        | go_big_quiet_step (first | (with_reducible exact rg_call known_any _ _) | (with_reducible exact rg_call HText.out _ _) | (with_reducible exact rg_call HR.out _ _)))
      refine wpQuiet_nil ?_
      rintro _ ⟨⟨dq, osq⟩, rfl⟩
      go_wp2_with fail
      go_ret
      refine ⟨?_, HALL3.out.trans ((below_regrown _ dq osq).mono HALL3.out.size)⟩
      refine ret_bool ?_
      first | (rw [HE.out]; done) | (rw [HE.out]; rfl)

end Go.Proofs.Ytbflliiaigkmgaa
