/- name.letter, name.sign, name.Parse. -/
import Derived.Test.YtpnmficlebnajaaB
namespace Go.Proofs.Ytpnmficlebnajaa
open Go.RowKit

def letterB (c : Int) : Bool := decide (97 ≤ c) && decide (c ≤ 122)
def signB (c : Int) : Bool := letterB c || (decide (48 ≤ c) && decide (c ≤ 57)) || c == 45 || c == 95 || c == 46

set_option maxHeartbeats 400000 in
theorem letter_any (c : Int) (w : World) (h0 : 0 ≤ c) (h1 : c ≤ 255) :
    Calls Try.prog 57 #[.int .u8 c] w fun e w' => e = .returned (.bool (letterB c)) ∧ w = w' := by
  by_cases a : 97 ≤ c
  all_goals
    go_enter Try.func57, Try.ntmps57
    go_wp2
    go_ret
    exact ⟨by simp [letterB]; try omega, rfl⟩

set_option maxHeartbeats 400000 in
theorem sign_any (c : Int) (w : World) (h0 : 0 ≤ c) (h1 : c ≤ 255) :
    Calls Try.prog 58 #[.int .u8 c] w fun e w' => e = .returned (.bool (signB c)) ∧ w = w' := by
  have key : ∀ b : Bool, signB c = b → Calls Try.prog 58 #[.int .u8 c] w fun e w' => e = .returned (.bool b) ∧ w = w' := by
    intro b hb
    have H := Lib.hid hb; clear hb
    go_enter Try.func58, Try.ntmps58
    go_wp2_with (go_at_call 57; refine (letter_any _ _ h0 h1).mono ?_; rintro e w' ⟨rfl, rfl⟩)
    all_goals
      go_ret
      have hb := H.out
      refine ⟨ret_bool ?_, rfl⟩
      rw [← hb]; simp only [signB, *]; rw [Bool.eq_iff_iff]; simp <;> omega
  exact key _ rfl

def isName (l : List UInt8) : Bool := decide (1 ≤ l.length) && decide (l.length ≤ 12) && letterB (l.headD 0).toNat && l.all fun b => signB b.toNat
def parseN (l : List UInt8) : List UInt8 := if isName l then pad l else z12
def parseE (l : List UInt8) : Int := if isName l then 0 else 15
theorem parseN_length (l : List UInt8) : (parseN l).length = 12 := by unfold parseN; split <;> simp [pad_length, z12]

theorem isName_yes {l : List UInt8} (h0 : 1 ≤ l.length) (h1 : l.length ≤ 12) (hl : letterB (l.headD 0).toNat = true) (hs : ∀ i (h : i < l.length), signB (l[i]'h).toNat = true) : isName l = true := by
  simp only [isName, hl, decide_eq_true h0, decide_eq_true h1, Bool.true_and]
  rw [List.all_eq_true]
  intro x hx
  obtain ⟨i, hi, rfl⟩ := List.mem_iff_getElem.1 hx
  exact hs i hi
theorem isName_no {l : List UInt8} (i : Nat) (hi : i < l.length) (hs : signB (l[i]'hi).toNat = false) : isName l = false := by
  have : (l.all fun b => signB b.toNat) = false := by
    rw [List.all_eq_false]
    exact ⟨l[i], List.getElem_mem hi, by simp [hs]⟩
  simp [isName, this]

set_option maxHeartbeats 400000 in
theorem parse_loop (s : ByteArray) (w : World) (h0 : 1 ≤ s.size) (h1 : s.size ≤ 12) (hl : letterB s[0].toNat = true) :
    Calls Try.prog 50 #[.string s] w fun e w' => e = .returned (.tuple #[.agg (bC (parseN s.data.toList)), .int .i64 (parseE s.data.toList)]) ∧ Below w.heap.size w w' := by
  have hfin : ∀ (w' : World) (hb : Below w.heap.size w w') (hall : ∀ i (h : i < s.size), signB s[i].toNat = true),
      Ending.returned (.tuple #[.agg (bC (pad s.data.toList)), .int .i64 0]) = Ending.returned (.tuple #[.agg (bC (parseN s.data.toList)), .int .i64 (parseE s.data.toList)]) ∧ Below w.heap.size w w' := by
    intro w' hb hall
    have : isName s.data.toList = true := isName_yes (by rw [Array.length_toList]; exact h0) (by simpa using h1) (by
      have : s.data.toList.headD 0 = s[0] := by
        rw [← at_list s 0 (by omega), List.headD_eq_head?_getD, List.head?_eq_getElem?, List.getElem?_eq_getElem (by simpa using (by omega : 0 < s.size))]; rfl
      rw [this]; exact hl) (fun i hi => by rw [at_list s i (by simpa using hi)]; exact hall i (by simpa using hi))
    simp [parseN, parseE, this, hb]
  have HF := Lib.hid hfin; clear hfin
  have hlen : ∀ k, k < s.size → k < 12 := fun k h => by omega
  go_enter Try.func50, Try.ntmps50
  go_wp2_with (go_at_call 57; refine (letter_any _ _ (by omega) (byte_lt _)).mono ?_; rintro e w' ⟨rfl, rfl⟩)
  rw [← bC_z12]
  go_loopw [23] (fun i wr => ∃ k : Nat, k ≤ s.size ∧ i = .int .i64 k ∧ wr = (w.alloc (.cells (bC z12) 40)).alloc (.cells (bC (pad (s.data.toList.take k))) 40) ∧ Hid (∀ i (h : i < k) (h2 : i < s.size), signB s[i].toNat = true)) (fun i _ => s.size - (intOf i).toNat)
  case atStart => exact ⟨0, Nat.zero_le _, rfl, by rw [List.take_zero, pad_nil], fun i h => by omega⟩
  case round =>
    obtain ⟨k, hk, rfl, rfl, HA⟩ := hrel
    by_cases hlt : k < s.size
    · have hc := bC_get (pad (s.data.toList.take k)) k (by rw [pad_length]; omega)
      by_cases hsg : signB s[k].toNat = true
      · go_wp2_with (go_at_call 58; refine (sign_any _ _ (by omega) (byte_lt _)).mono ?_; rintro e w' ⟨rfl, rfl⟩)
        go_roundw
        case rel =>
          refine ⟨k + 1, by omega, by go_num, ?_, ?_⟩
          · rw [bC_set, ← at_list s k hlt, pad_snoc s.data.toList k (by simpa using hlt) (by omega)]
          · intro i h h2
            by_cases e : i = k
            · subst e; exact hsg
            · exact HA.out i (by omega) h2
        case measure => simp [intOf]; omega
      · have hno : isName s.data.toList = false := isName_no k (by simpa using hlt) (by rw [at_list s k hlt]; simpa using hsg)
        have HN := Lib.hid hno; clear hno
        have hsg' : signB s[k].toNat = false := by simpa using hsg
        clear hsg
        go_wp2_with (first
          | (go_at_call 58; refine (sign_any _ _ (by omega) (byte_lt _)).mono ?_; rintro e w' ⟨rfl, rfl⟩)
          | (with_reducible refine st23 rfl _ _ rfl w.heap.size z12 rfl rfl rfl z12 (heap_alloc2_old _ _ _) rfl ?_))
        refine bodyPost_ret (res_row_tmp (t := 3) rfl _ _ w.heap.size z12 (0, 0) rfl (setRow_heap _ _ _ _ _ _ (heap_alloc2_old _ _ _)) rfl) rfl ⟨?_, below_setRow (below_alloc2 _ _ _) (Nat.le_refl _) _⟩
        rw [parseN, parseE, HN.out]; rfl
    · obtain rfl : k = s.size := by omega
      have HA' : Hid (∀ i (h : i < s.size), signB s[i].toNat = true) := fun i h => HA.out i h h
      clear HA
      go_wp2_with (first
        | (with_reducible refine ld23 rfl _ rfl (w.heap.size + 1) rfl (pad (s.data.toList.take s.size)) (pad_length _) (0, 0) (heap_alloc2_new _ _ _) ?_)
        | (with_reducible refine st23 rfl _ _ rfl w.heap.size (pad (s.data.toList.take s.size)) rfl rfl (pad_length _) z12 (heap_alloc2_old _ _ _) rfl ?_))
      refine bodyPost_ret (res_row_tmp rfl _ _ w.heap.size (pad (s.data.toList.take s.size)) (0, 0) rfl (setRow_heap _ _ _ _ _ _ (heap_alloc2_old _ _ _)) (pad_length _)) rfl ?_
      rw [List.take_of_length_le (by simp)]
      exact HF.out _ (below_setRow (below_alloc2 _ _ _) (Nat.le_refl _) _) HA'.out

set_option maxHeartbeats 400000 in
theorem parse_no (s : ByteArray) (w : World) (hs : s.size ≤ maxLen) (h : isName s.data.toList = false) (hq : ¬ (1 ≤ s.size ∧ s.size ≤ 12 ∧ ∀ (h : 0 < s.size), letterB s[0].toNat = true)) :
    Calls Try.prog 50 #[.string s] w fun e w' => e = .returned (.tuple #[.agg (bC (parseN s.data.toList)), .int .i64 (parseE s.data.toList)]) ∧ Below w.heap.size w w' := by
  unfold maxLen at hs
  have HN := Lib.hid h; clear h
  have hend : ∀ w', Below w.heap.size w w' → Ending.returned (.tuple #[.agg (bC z12), .int .i64 15]) = Ending.returned (.tuple #[.agg (bC (parseN s.data.toList)), .int .i64 (parseE s.data.toList)]) ∧ Below w.heap.size w w' := fun w' hb => by
    rw [parseN, parseE, HN.out]; exact ⟨rfl, hb⟩
  have HE := Lib.hid hend; clear hend
  by_cases h0 : s.size < 1
  · clear hq
    go_enter Try.func50, Try.ntmps50
    go_wp2_with (with_reducible refine st23 rfl _ _ rfl w.heap.size z12 rfl rfl rfl z12 (heap_alloc_new _ _) rfl ?_)
    refine bodyPost_ret (res_row_tmp (t := 3) rfl _ _ w.heap.size z12 (0, 0) rfl (setRow_heap _ _ _ _ _ _ (heap_alloc_new _ _)) rfl) rfl ?_
    exact HE.out _ (below_setRow (below_alloc1 _ _) (Nat.le_refl _) _)
  · by_cases h1 : 12 < s.size
    · clear hq
      go_enter Try.func50, Try.ntmps50
      go_wp2_with (with_reducible refine st23 rfl _ _ rfl w.heap.size z12 rfl rfl rfl z12 (heap_alloc_new _ _) rfl ?_)
      refine bodyPost_ret (res_row_tmp (t := 3) rfl _ _ w.heap.size z12 (0, 0) rfl (setRow_heap _ _ _ _ _ _ (heap_alloc_new _ _)) rfl) rfl ?_
      exact HE.out _ (below_setRow (below_alloc1 _ _) (Nat.le_refl _) _)
    · have h2 : letterB (s[0]'(by omega)).toNat = false := by
        cases hc : letterB (s[0]'(by omega)).toNat
        · rfl
        · exact absurd ⟨by omega, by omega, fun _ => hc⟩ hq
      clear hq
      go_enter Try.func50, Try.ntmps50
      go_wp2_with (first
        | (go_at_call 57; refine (letter_any _ _ (by omega) (byte_lt _)).mono ?_; rintro e w' ⟨rfl, rfl⟩)
        | (with_reducible refine st23 rfl _ _ rfl w.heap.size z12 rfl rfl rfl z12 (heap_alloc_new _ _) rfl ?_))
      refine bodyPost_ret (res_row_tmp (t := 3) rfl _ _ w.heap.size z12 (0, 0) rfl (setRow_heap _ _ _ _ _ _ (heap_alloc_new _ _)) rfl) rfl ?_
      exact HE.out _ (below_setRow (below_alloc1 _ _) (Nat.le_refl _) _)

theorem parse_any (s : ByteArray) (w : World) (hs : s.size ≤ maxLen) :
    Calls Try.prog 50 #[.string s] w fun e w' => e = .returned (.tuple #[.agg (bC (parseN s.data.toList)), .int .i64 (parseE s.data.toList)]) ∧ Below w.heap.size w w' := by
  by_cases h : 1 ≤ s.size ∧ s.size ≤ 12 ∧ ∀ (h : 0 < s.size), letterB s[0].toNat = true
  · exact parse_loop s w h.1 h.2.1 (h.2.2 (by omega))
  · refine parse_no s w hs ?_ h
    cases hn : isName s.data.toList
    · rfl
    · exfalso; apply h
      simp only [isName, Bool.and_eq_true, decide_eq_true_eq] at hn
      obtain ⟨⟨⟨h0, h1⟩, h2⟩, _⟩ := hn
      have h0' : 1 ≤ s.size := by simpa using h0
      refine ⟨h0', by simpa using h1, fun hz => ?_⟩
      have : s.data.toList.headD 0 = s[0] := by
        rw [← at_list s 0 (by omega), List.headD_eq_head?_getD, List.head?_eq_getElem?, List.getElem?_eq_getElem (by simpa using (by omega : 0 < s.size))]; rfl
      rw [← this]; exact h2

end Go.Proofs.Ytpnmficlebnajaa
