/- Texts joined: TX. -/
import Derived.Test.YtpnmficlebnajaaGX
import Derived.Deep.Quiet
import Derived.Deep.Cut
import Derived.Deep.WholeRow
/- name.letter, name.sign, name.Parse. -/
namespace Go.Proofs.Ytpnmficlebnajaa
open Go.RowKit

def letterB (c : Int) : Bool := decide (97 ≤ c) && decide (c ≤ 122)
def signB (c : Int) : Bool := letterB c || (decide (48 ≤ c) && decide (c ≤ 57)) || c == 45 || c == 95 || c == 46

set_option maxHeartbeats 400000 in
theorem letter_any (c : Int) (w : World) (h0 : 0 ≤ c) (h1 : c ≤ 255) :
    Calls Try.prog 57 #[.int .u8 c] w fun e w' => e = .returned (.bool (letterB c)) ∧ w = w' := by
  by_cases a : 97 ≤ c
  all_goals
    go_enter Try.func57, Try.ntmps57
    go_wp2
    go_ret
    exact ⟨by simp [letterB]; try omega, rfl⟩

set_option maxHeartbeats 400000 in
theorem sign_any (c : Int) (w : World) (h0 : 0 ≤ c) (h1 : c ≤ 255) :
    Calls Try.prog 58 #[.int .u8 c] w fun e w' => e = .returned (.bool (signB c)) ∧ w = w' := by
  have key : ∀ b : Bool, signB c = b → Calls Try.prog 58 #[.int .u8 c] w fun e w' => e = .returned (.bool b) ∧ w = w' := by
    intro b hb
    have H := Lib.hid hb; clear hb
    go_enter Try.func58, Try.ntmps58
    go_wp2_with (go_at_call 57; refine (letter_any _ _ h0 h1).mono ?_; rintro e w' ⟨rfl, rfl⟩)
    all_goals
      go_ret
      have hb := H.out
      refine ⟨ret_bool ?_, rfl⟩
      rw [← hb]; simp only [signB, *]; rw [Bool.eq_iff_iff]; simp <;> omega
  exact key _ rfl

def isName (l : List UInt8) : Bool := decide (1 ≤ l.length) && decide (l.length ≤ 12) && letterB (l.headD 0).toNat && l.all fun b => signB b.toNat
def parseN (l : List UInt8) : List UInt8 := if isName l then pad l else z12
def parseE (l : List UInt8) : Int := if isName l then 0 else 15
theorem parseN_length (l : List UInt8) : (parseN l).length = 12 := by unfold parseN; split <;> simp [pad_length, z12]

theorem isName_yes {l : List UInt8} (h0 : 1 ≤ l.length) (h1 : l.length ≤ 12) (hl : letterB (l.headD 0).toNat = true) (hs : ∀ i (h : i < l.length), signB (l[i]'h).toNat = true) : isName l = true := by
  simp only [isName, hl, decide_eq_true h0, decide_eq_true h1, Bool.true_and]
  rw [List.all_eq_true]
  intro x hx
  obtain ⟨i, hi, rfl⟩ := List.mem_iff_getElem.1 hx
  exact hs i hi
theorem isName_no {l : List UInt8} (i : Nat) (hi : i < l.length) (hs : signB (l[i]'hi).toNat = false) : isName l = false := by
  have : (l.all fun b => signB b.toNat) = false := by
    rw [List.all_eq_false]
    exact ⟨l[i], List.getElem_mem hi, by simp [hs]⟩
  simp [isName, this]

set_option maxHeartbeats 400000 in
theorem parse_loop (s : ByteArray) (w : World) (h0 : 1 ≤ s.size) (h1 : s.size ≤ 12) (hl : letterB s[0].toNat = true) :
    Calls Try.prog 50 #[.string s] w fun e w' => e = .returned (.tuple #[.agg (bC (parseN s.data.toList)), .int .i64 (parseE s.data.toList)]) ∧ Below w.heap.size w w' := by
  have hfin : ∀ (w' : World) (hb : Below w.heap.size w w') (hall : ∀ i (h : i < s.size), signB s[i].toNat = true),
      Ending.returned (.tuple #[.agg (bC (pad s.data.toList)), .int .i64 0]) = Ending.returned (.tuple #[.agg (bC (parseN s.data.toList)), .int .i64 (parseE s.data.toList)]) ∧ Below w.heap.size w w' := by
    intro w' hb hall
    have : isName s.data.toList = true := isName_yes (by rw [Array.length_toList]; exact h0) (by simpa using h1) (by
      have : s.data.toList.headD 0 = s[0] := by
        rw [← at_list s 0 (by omega), List.headD_eq_head?_getD, List.head?_eq_getElem?, List.getElem?_eq_getElem (by simpa using (by omega : 0 < s.size))]; rfl
      rw [this]; exact hl) (fun i hi => by rw [at_list s i (by simpa using hi)]; exact hall i (by simpa using hi))
    simp [parseN, parseE, this, hb]
  have HF := Lib.hid hfin; clear hfin
  have hlen : ∀ k, k < s.size → k < 12 := fun k h => by omega
  go_enter Try.func50, Try.ntmps50
  go_wp2_with (go_at_call 57; refine (letter_any _ _ (by omega) (byte_lt _)).mono ?_; rintro e w' ⟨rfl, rfl⟩)
  rw [← bC_z12]
  go_loopw [23] (fun i wr => ∃ k : Nat, k ≤ s.size ∧ i = .int .i64 k ∧ wr = (w.alloc (.cells (bC z12) 40)).alloc (.cells (bC (pad (s.data.toList.take k))) 40) ∧ Hid (∀ i (h : i < k) (h2 : i < s.size), signB s[i].toNat = true)) (fun i _ => s.size - (intOf i).toNat)
  case atStart => exact ⟨0, Nat.zero_le _, rfl, by rw [List.take_zero, pad_nil], fun i h => by omega⟩
  case round =>
    obtain ⟨k, hk, rfl, rfl, HA⟩ := hrel
    by_cases hlt : k < s.size
    · have hc := bC_get (pad (s.data.toList.take k)) k (by rw [pad_length]; omega)
      by_cases hsg : signB s[k].toNat = true
      · go_wp2_with (go_at_call 58; refine (sign_any _ _ (by omega) (byte_lt _)).mono ?_; rintro e w' ⟨rfl, rfl⟩)
        go_roundw
        case rel =>
          refine ⟨k + 1, by omega, by go_num, ?_, ?_⟩
          · rw [bC_set, ← at_list s k hlt, pad_snoc s.data.toList k (by simpa using hlt) (by omega)]
          · intro i h h2
            by_cases e : i = k
            · subst e; exact hsg
            · exact HA.out i (by omega) h2
        case measure => simp [intOf]; omega
      · have hno : isName s.data.toList = false := isName_no k (by simpa using hlt) (by rw [at_list s k hlt]; simpa using hsg)
        have HN := Lib.hid hno; clear hno
        have hsg' : signB s[k].toNat = false := by simpa using hsg
        clear hsg
        go_wp2_with (first
          | (go_at_call 58; refine (sign_any _ _ (by omega) (byte_lt _)).mono ?_; rintro e w' ⟨rfl, rfl⟩)
          | (with_reducible refine st23 rfl _ _ rfl w.heap.size z12 rfl rfl rfl z12 (heap_alloc2_old _ _ _) rfl ?_))
        refine bodyPost_ret (res_row_tmp (t := 3) rfl _ _ w.heap.size z12 (0, 0) rfl (setRow_heap _ _ _ _ _ _ (heap_alloc2_old _ _ _)) rfl) rfl ⟨?_, below_setRow (below_alloc2 _ _ _) (Nat.le_refl _) _⟩
        rw [parseN, parseE, HN.out]; rfl
    · obtain rfl : k = s.size := by omega
      have HA' : Hid (∀ i (h : i < s.size), signB s[i].toNat = true) := fun i h => HA.out i h h
      clear HA
      go_wp2_with (first
        | (with_reducible refine ld23 rfl _ rfl (w.heap.size + 1) rfl (pad (s.data.toList.take s.size)) (pad_length _) (0, 0) (heap_alloc2_new _ _ _) ?_)
        | (with_reducible refine st23 rfl _ _ rfl w.heap.size (pad (s.data.toList.take s.size)) rfl rfl (pad_length _) z12 (heap_alloc2_old _ _ _) rfl ?_))
      refine bodyPost_ret (res_row_tmp rfl _ _ w.heap.size (pad (s.data.toList.take s.size)) (0, 0) rfl (setRow_heap _ _ _ _ _ _ (heap_alloc2_old _ _ _)) (pad_length _)) rfl ?_
      rw [List.take_of_length_le (by simp)]
      exact HF.out _ (below_setRow (below_alloc2 _ _ _) (Nat.le_refl _) _) HA'.out

set_option maxHeartbeats 400000 in
theorem parse_no (s : ByteArray) (w : World) (hs : s.size ≤ maxLen) (h : isName s.data.toList = false) (hq : ¬ (1 ≤ s.size ∧ s.size ≤ 12 ∧ ∀ (h : 0 < s.size), letterB s[0].toNat = true)) :
    Calls Try.prog 50 #[.string s] w fun e w' => e = .returned (.tuple #[.agg (bC (parseN s.data.toList)), .int .i64 (parseE s.data.toList)]) ∧ Below w.heap.size w w' := by
  unfold maxLen at hs
  have HN := Lib.hid h; clear h
  have hend : ∀ w', Below w.heap.size w w' → Ending.returned (.tuple #[.agg (bC z12), .int .i64 15]) = Ending.returned (.tuple #[.agg (bC (parseN s.data.toList)), .int .i64 (parseE s.data.toList)]) ∧ Below w.heap.size w w' := fun w' hb => by
    rw [parseN, parseE, HN.out]; exact ⟨rfl, hb⟩
  have HE := Lib.hid hend; clear hend
  by_cases h0 : s.size < 1
  · clear hq
    go_enter Try.func50, Try.ntmps50
    go_wp2_with (with_reducible refine st23 rfl _ _ rfl w.heap.size z12 rfl rfl rfl z12 (heap_alloc_new _ _) rfl ?_)
    refine bodyPost_ret (res_row_tmp (t := 3) rfl _ _ w.heap.size z12 (0, 0) rfl (setRow_heap _ _ _ _ _ _ (heap_alloc_new _ _)) rfl) rfl ?_
    exact HE.out _ (below_setRow (below_alloc1 _ _) (Nat.le_refl _) _)
  · by_cases h1 : 12 < s.size
    · clear hq
      go_enter Try.func50, Try.ntmps50
      go_wp2_with (with_reducible refine st23 rfl _ _ rfl w.heap.size z12 rfl rfl rfl z12 (heap_alloc_new _ _) rfl ?_)
      refine bodyPost_ret (res_row_tmp (t := 3) rfl _ _ w.heap.size z12 (0, 0) rfl (setRow_heap _ _ _ _ _ _ (heap_alloc_new _ _)) rfl) rfl ?_
      exact HE.out _ (below_setRow (below_alloc1 _ _) (Nat.le_refl _) _)
    · have h2 : letterB (s[0]'(by omega)).toNat = false := by
        cases hc : letterB (s[0]'(by omega)).toNat
        · rfl
        · exact absurd ⟨by omega, by omega, fun _ => hc⟩ hq
      clear hq
      go_enter Try.func50, Try.ntmps50
      go_wp2_with (first
        | (go_at_call 57; refine (letter_any _ _ (by omega) (byte_lt _)).mono ?_; rintro e w' ⟨rfl, rfl⟩)
        | (with_reducible refine st23 rfl _ _ rfl w.heap.size z12 rfl rfl rfl z12 (heap_alloc_new _ _) rfl ?_))
      refine bodyPost_ret (res_row_tmp (t := 3) rfl _ _ w.heap.size z12 (0, 0) rfl (setRow_heap _ _ _ _ _ _ (heap_alloc_new _ _)) rfl) rfl ?_
      exact HE.out _ (below_setRow (below_alloc1 _ _) (Nat.le_refl _) _)

theorem parse_any (s : ByteArray) (w : World) (hs : s.size ≤ maxLen) :
    Calls Try.prog 50 #[.string s] w fun e w' => e = .returned (.tuple #[.agg (bC (parseN s.data.toList)), .int .i64 (parseE s.data.toList)]) ∧ Below w.heap.size w w' := by
  by_cases h : 1 ≤ s.size ∧ s.size ≤ 12 ∧ ∀ (h : 0 < s.size), letterB s[0].toNat = true
  · exact parse_loop s w h.1 h.2.1 (h.2.2 (by omega))
  · refine parse_no s w hs ?_ h
    cases hn : isName s.data.toList
    · rfl
    · exfalso; apply h
      simp only [isName, Bool.and_eq_true, decide_eq_true_eq] at hn
      obtain ⟨⟨⟨h0, h1⟩, h2⟩, _⟩ := hn
      have h0' : 1 ≤ s.size := by simpa using h0
      refine ⟨h0', by simpa using h1, fun hz => ?_⟩
      have : s.data.toList.headD 0 = s[0] := by
        rw [← at_list s 0 (by omega), List.headD_eq_head?_getD, List.head?_eq_getElem?, List.getElem?_eq_getElem (by simpa using (by omega : 0 < s.size))]; rfl
      rw [← this]; exact h2

end Go.Proofs.Ytpnmficlebnajaa

/- The reference's Is and Pad. -/
namespace Go.Proofs.Ytpnmficlebnajaa
open Go.RowKit

theorem head_at (s : ByteArray) (h : 0 < s.size) : s.data.toList.headD 0 = s[0] := by
  rw [← at_list s 0 h, List.headD_eq_head?_getD, List.head?_eq_getElem?, List.getElem?_eq_getElem (by simpa using h)]; rfl

theorem isName_no0 {l : List UInt8} (h : letterB (l.headD 0).toNat = false) : isName l = false := by
  unfold isName; rw [h]; simp
theorem isName_short {l : List UInt8} (h : l.length < 1) : isName l = false := by
  have : decide (1 ≤ l.length) = false := decide_eq_false (by omega)
  simp [isName, this]
theorem isName_long {l : List UInt8} (h : 12 < l.length) : isName l = false := by
  have : decide (l.length ≤ 12) = false := decide_eq_false (by omega)
  simp [isName, this]

set_option maxRecDepth 100000 in
set_option maxHeartbeats 800000 in
theorem is_any (s : ByteArray) (w : World) (hs : s.size ≤ maxLen) :
    Calls Try.prog 32 #[.string s] w fun e w' => e = .returned (.bool (isName s.data.toList)) ∧ w = w' := by
  unfold maxLen at hs
  by_cases h0 : s.size < 1
  · have H := Lib.hid (isName_short (l := s.data.toList) (by simpa using h0))
    go_enter Try.func32, Try.ntmps32
    go_wp2_with fail
    go_ret
    exact ⟨ret_bool (by rw [H.out]), rfl⟩
  by_cases h1 : 12 < s.size
  · have H := Lib.hid (isName_long (l := s.data.toList) (by simpa using h1))
    go_enter Try.func32, Try.ntmps32
    go_wp2_with fail
    go_ret
    exact ⟨ret_bool (by rw [H.out]), rfl⟩
  have h0' : ((s.size : Int) < 1) = False := by simp; omega
  clear h0'
  go_enter Try.func32, Try.ntmps32
  go_wp2_with fail
  go_loop [3] (fun i => ∃ k : Nat, k ≤ s.size ∧ i = .int .i64 k ∧ Hid (∀ i (h : i < k) (h2 : i < s.size), signB s[i].toNat = true ∧ (i = 0 → letterB s[i].toNat = true))) (fun i => s.size - (intOf i).toNat)
  case atStart => exact ⟨0, Nat.zero_le _, rfl, fun i h => by omega⟩
  case round =>
    obtain ⟨k, hk, rfl, HA⟩ := hrel
    by_cases hlt : k < s.size
    · go_wp2_with fail
      all_goals
        try simp only [Bool.not_eq_true', Bool.not_eq_false', decide_eq_true_eq, decide_eq_false_iff_not, beq_iff_eq, beq_eq_false_iff_ne] at *
        first
          | (go_ret
             have hno : signB s[k].toNat = false ∨ (k = 0 ∧ letterB s[k].toNat = false) := by simp [signB, letterB]; omega
             refine ⟨ret_bool ?_, rfl⟩
             rcases hno with hno | ⟨rfl, hno⟩
             · exact (isName_no k (by simpa using hlt) (by rw [at_list s k hlt]; exact hno)).symm
             · exact (isName_no0 (by rw [head_at s hlt]; exact hno)).symm)
          | (go_round
             case rel =>
               have hyes : signB s[k].toNat = true ∧ (k = 0 → letterB s[k].toNat = true) := by simp [signB, letterB]; omega
               refine ⟨k + 1, by omega, by go_num, fun i h h2 => ?_⟩
               by_cases e : i = k
               · subst e; exact hyes
               · exact HA.out i (by omega) h2
             case measure => simp [intOf]; omega)
    · obtain rfl : k = s.size := by omega
      have H : Hid (isName s.data.toList = true) := isName_yes (by rw [Array.length_toList]; show 1 ≤ s.size; omega) (by rw [Array.length_toList]; show s.size ≤ 12; omega)
        (by rw [head_at s (by omega)]; exact (HA.out 0 (by omega) (by omega)).2 rfl) (fun i hi => by rw [at_list s i (by simpa using hi)]; exact (HA.out i (by simpa using hi) (by simpa using hi)).1)
      go_wp2_with fail
      go_ret
      exact ⟨ret_bool (by rw [H.out]), rfl⟩

end Go.Proofs.Ytpnmficlebnajaa

/- The reference's Pad. -/
namespace Go.Proofs.Ytpnmficlebnajaa
open Go.RowKit

theorem res_row22 {fn : Func} {p : Tmp} (h : fn.results = #[.cell p 39]) (tmps : Array Value) (w : World) (g : Nat) (l : List UInt8) (fr : Nat × Nat)
    (hp : tmps.getD p undef = .pointer (some ⟨g, 0, none⟩)) (hg : w.heap[g]? = some (.cells (bC l) 39 fr)) (hl : l.length = 12) :
    (results fn tmps).run Try.prog w = .ok (.agg (bC l)) w :=
  results_cell_row h tmps w g 39 (bC l) fr _ hp hg Try.underlying39 rfl (by rw [info22, bC_size, hl])
theorem ld22 {ops : Array Oper} {rest : List Oper} {o : Oper} {a : Act} {w : World} {Q : Exit → Act → World → Prop} (hgd : o.guard = none) (x : Operand) (ho : o.op = .load 39 x)
    (g : Nat) (hx : a.eval x = .pointer (some ⟨g, 0, none⟩)) (l : List UInt8) (hl : l.length = 12) (fr : Nat × Nat) (hg : w.heap[g]? = some (.cells (bC l) 39 fr))
    (h : wpList Try.prog ops Q rest (a.put o.dst (.agg (bC l))) w) : wpList Try.prog ops Q (o :: rest) a w :=
  wpList_load_row hgd 39 x ho g hx 39 (bC l) fr _ hg Try.underlying39 rfl (by rw [info22, bC_size, hl]) h
theorem st22 {ops : Array Oper} {rest : List Oper} {o : Oper} {a : Act} {w : World} {Q : Exit → Act → World → Prop} (hgd : o.guard = none) (x y : Operand) (ho : o.op = .store 39 x y)
    (g : Nat) (l : List UInt8) (hx : a.eval x = .pointer (some ⟨g, 0, none⟩)) (hy : a.eval y = .agg (bC l)) (hl : l.length = 12)
    (old : List UInt8) (hg : w.heap[g]? = some (.cells (bC old) 39 (0, 0))) (hold : old.length = 12)
    (h : wpList Try.prog ops Q rest (a.put o.dst undef) (w.setRow g (bC l))) : wpList Try.prog ops Q (o :: rest) a w :=
  wpList_store_row hgd 39 x y ho g (bC l) hx hy 39 (bC old) hg (by rw [info22, bC_size, hl]) (by rw [bC_size, bC_size, hl, hold]) (bC_one l) h

theorem pad_take (l : List UInt8) (k : Nat) (h : l.length ≤ k ∨ 12 ≤ k) : pad (l.take k) = pad l := by
  rcases h with h | h
  · rw [List.take_of_length_le h]
  · unfold pad
    rw [List.take_take, Nat.min_eq_left h]
    by_cases hl : l.length ≤ 12
    · rw [List.take_of_length_le (show l.length ≤ k by omega)]
    · simp; omega

set_option maxHeartbeats 400000 in
theorem pad_any (s : ByteArray) (w : World) (hs : s.size ≤ maxLen) :
    Calls Try.prog 34 #[.string s] w fun e w' => e = .returned (.agg (bC (pad s.data.toList))) ∧ Below w.heap.size w w' := by
  unfold maxLen at hs
  go_enter Try.func34, Try.ntmps34
  go_wp2_with fail
  rw [← bC_z12]
  go_loopw [4] (fun i wr => ∃ k : Nat, k ≤ s.size ∧ k ≤ 12 ∧ i = .int .i64 k ∧ wr = (w.alloc (.cells (bC z12) 39)).alloc (.cells (bC (pad (s.data.toList.take k))) 39)) (fun i _ => s.size - (intOf i).toNat)
  case atStart => exact ⟨0, Nat.zero_le _, Nat.zero_le _, rfl, by rw [List.take_zero, pad_nil]⟩
  case round =>
    obtain ⟨k, hk, hk12, rfl, rfl⟩ := hrel
    by_cases hlt : k < s.size ∧ k < 12
    · obtain ⟨hlt, hlt2⟩ := hlt
      have hc := bC_get (pad (s.data.toList.take k)) k (by rw [pad_length]; omega)
      go_wp2_with fail
      go_roundw
      case rel =>
        refine ⟨k + 1, by omega, by omega, by go_num, ?_⟩
        rw [bC_set, ← at_list s k hlt, pad_snoc s.data.toList k (by simpa using hlt) (by omega)]
      case measure => simp [intOf]; omega
    · have hp : pad (s.data.toList.take k) = pad s.data.toList := pad_take _ _ (by rw [Array.length_toList]; show s.size ≤ k ∨ 12 ≤ k; omega)
      rw [hp]
      clear hp
      have hq : k < s.size → ¬ k < 12 := fun a b => hlt ⟨a, b⟩
      clear hlt
      by_cases hlt : k < s.size
      · have hlt2 := hq hlt
        clear hq
        go_wp2_with (first
          | (with_reducible refine ld22 rfl _ rfl (w.heap.size + 1) rfl (pad s.data.toList) (pad_length _) (0, 0) (heap_alloc2_new _ _ _) ?_)
          | (with_reducible refine st22 rfl _ _ rfl w.heap.size (pad s.data.toList) rfl rfl (pad_length _) z12 (heap_alloc2_old _ _ _) rfl ?_))
        refine bodyPost_ret (res_row22 rfl _ _ w.heap.size (pad s.data.toList) (0, 0) rfl (setRow_heap _ _ _ _ _ _ (heap_alloc2_old _ _ _)) (pad_length _)) rfl ?_
        exact ⟨rfl, below_setRow (below_alloc2 _ _ _) (Nat.le_refl _) _⟩
      · clear hq
        go_wp2_with (first
          | (with_reducible refine ld22 rfl _ rfl (w.heap.size + 1) rfl (pad s.data.toList) (pad_length _) (0, 0) (heap_alloc2_new _ _ _) ?_)
          | (with_reducible refine st22 rfl _ _ rfl w.heap.size (pad s.data.toList) rfl rfl (pad_length _) z12 (heap_alloc2_old _ _ _) rfl ?_))
        refine bodyPost_ret (res_row22 rfl _ _ w.heap.size (pad s.data.toList) (0, 0) rfl (setRow_heap _ _ _ _ _ _ (heap_alloc2_old _ _ _)) (pad_length _)) rfl ?_
        exact ⟨rfl, below_setRow (below_alloc2 _ _ _) (Nat.le_refl _) _⟩

end Go.Proofs.Ytpnmficlebnajaa

/- bytes.IndexByte at a row of bytes; front, Right, Text. -/
namespace Go.Proofs.Ytpnmficlebnajaa
open Go.RowKit

/-- Bytes in a block, from offset o on. -/
def Row (w : World) (b o : Nat) (l : List UInt8) : Prop := ∀ i (h : i < l.length), w.cell? ⟨b, o + i, none⟩ = some (.int .u8 (l[i].toNat : Int))
theorem row_nums {w : World} {b o : Nat} {l : List UInt8} (h : Row w b o l) : ∀ i, i < l.length → w.cell? ⟨b, o + i, none⟩ = some (.int .u8 ((l.map fun x => (x.toNat : Int)).getD i 0)) := fun i hi => by
  rw [h i hi]; simp [hi]
theorem nums_bytes (l : List UInt8) : Lib.bytesOf (l.map fun x => (x.toNat : Int)) = l := by
  unfold Lib.bytesOf
  rw [List.map_map]
  conv => rhs; rw [← List.map_id l]
  apply List.map_congr_left
  intro x _
  simp
theorem row_of_block {w : World} {b : Nat} {l : List UInt8} {t : TypeId} {fr : Nat × Nat} (h : w.heap[b]? = some (.cells (bC l) t fr)) : Row w b 0 l := fun i hi => by
  rw [Nat.zero_add, cell_of_row w b i _ t fr h, bC_get l i hi]

theorem run_indexByte (w : World) (b o n c : Nat) (l : List UInt8) (hl : l.length = n) (h : Row w b o l) (cv : Int) :
    (callFunc 61 #[.slice (some ⟨b, o, none⟩) n c, .int .u8 cv]).run Try.prog w = .ok (.value (.int .i64 (Lib.indexByte l cv.toNat.toUInt8))) w := by
  rw [run_callFunc_extern Try.func61 (by kernel_rfl) (by kernel_rfl) (by kernel_rfl) (e := Extern.BytealgIndexByte.indexByte) (by kernel_rfl)]
  have := Lib.run_indexByteSlice (P := Try.prog) w b o n c (l.map fun x => (x.toNat : Int)) (by simp [hl]) (by subst hl; exact row_nums h) cv
  rw [nums_bytes] at this
  rw [this]
  rfl

set_option maxHeartbeats 400000 in
theorem indexByte_any (b n c : Nat) (l : List UInt8) (w : World) (hl : l.length = n) (h : Row w b 0 l) (r : Int) (hr : Lib.indexByte l 0 = r) :
    Calls Try.prog 55 #[.slice (some ⟨b, 0, none⟩) n c, .int .u8 0] w fun e w' => e = .returned (.int .i64 r) ∧ w = w' := by
  have hx := run_indexByte w b 0 n c l hl h 0
  rw [show (0 : Int).toNat.toUInt8 = 0 from rfl, hr] at hx
  clear hr
  go_enter Try.func55, Try.ntmps55
  go_wp2
  go_ret
  exact ⟨rfl, rfl⟩

theorem run_bytes_string (w : World) (b o n cap : Nat) (l : List UInt8) (h : Row w b o l) (hn : n ≤ l.length) :
    (convert 65 9 (.slice (some ⟨b, o, none⟩) n cap)).run Try.prog w = .ok (.string ⟨(l.take n).toArray⟩) w := by
  have := run_convert_bytes_arg (P := Try.prog) w 65 5 Try.underlying65 Try.underlying5 b o n cap ((l.take n).map fun x => (x.toNat : Int)) (by simp; omega) (fun i hi => by
    rw [h i (by omega)]
    simp [List.getElem?_take, hi, (by omega : i < l.length)]) 9 Try.underlying9
  rw [this]
  refine congrArg (fun s => Result.ok (Value.string s) w) (ByteArray.ext (Array.toList_inj.1 ?_))
  rw [strOfNums_data, List.map_map]
  show _ = l.take n
  conv => rhs; rw [← List.map_id (l.take n)]
  apply List.map_congr_left
  intro x _
  simp

/-- The bytes ahead of the first 0. -/
def front (l : List UInt8) : List UInt8 := l.takeWhile (· != 0)
theorem indexByte_front : ∀ (l : List UInt8), (Lib.indexByte l 0 = -1 ∧ front l = l) ∨ (∃ k : Nat, k < l.length ∧ Lib.indexByte l 0 = k ∧ l.take k = front l)
  | [] => .inl ⟨rfl, rfl⟩
  | b :: l => by
    by_cases hb : b = 0
    · subst hb; exact .inr ⟨0, by simp, rfl, rfl⟩
    · have e1 : front (b :: l) = b :: front l := by simp [front, hb]
      rcases indexByte_front l with ⟨h1, h2⟩ | ⟨k, h0, h1, h2⟩
      · exact .inl ⟨by simp [Lib.indexByte, hb, h1], by rw [e1, h2]⟩
      · refine .inr ⟨k + 1, by simp; omega, ?_, by rw [e1, List.take_succ_cons, h2]⟩
        have : ¬ ((k : Int) = -1) := by omega
        simp [Lib.indexByte, hb, h1, this]
theorem front_length (l : List UInt8) : (front l).length ≤ l.length := by
  unfold front; exact (List.takeWhile_sublist _).length_le

set_option maxHeartbeats 400000 in
theorem front_any (l : List UInt8) (w : World) (hl : l.length = 12) :
    Calls Try.prog 47 #[.agg (bC l)] w fun e w' => e = .returned (.string ⟨(front l).toArray⟩) ∧ Below w.heap.size w w' := by
  have hrow : Row (w.alloc (.cells (bC l) 40)) w.heap.size 0 l := row_of_block (heap_alloc_new _ _)
  rcases indexByte_front l with ⟨h1, h2⟩ | ⟨k, h0, h1, h2⟩
  · have hcv := run_bytes_string (w.alloc (.cells (bC l) 40)) w.heap.size 0 12 12 l hrow (by omega)
    rw [List.take_of_length_le (by omega)] at hcv
    have H := Lib.hid h2
    have H1 := Lib.hid h1
    have HR := Lib.hid hrow
    clear h2 h1 hrow
    go_enter Try.func47, Try.ntmps47
    go_wp2_with (go_at_call 55; refine (indexByte_any _ _ _ l _ hl HR.out _ H1.out).mono ?_; rintro e w' ⟨rfl, rfl⟩)
    go_ret
    exact ⟨by rw [H.out]; rfl, below_alloc1 _ _⟩
  · have hcv := run_bytes_string (w.alloc (.cells (bC l) 40)) w.heap.size 0 k 12 l hrow (by omega)
    have H := Lib.hid h2
    have H1 := Lib.hid h1
    have HR := Lib.hid hrow
    have hk : k ≤ 12 := by omega
    clear h2 h1 hrow h0
    go_enter Try.func47, Try.ntmps47
    go_wp2_with (go_at_call 55; refine (indexByte_any _ _ _ l _ hl HR.out _ H1.out).mono ?_; rintro e w' ⟨rfl, rfl⟩)
    go_ret
    exact ⟨by rw [H.out]; rfl, below_alloc1 _ _⟩

end Go.Proofs.Ytpnmficlebnajaa

/- Right, Text. -/
namespace Go.Proofs.Ytpnmficlebnajaa
open Go.RowKit

def rightB (l : List UInt8) : Bool := isName (front l) && pad (front l) == l
def textL (l : List UInt8) : List UInt8 := if rightB l then front l else []

theorem front_small {l : List UInt8} (hl : l.length = 12) : (⟨(front l).toArray⟩ : ByteArray).size ≤ maxLen := by
  have := front_length l
  show (front l).toArray.size ≤ maxLen
  unfold maxLen
  simp; omega

/-- A load under a guard that is met. -/
theorem ld23g {ops : Array Oper} {rest : List Oper} {o : Oper} {a : Act} {w : World} {Q : Exit → Act → World → Prop} (hw : Region.wanted o (yielded ops a.tmps) = true) (x : Operand) (ho : o.op = .load 40 x)
    (g : Nat) (hx : a.eval x = .pointer (some ⟨g, 0, none⟩)) (l : List UInt8) (hl : l.length = 12) (fr : Nat × Nat) (hg : w.heap[g]? = some (.cells (bC l) 40 fr))
    (h : wpList Try.prog ops Q rest (a.put o.dst (.agg (bC l))) w) : wpList Try.prog ops Q (o :: rest) a w :=
  wpList_step fun _ hK => by
    rw [if_pos hw]
    exact wp_load_row 40 x ho g hx 40 (bC l) fr _ hg Try.underlying40 rfl (by rw [info23, bC_size, hl]) (hK _ _ h)

set_option maxHeartbeats 400000 in
theorem right_any (l : List UInt8) (w : World) (hl : l.length = 12) :
    Calls Try.prog 44 #[.agg (bC l)] w fun e w' => e = .returned (.bool (rightB l)) ∧ Below w.heap.size w w' := by
  have hf := front_small hl
  have HF := Lib.hid hf
  have HL := Lib.hid hl
  clear hf hl
  cases hn : isName (front l)
  · have HN := Lib.hid hn; clear hn
    have HE : Hid (parseE (front l) = 15) := by show parseE (front l) = 15; rw [parseE, HN.out]; rfl
    go_enter Try.func44, Try.ntmps44
    go_wp2_with (first
      | (with_reducible refine ld23g rfl _ rfl w.heap.size rfl l HL.out (0, 0) (heap_alloc_new _ _) ?_)
      | (with_reducible refine st23 rfl _ _ rfl _ (parseN (front l)) rfl rfl (parseN_length _) z12 (heap_alloc_new _ _) rfl ?_)
      | (go_at_call 47; refine (front_any l _ HL.out).mono ?_; rintro e w1 ⟨rfl, hb1⟩)
      | (go_at_call 50; refine (parse_any ⟨(front l).toArray⟩ _ HF.out).mono ?_; rintro e w2 ⟨rfl, hb2⟩; simp only [show (⟨(front l).toArray⟩ : ByteArray).data.toList = front l from rfl, HE.out]))
    go_ret
    refine ⟨ret_bool (by rw [rightB, HN.out]; rfl), ?_⟩
    exact below_setRow (((below_alloc1 _ _).trans ((hb1.mono (by simp)).trans (hb2.mono (by have := hb1.size; simp at this; omega)))).alloc (by have := hb1.size; have := hb2.size; simp at *; omega) _) (by have := hb1.size; have := hb2.size; simp at *; omega) _
  · have HN := Lib.hid hn; clear hn
    have HE : Hid (parseE (front l) = 0) := by show parseE (front l) = 0; rw [parseE, HN.out]; rfl
    have heq := eql23 (xs := parseN (front l)) (ys := l) (hx := parseN_length _) (hy := HL.out)
    go_enter Try.func44, Try.ntmps44
    go_wp2_with (first
      | (with_reducible refine ld23g rfl _ rfl w.heap.size rfl l HL.out (0, 0) (heap_alloc_new _ _) ?_)
      | (with_reducible refine ld23g rfl _ rfl w2.heap.size rfl (parseN (front l)) (parseN_length _) (0, 0) (setRow_heap _ _ _ _ _ _ (heap_alloc_new _ _)) ?_)
      | (with_reducible refine ld23g rfl _ rfl w.heap.size rfl l HL.out (0, 0) ?hg ?_)
      | (with_reducible refine st23 rfl _ _ rfl _ (parseN (front l)) rfl rfl (parseN_length _) z12 (heap_alloc_new _ _) rfl ?_)
      | (go_at_call 47; refine (front_any l _ HL.out).mono ?_; rintro e w1 ⟨rfl, hb1⟩)
      | (go_at_call 50; refine (parse_any ⟨(front l).toArray⟩ _ HF.out).mono ?_; rintro e w2 ⟨rfl, hb2⟩; simp only [show (⟨(front l).toArray⟩ : ByteArray).data.toList = front l from rfl, HE.out]))
    case hg =>
      have s1 := hb1.size
      have s2 := hb2.size
      simp only [World.size_alloc] at s1
      rw [setRow_other _ _ _ _ (by omega), heap_alloc_old _ _ (by omega), hb2.block _ (by omega), hb1.block _ (by simp)]
      exact heap_alloc_new _ _
    have s1 := hb1.size
    have s2 := hb2.size
    simp only [World.size_alloc] at s1
    go_ret
    refine ⟨ret_bool (by rw [rightB, HN.out, parseN, HN.out]; rfl), ?_⟩
    exact below_setRow (((below_alloc1 _ _).trans ((hb1.mono (by simp)).trans (hb2.mono (by omega)))).alloc (by omega) _) (by omega) _

set_option maxHeartbeats 400000 in
theorem text_any (l : List UInt8) (w : World) (hl : l.length = 12) :
    Calls Try.prog 28 #[.agg (bC l)] w fun e w' => e = .returned (.string ⟨(textL l).toArray⟩) ∧ Below w.heap.size w w' := by
  have HL := Lib.hid hl
  clear hl
  cases hn : rightB l
  · have HN := Lib.hid hn
    have hr : ∀ W : World, Calls Try.prog 44 #[.agg (bC l)] W fun e w' => e = .returned (.bool false) ∧ Below W.heap.size W w' := fun W => hn ▸ right_any l W HL.out
    have HR := Lib.hid hr
    clear hn hr
    go_enter Try.func28, Try.ntmps28
    go_wp2_with (first
      | (with_reducible refine ld23g rfl _ rfl w.heap.size rfl l HL.out (0, 0) (heap_alloc_new _ _) ?_)
      | (go_at_call 44; refine (HR.out _).mono ?_; rintro e w1 ⟨rfl, hb1⟩))
    go_ret
    refine ⟨by rw [textL, HN.out]; rfl, (below_alloc1 _ _).trans (hb1.mono (by simp))⟩
  · have HN := Lib.hid hn
    have hr : ∀ W : World, Calls Try.prog 44 #[.agg (bC l)] W fun e w' => e = .returned (.bool true) ∧ Below W.heap.size W w' := fun W => hn ▸ right_any l W HL.out
    have HR := Lib.hid hr
    clear hn hr
    go_enter Try.func28, Try.ntmps28
    go_wp2_with (first
      | (with_reducible refine ld23g rfl _ rfl w.heap.size rfl l HL.out (0, 0) (heap_alloc_new _ _) ?_)
      | (with_reducible refine ld23g rfl _ rfl w.heap.size rfl l HL.out (0, 0) ?hg ?_)
      | (go_at_call 44; refine (HR.out _).mono ?_; rintro e w1 ⟨rfl, hb1⟩)
      | (go_at_call 47; refine (front_any l _ HL.out).mono ?_; rintro e w2 ⟨rfl, hb2⟩))
    case hg => rw [hb1.block _ (by simp)]; exact heap_alloc_new _ _
    have s1 := hb1.size
    simp only [World.size_alloc] at s1
    go_ret
    refine ⟨by rw [textL, HN.out]; rfl, (below_alloc1 _ _).trans ((hb1.mono (by simp)).trans (hb2.mono (by omega)))⟩

end Go.Proofs.Ytpnmficlebnajaa

/- A region, whether it draws its order or not, whose operations read and whose callees lay blocks alone: walked once, in the order of the text, at the class of all worlds that are as W below W's end. -/
namespace Go.Proofs.Ytpnmficlebnajaa
open Go.RowKit

/-- A store of a whole row into the block that was laid last. -/
theorem st23n {ops : Array Oper} {rest : List Oper} {o : Oper} {a : Act} {w : World} {Q : Exit → Act → World → Prop} (hgd : o.guard = none) (x y : Operand) (ho : o.op = .store 40 x y)
    (l : List UInt8) (hx : a.eval x = .pointer (some ⟨w.heap.size, 0, none⟩)) (hy : a.eval y = .agg (bC l)) (hl : l.length = 12)
    (h : wpList Try.prog ops Q rest (a.put o.dst undef) (w.alloc (.cells (bC l) 40))) : wpList Try.prog ops Q (o :: rest) a (w.alloc (.cells (bC z12) 40)) :=
  st23 hgd x y ho w.heap.size l hx hy hl z12 (heap_alloc_new _ _) rfl (by rw [World.setRow_alloc_new]; exact h)


section
variable {ops : Array Oper} {Q : Act → Prop} {a : Act} {o : Oper} {rest : List Oper}
theorem wq_load {W : World} (T : TypeId) (x : Operand) (g : Nat) (cs : Array Value) (t : TypeId) (fr : Nat × Nat) (d : TypeDesc) (hd : (match d with | .struct _ | .array _ _ => true | _ => false) = true) (hw : Region.wanted o (yielded ops a.tmps) = true) (ho : o.op = .load T x)
    (hx : a.eval x = .pointer (some ⟨g, 0, none⟩)) (hg : W.heap[g]? = some (.cells cs t fr))
    (hu : Try.prog.underlying T = some d) (hi : (Try.prog.info? T).map (·.size) = some cs.size)
    (h : wpQuiet Try.prog ops (fun w' => ∃ p : Regrown, w' = Sort.grow (redrawn W p.d) p.os) Q rest (a.put o.dst (.agg cs))) : wpQuiet Try.prog ops (fun w' => ∃ p : Regrown, w' = Sort.grow (redrawn W p.d) p.os) Q (o :: rest) a := by
  refine wq_valC (.agg cs) hw (fun w hC => ?_) h
  obtain ⟨⟨dq, osq⟩, rfl⟩ := hC
  have hg' := rg_block hg dq osq
  have hload : (loadVar T ⟨g, 0, none⟩).run Try.prog (Sort.grow (redrawn W dq) osq) = .ok (.agg cs) (Sort.grow (redrawn W dq) osq) := by
    refine run_loadVar_row _ g t T cs fr d hg' hu ?_ hi
    revert hd
    cases d <;> intro hd <;> first | rfl | exact hd
  unfold execOp
  simp only [ho, hx, Instr.loadAt, Instr.sureAddr, Sem.run_bind, Sem.run_pure, Result.andThen_ok, hload]
theorem wq_load23 {W : World} (x : Operand) (g : Nat) (l : List UInt8) (fr : Nat × Nat) (hw : Region.wanted o (yielded ops a.tmps) = true) (ho : o.op = .load 40 x)
    (hx : a.eval x = .pointer (some ⟨g, 0, none⟩)) (hg : W.heap[g]? = some (.cells (bC l) 40 fr)) (hl : l.length = 12)
    (h : wpQuiet Try.prog ops (fun w' => ∃ p : Regrown, w' = Sort.grow (redrawn W p.d) p.os) Q rest (a.put o.dst (.agg (bC l)))) : wpQuiet Try.prog ops (fun w' => ∃ p : Regrown, w' = Sort.grow (redrawn W p.d) p.os) Q (o :: rest) a :=
  wq_load 40 x g (bC l) 40 fr _ rfl hw ho hx hg Try.underlying40 (by rw [info23, bC_size, hl]) h
theorem wq_load22 {W : World} (x : Operand) (g : Nat) (l : List UInt8) (fr : Nat × Nat) (hw : Region.wanted o (yielded ops a.tmps) = true) (ho : o.op = .load 39 x)
    (hx : a.eval x = .pointer (some ⟨g, 0, none⟩)) (hg : W.heap[g]? = some (.cells (bC l) 39 fr)) (hl : l.length = 12)
    (h : wpQuiet Try.prog ops (fun w' => ∃ p : Regrown, w' = Sort.grow (redrawn W p.d) p.os) Q rest (a.put o.dst (.agg (bC l)))) : wpQuiet Try.prog ops (fun w' => ∃ p : Regrown, w' = Sort.grow (redrawn W p.d) p.os) Q (o :: rest) a :=
  wq_load 39 x g (bC l) 39 fr _ rfl hw ho hx hg Try.underlying39 (by rw [info22, bC_size, hl]) h
end

end Go.Proofs.Ytpnmficlebnajaa

/- The reference's Text. -/
namespace Go.Proofs.Ytpnmficlebnajaa
open Go.RowKit

theorem front_take : ∀ (l : List UInt8) (k : Nat), k ≤ l.length → (∀ i (_ : i < k) (h2 : i < l.length), l[i] ≠ 0) → (k = l.length ∨ ∀ h : k < l.length, l[k] = 0) → front l = l.take k
  | [], k, _, _, _ => by simp [front]
  | b :: l, 0, _, _, h => by
    rcases h with h | h
    · simp at h
    · have : b = 0 := h (by simp)
      simp [front, this]
  | b :: l, k + 1, hk, ha, h => by
    have hb : b ≠ 0 := ha 0 (by omega) (by simp)
    have ih := front_take l k (by simpa using hk) (fun i hi h2 => ha (i + 1) (by omega) (by simp; omega)) (by
      rcases h with h | h
      · exact .inl (by simpa using h)
      · exact .inr fun h2 => h (by simp; omega))
    rw [List.take_succ_cons, ← ih]
    simp [front, hb]

set_option maxRecDepth 100000 in
set_option maxHeartbeats 400000 in
theorem refText_any (l : List UInt8) (w : World) (hl : l.length = 12) :
    Calls Try.prog 43 #[.agg (bC l)] w fun e w' => e = .returned (.string ⟨(textL l).toArray⟩) ∧ Below w.heap.size w w' := by
  have HL := Lib.hid hl
  go_enter Try.func43, Try.ntmps43
  go_wp2_with fail
  go_loop [3] (fun i => ∃ k : Nat, k ≤ 12 ∧ i = .int .i64 k ∧ Hid (∀ i (h : i < k) (h2 : i < l.length), l[i] ≠ 0)) (fun i => 12 - (intOf i).toNat)
  case atStart => exact ⟨0, Nat.zero_le _, rfl, fun i h => by omega⟩
  case round =>
    obtain ⟨k, hk, rfl, HA⟩ := hrel
    have hcell : ∀ h : k < l.length, (w.alloc (.cells (bC l) 39)).cell? ⟨w.heap.size, k, none⟩ = some (.int .u8 (l[k].toNat : Int)) := fun h => by
      have := row_of_block (heap_alloc_new w (.cells (bC l) 39)) k h
      simpa using this
    by_cases hgo : ∃ hlt : k < l.length, l[k] ≠ 0
    · obtain ⟨hlt, hz⟩ := hgo
      have hc := hcell hlt
      have h12 : k < 12 := by omega
      clear hcell
      have hz' : ((l[k]'hlt).toNat : Int) ≠ 0 := fun h => hz (by apply UInt8.toNat_inj.1; simpa using h)
      have HZ := Lib.hid hz; clear hz
      go_wp2_with fail
      go_round
      case rel =>
        refine ⟨k + 1, by omega, by go_num, fun i h h2 => ?_⟩
        by_cases e : i = k
        · subst e; exact HZ.out
        · exact HA.out i (by omega) h2
      case measure => simp [intOf]; omega
    · have hft : front l = l.take k := front_take l k (by omega) HA.out (by
        by_cases e : k = l.length
        · exact .inl e
        · exact .inr fun h => Classical.byContradiction fun hz => hgo ⟨h, hz⟩)
      have hcv := run_bytes_string (w.alloc (.cells (bC l) 39)) w.heap.size 0 k 12 l (row_of_block (heap_alloc_new _ _)) (by omega)
      rw [← hft] at hcv
      have hz : ∀ h : k < l.length, (l[k].toNat : Int) = 0 := fun h => by
        have : l[k] = 0 := Classical.byContradiction fun hz => hgo ⟨h, hz⟩
        rw [this]; rfl
      clear hgo
      have HF := Lib.hid hft; clear hft
      have hk' : (k : Int) ≤ 12 := by omega
      by_cases hlt : k < 12
      all_goals
        try (have hc := hcell (by omega); rw [hz (by omega)] at hc)
        clear hcell hz
        go_wp2_with fail
        cases hn : isName (front l)
        · have HN := Lib.hid hn
          have hi : ∀ W : World, Calls Try.prog 32 #[.string ⟨(front l).toArray⟩] W fun e w' => e = .returned (.bool false) ∧ W = w' := fun W => hn ▸ is_any ⟨(front l).toArray⟩ W (front_small HL.out)
          clear hn
          refine wp_region_quiet_below (by kernel_rfl) (by kernel_rfl) ?_
          repeat (go_big_quiet_step (exact rg_call0 hi _ _))
          refine wpQuiet_nil ?_
          rintro _ ⟨⟨dq, osq⟩, rfl⟩
          go_wp2_with fail
          go_ret
          exact ⟨by rw [textL, rightB, HN.out]; rfl, (below_alloc1 _ _).trans ((below_regrown _ dq osq).mono (by simp))⟩
        · have HN := Lib.hid hn
          have hi : ∀ W : World, Calls Try.prog 32 #[.string ⟨(front l).toArray⟩] W fun e w' => e = .returned (.bool true) ∧ W = w' := fun W => hn ▸ is_any ⟨(front l).toArray⟩ W (front_small HL.out)
          have hp : ∀ W : World, Calls Try.prog 34 #[.string ⟨(front l).toArray⟩] W fun e w' => e = .returned (.agg (bC (pad (front l)))) ∧ Below W.heap.size W w' := fun W => pad_any ⟨(front l).toArray⟩ W (front_small HL.out)
          have hneq := neq22 (xs := pad (front l)) (ys := l) (hx := pad_length _) (hy := HL.out)
          clear hn
          refine wp_region_quiet_below (by kernel_rfl) (by kernel_rfl) ?_
          repeat (first
            | (with_reducible refine wq_load22 _ w.heap.size l (0, 0) rfl rfl rfl (heap_alloc_new _ _) HL.out ?_; simp only [Act.put, List.setIfInBounds_toArray, List.set_cons_zero, List.set_cons_succ])
            | go_big_quiet_step (first | exact rg_call0 hi _ _ | exact rg_call hp _ _))
          refine wpQuiet_nil ?_
          rintro _ ⟨⟨dq, osq⟩, rfl⟩
          cases he : pad (front l) == l
          · have HQ := Lib.hid he; clear he
            go_wp2_with fail
            go_ret
            exact ⟨by rw [textL, rightB, HN.out, HQ.out]; rfl, (below_alloc1 _ _).trans ((below_regrown _ dq osq).mono (by simp))⟩
          · have HQ := Lib.hid he; clear he
            go_wp2_with fail
            go_ret
            exact ⟨by rw [textL, rightB, HN.out, HQ.out]; rfl, (below_alloc1 _ _).trans ((below_regrown _ dq osq).mono (by simp))⟩

end Go.Proofs.Ytpnmficlebnajaa

/- The two orders. -/
namespace Go.Proofs.Ytpnmficlebnajaa
open Go.RowKit

theorem run_loadBytes (w : World) (b : Nat) (l : List UInt8) (c : Nat) (h : Row w b 0 l) : (Extern.Bytes.bytesOf (.slice (some ⟨b, 0, none⟩) l.length c)).run Try.prog w = .ok ⟨l.toArray⟩ w := by
  have hl := Lib.run_loadBytesX (P := Try.prog) w (l.map fun x => (x.toNat : Int)) ⟨b, 0, none⟩ .empty (fun j x hj => by
    have hjl : j < l.length := by
      have := (List.getElem?_eq_some_iff.1 hj).1
      simpa using this
    have e : (⟨b, 0, none⟩ : Addr).add j = ⟨b, 0 + j, none⟩ := by unfold Addr.add; split <;> simp_all
    rw [e, row_nums h j hjl, List.getD_eq_getElem?_getD, hj]
    rfl)
  rw [nums_bytes, List.length_map] at hl
  unfold Extern.Bytes.bytesOf
  rw [hl]
  congr 1
  apply ByteArray.ext
  show (#[] : Array UInt8) ++ l.toArray = l.toArray
  simp

theorem run_compare (w : World) (b1 b2 n1 n2 c1 c2 : Nat) (l1 l2 : List UInt8) (h1 : Row w b1 0 l1) (h2 : Row w b2 0 l2) (e1 : l1.length = n1) (e2 : l2.length = n2) :
    (callFunc 60 #[.slice (some ⟨b1, 0, none⟩) n1 c1, .slice (some ⟨b2, 0, none⟩) n2 c2]).run Try.prog w = .ok (.value (.int .i64 (Lib.compareBytes l1 l2))) w := by
  subst e1 e2
  rw [run_callFunc_extern Try.func60 (by kernel_rfl) (by kernel_rfl) (by kernel_rfl) (e := Extern.BytealgCompare.compare) (by kernel_rfl)]
  change ((do
    let x ← Extern.Bytes.bytesOf (.slice (some ⟨b1, 0, none⟩) l1.length c1)
    let y ← Extern.Bytes.bytesOf (.slice (some ⟨b2, 0, none⟩) l2.length c2)
    pure (goInt (Extern.BytealgCompare.cmp x y)) : Sem Value).run Try.prog w).andThen _ = _
  simp only [Sem.run_bind, run_loadBytes w b1 l1 c1 h1, run_loadBytes w b2 l2 c2 h2, Result.andThen, Sem.run_pure, Lib.cmp_eq]
  rfl

set_option maxHeartbeats 400000 in
theorem compare_any (b1 b2 n1 n2 c1 c2 : Nat) (l1 l2 : List UInt8) (w : World) (h1 : Row w b1 0 l1) (h2 : Row w b2 0 l2) (e1 : l1.length = n1) (e2 : l2.length = n2) :
    Calls Try.prog 53 #[.slice (some ⟨b1, 0, none⟩) n1 c1, .slice (some ⟨b2, 0, none⟩) n2 c2] w fun e w' => e = .returned (.int .i64 (Lib.compareBytes l1 l2)) ∧ w = w' := by
  have hx := run_compare w b1 b2 n1 n2 c1 c2 l1 l2 h1 h2 e1 e2
  clear e1 e2
  have H1 := Lib.hid h1
  have H2 := Lib.hid h2
  clear h1 h2
  go_enter Try.func53, Try.ntmps53
  go_wp2
  go_ret
  exact ⟨rfl, rfl⟩

def lessL (a b : List UInt8) : Bool := decide (Lib.compareBytes a b < 0)

set_option maxHeartbeats 400000 in
theorem less_any (a b : List UInt8) (w : World) (ha : a.length = 12) (hb : b.length = 12) :
    Calls Try.prog 45 #[.agg (bC a), .agg (bC b)] w fun e w' => e = .returned (.bool (lessL a b)) ∧ Below w.heap.size w w' := by
  have HA := Lib.hid ha
  have HB := Lib.hid hb
  clear ha hb
  have h1 := heap_alloc2_old w (.cells (bC a) 40) (.cells (bC b) 40)
  have h2 := heap_alloc2_new w (.cells (bC a) 40) (.cells (bC b) 40)
  have H1 := Lib.hid h1
  have H2 := Lib.hid h2
  clear h1 h2
  go_enter Try.func45, Try.ntmps45
  go_wp2_with fail
  refine wp_region_quiet_below (by kernel_rfl) (by kernel_rfl) ?_
  repeat go_big_quiet_step (exact Calls.regrown_of ((compare_any _ _ 12 12 _ _ a b _ (row_of_block (rg_block H1.out _ _)) (row_of_block (rg_block H2.out _ _)) HA.out HB.out).mono fun _ _ ⟨he, hw⟩ => ⟨he, hw ▸ Below.refl _ _⟩))
  refine wpQuiet_nil ?_
  rintro _ ⟨⟨dq, osq⟩, rfl⟩
  go_wp2_with fail
  go_ret
  exact ⟨rfl, (below_alloc2 _ _ _).trans ((below_regrown _ dq osq).mono (by simp; omega))⟩

/-- The reference's order. -/
def lessR : List UInt8 → List UInt8 → Bool
  | x :: a, y :: b => if x = y then lessR a b else decide (x.toNat < y.toNat)
  | _, _ => false
theorem lessR_drop (a b : List UInt8) (k : Nat) (ha : k < a.length) (hb : k < b.length) : lessR (a.drop k) (b.drop k) = if a[k] = b[k] then lessR (a.drop (k + 1)) (b.drop (k + 1)) else decide (a[k].toNat < b[k].toNat) := by
  rw [List.drop_eq_getElem_cons ha, List.drop_eq_getElem_cons hb]; rfl

set_option maxHeartbeats 400000 in
theorem refLess_any (a b : List UInt8) (w : World) (ha : a.length = 12) (hb : b.length = 12) :
    Calls Try.prog 33 #[.agg (bC a), .agg (bC b)] w fun e w' => e = .returned (.bool (lessR a b)) ∧ Below w.heap.size w w' := by
  have HA := Lib.hid ha
  have HB := Lib.hid hb
  go_enter Try.func33, Try.ntmps33
  go_wp2_with fail
  go_loopw [5] (fun i wr => ∃ k : Nat, k ≤ 12 ∧ i = .int .i64 k ∧ Hid (lessR a b = lessR (a.drop k) (b.drop k)) ∧ ∃ n, wr = ((w.alloc (.cells (bC a) 39)).alloc (.cells (bC b) 39)).drewN n) (fun i _ => 12 - (intOf i).toNat)
  case atStart => exact ⟨0, Nat.zero_le _, rfl, rfl, 0, rfl⟩
  case round =>
    obtain ⟨k, hk, rfl, HL, n, rfl⟩ := hrel
    by_cases hlt : k < 12
    · have c1 : ((w.alloc (.cells (bC a) 39)).alloc (.cells (bC b) 39)).cell? ⟨w.heap.size, k, none⟩ = some (.int .u8 (a[k].toNat : Int)) := by
        have := row_of_block (heap_alloc2_old w (.cells (bC a) 39) (.cells (bC b) 39)) k (by omega)
        simpa using this
      have c2 : ((w.alloc (.cells (bC a) 39)).alloc (.cells (bC b) 39)).cell? ⟨w.heap.size + 1, k, none⟩ = some (.int .u8 (b[k].toNat : Int)) := by
        have := row_of_block (heap_alloc2_new w (.cells (bC a) 39) (.cells (bC b) 39)) k (by omega)
        simpa using this
      have hk' : (k : Int) < 12 := by omega
      have HS : Hid (lessR (a.drop k) (b.drop k) = if a[k] = b[k] then lessR (a.drop (k + 1)) (b.drop (k + 1)) else decide (a[k].toNat < b[k].toNat)) := lessR_drop a b k (by omega) (by omega)
      by_cases e : a[k] = b[k]
      · have q1 : ((a[k].toNat : Int) != (b[k].toNat : Int)) = false := by rw [e]; simp
        have HE := Lib.hid e; clear e
        go_wp2_with fail
        go_quiet (fail)
        go_wp2_with fail
        go_roundw
        case rel => exact ⟨k + 1, by omega, by go_num, by show lessR a b = _; rw [HL.out, HS.out, if_pos HE.out], n + nq, rfl⟩
        case measure => simp [intOf]; omega
      · have q1 : ((a[k].toNat : Int) != (b[k].toNat : Int)) = true := by
          rw [bne_iff_ne]; intro h; apply e; apply UInt8.toNat_inj.1; omega
        have HE := Lib.hid e; clear e
        go_wp2_with fail
        go_quiet (fail)
        go_wp2_with fail
        go_quiet (fail)
        go_wp2_with fail
        go_ret
        refine ⟨ret_bool (by rw [HL.out, HS.out, if_neg HE.out]; try simp), below_drewN (below_drewN (below_drewN (below_alloc2 _ _ _) _) _) _⟩
    · obtain rfl : k = 12 := by omega
      have HD : Hid (lessR (a.drop 12) (b.drop 12) = false) := by
        show lessR _ _ = false
        rw [List.drop_of_length_le (by omega)]; rfl
      go_wp2_with fail
      go_ret
      refine ⟨ret_bool (by rw [HL.out, HD.out]), below_drewN (below_alloc2 _ _ _) _⟩

end Go.Proofs.Ytpnmficlebnajaa

/- The law NameTexts, walked. -/
namespace Go.Proofs.Ytpnmficlebnajaa
open Go.RowKit

theorem sign_ne (b : UInt8) (h : signB b.toNat = true) : b ≠ 0 := by
  rintro rfl
  revert h
  decide +kernel
theorem isName_spec {l : List UInt8} (h : isName l = true) : 1 ≤ l.length ∧ l.length ≤ 12 ∧ ∀ b ∈ l, b ≠ 0 := by
  simp only [isName, Bool.and_eq_true, decide_eq_true_eq, List.all_eq_true] at h
  exact ⟨h.1.1.1, h.1.1.2, fun b hb => sign_ne b (h.2 b hb)⟩
theorem front_pad {l : List UInt8} (h : isName l = true) : front (pad l) = l := by
  obtain ⟨_, h2, h3⟩ := isName_spec h
  unfold front pad
  rw [List.take_of_length_le h2, List.takeWhile_append_of_pos (fun b hb => by simpa using h3 b hb)]
  have : (List.replicate (12 - l.length) (0 : UInt8)).takeWhile (· != 0) = [] := by
    cases 12 - l.length <;> simp [List.replicate_succ]
  rw [this, List.append_nil]
theorem right_pad {l : List UInt8} (h : isName l = true) : rightB (pad l) = true := by
  simp [rightB, front_pad h, h]
theorem text_pad {l : List UInt8} (h : isName l = true) : textL (pad l) = l := by
  rw [textL, right_pad h, if_pos rfl, front_pad h]
theorem back (s : ByteArray) : (⟨s.data.toList.toArray⟩ : ByteArray) = s := by simp

theorem eql9 (x : ByteArray) (W : World) : (binOp .eql 9 (.string x) (.string x)).run Try.prog W = .ok (.bool true) W := by
  go_simp
theorem textL_yes {l : List UInt8} (h : rightB l = true) : 1 ≤ (textL l).length := by
  rw [textL, if_pos h]
  simp only [rightB, Bool.and_eq_true] at h
  exact (isName_spec h.1).1
theorem textL_no {l : List UInt8} (h : rightB l = false) : textL l = [] := by
  rw [textL, h]; rfl
end Go.Proofs.Ytpnmficlebnajaa

/- The law NameOrder, walked. -/
namespace Go.Proofs.Ytpnmficlebnajaa
open Go.RowKit

theorem less_iff : ∀ (a b : List UInt8), a.length = b.length → (Lib.compareBytes a b < 0 ↔ lessR a b = true)
  | [], [], _ => by simp [Lib.compareBytes, lessR]
  | [], _ :: _, h => by simp at h
  | _ :: _, [], h => by simp at h
  | x :: a, y :: b, h => by
    have ih := less_iff a b (by simpa using h)
    show (if x < y then (-1 : Int) else if y < x then 1 else Lib.compareBytes a b) < 0 ↔ (if x = y then lessR a b else decide (x.toNat < y.toNat)) = true
    by_cases h1 : x < y
    · have : x ≠ y := fun e => by subst e; exact absurd h1 (UInt8.lt_irrefl x)
      rw [if_pos h1, if_neg this]
      simpa [UInt8.lt_iff_toNat_lt] using h1
    · rw [if_neg h1]
      by_cases h2 : y < x
      · have : x ≠ y := fun e => by subst e; exact absurd h2 (UInt8.lt_irrefl x)
        rw [if_pos h2, if_neg this]
        rw [UInt8.lt_iff_toNat_lt] at h1
        simpa using h1
      · have : x = y := by
          apply UInt8.toNat_inj.1
          rw [UInt8.lt_iff_toNat_lt] at h1 h2
          omega
        rw [if_neg h2, if_pos this, ih]
theorem lessL_lessR (a b : List UInt8) (h : a.length = b.length) : lessL a b = lessR a b := by
  rw [Bool.eq_iff_iff, lessL, decide_eq_true_eq]
  exact less_iff a b h
theorem lessR_irrefl : ∀ (a : List UInt8), lessR a a = false
  | [] => rfl
  | x :: a => by simp [lessR, lessR_irrefl a]
theorem lessL_irrefl (a : List UInt8) : lessL a a = false := by rw [lessL_lessR a a rfl, lessR_irrefl]

theorem lessR_zeros : ∀ n, lessR (List.replicate n 0) (List.replicate n 0) = false := fun _ => lessR_irrefl _
theorem lessR_bytes : ∀ (s t : List UInt8) (m n : Nat), s.length + m = t.length + n → (∀ b ∈ s, b ≠ 0) → (∀ b ∈ t, b ≠ 0) → lessR (s ++ List.replicate m 0) (t ++ List.replicate n 0) = Op.bytesLess s t
  | [], [], m, n, h, _, _ => by
    obtain rfl : m = n := by simpa using h
    simp [lessR_irrefl, Op.bytesLess]
  | [], y :: t, m, n, h, _, ht => by
    obtain ⟨m', rfl⟩ : ∃ m', m = m' + 1 := ⟨m - 1, by simp at h; omega⟩
    have hy : y ≠ 0 := ht y (by simp)
    have hp : 0 < y.toNat := by
      rcases Nat.eq_zero_or_pos y.toNat with h0 | h0
      · exact absurd (UInt8.toNat_inj.1 (by simpa using h0)) hy
      · exact h0
    simp [List.replicate_succ, lessR, Op.bytesLess, Ne.symm hy, hp]
  | x :: s, [], m, n, h, hs, _ => by
    obtain ⟨n', rfl⟩ : ∃ n', n = n' + 1 := ⟨n - 1, by simp at h; omega⟩
    have hx : x ≠ 0 := hs x (by simp)
    simp [List.replicate_succ, lessR, Op.bytesLess, hx]
  | x :: s, y :: t, m, n, h, hs, ht => by
    have ih := lessR_bytes s t m n (by simp at h; omega) (fun b hb => hs b (by simp [hb])) (fun b hb => ht b (by simp [hb]))
    simp only [List.cons_append, lessR, Op.bytesLess, ih]
    by_cases e : x = y
    · subst e; simp [UInt8.lt_irrefl]
    · have : (x == y) = false := by simpa using e
      simp [e, UInt8.lt_iff_toNat_lt]
end Go.Proofs.Ytpnmficlebnajaa

/- lessR is an order. -/
namespace Go.Proofs.Ytpnmficlebnajaa
theorem lessR_trans : ∀ (a b c : List UInt8), a.length = b.length → b.length = c.length → lessR a b = true → lessR b c = true → lessR a c = true
  | [], [], _, _, _, h, _ => by simp [lessR] at h
  | x :: a, y :: b, z :: c, h1, h2, h3, h4 => by
    have ih := lessR_trans a b c (by simpa using h1) (by simpa using h2)
    simp only [lessR] at *
    by_cases e1 : x = y
    · subst e1
      by_cases e2 : x = z
      · subst e2; simp_all
      · simp_all
    · by_cases e2 : y = z
      · subst e2; simp_all
      · rw [if_neg e1] at h3; rw [if_neg e2] at h4
        simp only [decide_eq_true_eq] at h3 h4
        rw [if_neg (fun e => by subst e; omega)]
        simp only [decide_eq_true_eq]; omega
theorem lessR_total : ∀ (a b : List UInt8), a.length = b.length → lessR a b = false → lessR b a = false → a = b
  | [], [], _, _, _ => rfl
  | x :: a, y :: b, h, h1, h2 => by
    have ih := lessR_total a b (by simpa using h)
    simp only [lessR] at *
    by_cases e1 : x = y
    · subst e1; simp_all
    · rw [if_neg e1] at h1; rw [if_neg (Ne.symm e1)] at h2
      simp only [decide_eq_false_iff_not] at h1 h2
      exact absurd (UInt8.toNat_inj.1 (by omega)) e1
theorem lessR_asym (a b : List UInt8) (h : a.length = b.length) (h1 : lessR a b = true) : lessR b a = false := by
  cases h2 : lessR b a
  · rfl
  · have := lessR_trans a b a h h.symm h1 h2
    rw [lessR_irrefl] at this; cases this
theorem lessR_ntrans (a b c : List UInt8) (h1 : a.length = b.length) (h2 : b.length = c.length) (h3 : lessR a b = false) (h4 : lessR b c = false) : lessR a c = false := by
  cases h5 : lessR a c
  · rfl
  · cases h6 : lessR b a
    · obtain rfl := lessR_total a b h1 h3 h6
      rw [h5] at h4; cases h4
    · have := lessR_trans b a c h1.symm (h1.trans h2) h6 h5
      rw [h4] at this; cases this

end Go.Proofs.Ytpnmficlebnajaa
