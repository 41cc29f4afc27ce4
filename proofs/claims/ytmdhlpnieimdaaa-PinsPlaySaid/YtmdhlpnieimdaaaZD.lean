/- slices.Sort at words: any row; a nil one; the pure side: the rising list of a table's times. -/
import Derived.Test.YtmdhlpnieimdaaaZC
import Derived.Test.YtmdhlpnieimdaaaW4
import Derived.Test.YtmdhlpnieimdaaaS1
namespace Go.Proofs.Ytmdhlpnieimdaaa
open Go.RowKit

set_option maxRecDepth 100000 in
set_option maxHeartbeats 4000000 in
theorem sort_any (g n cap : Nat) (d : Array Nat) (w : World) (h : SM w g d) (hn : d.size = n) (hn2 : n ≤ 900) :
    Calls Try.prog 24 #[.slice (some ⟨g, 0, none⟩) n cap] w (SoP g (Sort.sort ltN d) w) := by
  have hbl : Lib.bitLen n = Sort.bitsLen n := bl_eq ⟨n, by omega⟩
  have hB : Sort.bitsLen n ≤ 100 := by
    by_cases h0 : n = 0
    · subst h0; decide
    · have := (pow_bd ⟨n, by omega⟩ (by show 1 ≤ n; omega)).2.2
      simp only at this; omega
  have K : Hid (∀ W, Calls Try.prog 27 #[.int .u64 (n : Int)] W fun e w' => e = .returned (.int .i64 (Sort.bitsLen n : Nat)) ∧ w' = W) := fun W => by
    have := Try.bits_Len (n : Int) W (by omega) (by omega)
    rwa [show ((n : Int)).toNat = n from rfl, hbl] at this
  have hw1 : IntKind.u64.wrap (n : Int) = (n : Int) := by rw [IntWalk.u64_in _ (by omega)]
  have KQ : Hid (Calls Try.prog 26 #[.slice (some ⟨g, 0, none⟩) n cap, .int .i64 0, .int .i64 (n : Int), .int .i64 ((Sort.bitsLen n : Nat) : Int)] w (SoP g (Sort.sort ltN d) w)) := by
    have := pdq_any g n cap hn2 (n + 1) 0 n (Sort.bitsLen n) d w (by omega) h hn (by omega) (by omega) hB
    unfold Sort.sort
    rw [hn]
    exact this
  generalize Sort.bitsLen n = B at *
  clear h hn hbl
  go_enter Try.func24, Try.ntmps24
  go_wp2_with (first
    | (go_at_call 27; (refine (K.out _).mono ?_); rintro e w1 ⟨rfl, rfl⟩)
    | (go_at_call 26; (refine KQ.out.mono ?_); rintro e w1 ⟨rfl, ht, h2⟩))
  go_end0
  exact ⟨rfl, ht, h2⟩
set_option maxHeartbeats 1000000 in
theorem ins_nil (w : World) : Calls Try.prog 28 #[.slice none 0 0, .int .i64 0, .int .i64 0] w fun e w' => e = .returned (.tuple #[]) ∧ w = w' := by
  go_enter Try.func28, Try.ntmps28
  go_wp2_with fail
  go_loopw [6] (fun i wr => i = .int .i64 1 ∧ wr = w) (fun _ _ => 0)
  case atStart => exact ⟨rfl, rfl⟩
  case round =>
    obtain ⟨rfl, rfl⟩ := hrel
    go_wp2_with fail
    go_end0
    exact ⟨rfl, rfl⟩
set_option maxHeartbeats 1000000 in
theorem pdq_nilS (lim : Int) (w : World) : Calls Try.prog 26 #[.slice none 0 0, .int .i64 0, .int .i64 0, .int .i64 lim] w fun e w' => e = .returned (.tuple #[]) ∧ w = w' := by
  go_enter Try.func26, Try.ntmps26
  go_wp2_with fail
  go_loopw [1, 2] (fun a b wr => a = .int .i64 0 ∧ b = .int .i64 0 ∧ wr = w) (fun _ _ _ => 0)
  case atStart => exact ⟨rfl, rfl, rfl⟩
  case round =>
    obtain ⟨rfl, rfl, rfl⟩ := hrel
    go_wp2_with (go_at_call 28; (refine (ins_nil _).mono ?_); rintro e w1 ⟨rfl, rfl⟩)
    refine bodyPost_ret (results_none rfl _ _ _) rfl ?_
    exact ⟨rfl, rfl⟩
set_option maxHeartbeats 1000000 in
theorem sort_nil (w : World) : Calls Try.prog 24 #[.slice none 0 0] w fun e w' => e = .returned (.tuple #[]) ∧ w = w' := by
  go_enter Try.func24, Try.ntmps24
  go_wp2_with (first
    | (go_at_call 27; (refine (Try.bits_Len 0 _ (by omega) (by omega)).mono ?_); rintro e w1 ⟨rfl, rfl⟩)
    | (go_at_call 26; (refine (pdq_nilS _ _).mono ?_); rintro e w1 ⟨rfl, rfl⟩))
  go_end0
  exact ⟨rfl, rfl⟩

/-- A row of words that can be read. -/
def RdU (W : World) (v : Value) (l : List Nat) : Prop := ∃ q c, v = .slice q l.length c ∧ ∀ i (h : i < l.length), ∃ g, q = some ⟨g, 0, none⟩ ∧ g < W.heap.size ∧ W.cell? ⟨g, i, none⟩ = some (.int .u64 ((l[i] : Nat) : Int))
theorem RdU.below {W W' : World} {v : Value} {l : List Nat} (h : RdU W v l) (hb : Below W.heap.size W W') : RdU W' v l := by
  obtain ⟨q, c, e, h1⟩ := h
  refine ⟨q, c, e, fun i hi => ?_⟩
  obtain ⟨g, e1, e2, e3⟩ := h1 i hi
  exact ⟨g, e1, Nat.lt_of_lt_of_le e2 hb.size, (cell_of (hb.block g e2) i).trans e3⟩
/-- Two rising lists with the same members. -/
theorem rise_uniq {l m : List Nat} (h1 : l.Pairwise (· < ·)) (h2 : m.Pairwise (· < ·)) (h : ∀ x, x ∈ l ↔ x ∈ m) : l = m :=
  ((List.perm_ext_iff_of_nodup (nodup_of_lt l h1) (nodup_of_lt m h2)).2 h).eq_of_pairwise (fun _ _ _ _ x y => absurd (Nat.lt_trans x y) (Nat.lt_irrefl _)) h1 h2
/-- The rising list of a table's times. -/
def IsT (s : PS) (l : List Nat) : Prop := l.Pairwise (· < ·) ∧ ∀ x, x ∈ l ↔ s.f x ≠ 0
theorem sorted_is {s : PS} {ks l : List Nat} (hs : s.Ok) (hp : ks.Perm s.K) (hl : IsT s l) : (Sort.sort ltN ks.toArray).toList = l := by
  obtain ⟨⟨h1, h2, h3⟩, h4⟩ := Sort.sort_sorts ltN swo_ltN ks.toArray
  generalize Sort.sort ltN ks.toArray = d at *
  have hsz : d.size = ks.length := by simpa using h1
  have hpm : d.toList.Perm ks := by
    have e1 : d.extract 0 ks.toArray.size = d := by rw [show ks.toArray.size = d.size by rw [hsz]; simp]; simp
    have e2 : ks.toArray.extract 0 ks.toArray.size = ks.toArray := by simp
    rw [e1, e2] at h3
    simpa using h3
  have hnd : d.toList.Nodup := (hpm.trans hp).nodup_iff.2 hs.hn
  refine rise_uniq ?_ hl.1 fun x => ?_
  · rw [List.pairwise_iff_getElem]
    intro i j hi hj hij
    have hi' : i < d.size := by simpa using hi
    have hj' : j < d.size := by simpa using hj
    have hle := h4 i j (Nat.zero_le _) hij (by simpa [hsz] using hj')
    have hne : d.toList[i] ≠ d.toList[j] := (List.pairwise_iff_getElem.1 hnd) i j hi hj hij
    have g1 : d[i]! = d.toList[i] := by simp [hi']
    have g2 : d[j]! = d.toList[j] := by simp [hj']
    rw [g1, g2] at hle
    simp only [ltN, decide_eq_false_iff_not] at hle
    omega
  · rw [(hpm.trans hp).mem_iff, hs.hk, hl.2]
end Go.Proofs.Ytmdhlpnieimdaaa
