/- PROVED: for every int and every text the law NameFull returns true. No condition. -/
import Derived.Test.YtbflliiaigkmgaaS5
namespace Go.Proofs.Ytbflliiaigkmgaa
open Go.ChangeShapes Go.WideShapes Go.ChangeAt Go.RowKit

def dA (i : Nat) : UInt8 := UInt8.ofNat (48 + i / 10)
def dB (i : Nat) : UInt8 := UInt8.ofNat (48 + i % 10)
def txI (i : Nat) : List UInt8 := [97, dA i, dB i]
def nmI (i : Nat) : List UInt8 := pad (txI i)
def ksI (i : Nat) : List (List UInt8) := (List.range (min i 64)).map nmI
theorem ksI_add : ∀ i < 100, addL (ksI i) [nmI i, nmI i] = ksI (i + 1) := by decide +kernel
theorem txI_name : ∀ i < 100, isName (txI i) = true := by decide +kernel
theorem ksI_length (i : Nat) : (ksI i).length = min i 64 := by simp [ksI]

theorem toN (n : Int) : ∃ N : Nat, wrap64 ((IntKind.u64.wrap n).tmod 100) = (N : Int) ∧ N < 100 := by
  have h := wf_wrap (k := .u64) n
  simp only [Lit.wf, Bool.and_eq_true, decide_eq_true_eq, show IntKind.u64.min = 0 from rfl] at h
  generalize IntKind.u64.wrap n = m at h
  have h1 : m.tmod 100 = m % 100 := Int.tmod_eq_emod_of_nonneg h.1
  have h2 : 0 ≤ m % 100 ∧ m % 100 < 100 := by omega
  refine ⟨(m % 100).toNat, ?_, by omega⟩
  rw [h1, IntWalk.wrap64_in _ ⟨by omega, by omega⟩]
  omega
theorem byteA (i : Nat) (h : i < 100) : ((dA i).toNat : Int) = 48 + (i : Int) / 10 := by
  unfold dA
  have : (UInt8.ofNat (48 + i / 10)).toNat = 48 + i / 10 := by simp; omega
  rw [this]; omega
theorem byteB (i : Nat) (h : i < 100) : ((dB i).toNat : Int) = 48 + (i : Int) % 10 := by
  unfold dB
  have : (UInt8.ofNat (48 + i % 10)).toNat = 48 + i % 10 := by simp; omega
  rw [this]; omega

theorem conv2 (k : Nat) (h : k < 100) (W : World) : (convert 41 9 (.slice (some ⟨W.heap.size, 0, none⟩) 2 2)).run Try.prog (W.alloc (.cells #[.int .u8 (48 + (k : Int) / 10), .int .u8 (48 + (k : Int) % 10)] 5)) =
    .ok (.string ⟨#[dA k, dB k]⟩) (W.alloc (.cells #[.int .u8 (48 + (k : Int) / 10), .int .u8 (48 + (k : Int) % 10)] 5)) := by
  rw [← byteA k h, ← byteB k h]
  exact run_bytes_string _ W.heap.size 0 2 2 [dA k, dB k] (row_of_block (l := [dA k, dB k]) (heap_alloc_new _ _)) (by simp)
theorem parseI (k : Nat) (h : k < 100) (W : World) : Calls Try.prog 9 #[.string ({ data := #[97] } ++ { data := #[dA k, dB k] })] W fun e w' => e = .returned (.tuple #[.agg (bC (nmI k)), .int .i64 0]) ∧ Below W.heap.size W w' := by
  have := parse_any ⟨#[97, dA k, dB k]⟩ W (by show 3 ≤ maxLen; decide)
  rw [parseN, parseE, show (⟨#[97, dA k, dB k]⟩ : ByteArray).data.toList = txI k from rfl, txI_name k h] at this
  exact this

theorem addI (k : Nat) (h : k < 100) (sp b : Nat) (o : Option Nat) (W : World) (hs : SetAt W sp o (ksI k)) (hb : NamesAt W b [nmI k, nmI k]) (d : Int) (hd : ((min (k + 1) 64 : Nat) : Int) - (min k 64 : Nat) = d) :
    Calls Try.prog 18 #[.pointer (some ⟨sp, 0, none⟩), .slice (some ⟨b, 0, none⟩) 2 2] W fun e w' => AddPost sp o W d (ksI (k + 1)) e w' := by
  have := add_any sp b 2 o (ksI k) [nmI k, nmI k] W hs hb rfl (by simp [nmI, pad_length]) (by omega) (by rw [ksI_length]; omega)
  rw [ksI_add k h, ksI_length, ksI_length, hd] at this
  exact this

theorem len_any (sp : Nat) (o : Option Nat) (ks : List (List UInt8)) (w : World) (hs : SetAt w sp o ks) (d : Int) (hd : ((ks.length : Nat) : Int) = d) :
    Calls Try.prog 20 #[.pointer (some ⟨sp, 0, none⟩)] w fun e w' => e = .returned (.int .i64 d) ∧ w = w' := by
  subst hd
  cases o with
  | none => exact len_none sp ks w hs
  | some r => exact len_some sp r ks w hs
theorem ksI_ge (N : Nat) (h : 64 ≤ N) : ksI N = ksI 64 := by rw [ksI, ksI, Nat.min_eq_right h]; rfl
theorem ks64_in : inL (ksI 64) (nmI 0) = true := by decide +kernel
theorem inL_erase {ks : List (List UInt8)} {a b : List UInt8} (h : inL ks a = false) : inL (ks.erase b) a = false := by
  unfold inL at *
  cases hc : (ks.erase b).contains a
  · rfl
  · have := List.mem_of_mem_erase (List.contains_iff_mem.1 hc)
    rw [List.contains_iff_mem.2 this] at h
    cases h
theorem add1_yes {ks : List (List UInt8)} {n : List UInt8} (h1 : rightB n = true) (h2 : inL ks n = false) (h3 : ks.length < 64) : addL ks [n] = ks ++ [n] := by
  show add1 ks n = _
  rw [add1, h1, h2, decide_eq_true h3]; rfl
theorem add1_full {ks : List (List UInt8)} {n : List UInt8} (h3 : 64 ≤ ks.length) : addL ks [n] = ks := by
  show add1 ks n = _
  rw [add1, decide_eq_false (by omega)]; simp

theorem lt_of_heap {w : World} {g : Nat} {x : Obj} (h : w.heap[g]? = some x) : g < w.heap.size := by
  rcases Nat.lt_or_ge g w.heap.size with h' | h'
  · exact h'
  · simp [Array.getElem?_eq_none h'] at h
theorem keepA {W w' : World} {sp g r : Nat} {o : Option Nat} {ks : List (List UInt8)} {cs : Array Value} {fr : Nat × Nat} (hs : SetAt W sp o ks) (h1 : o = none → W.heap.size ≤ r) (h2 : ∀ r0, o = some r0 → r = r0) (ht : Turn [sp, r] W w')
    (hg : W.heap[g]? = some (.cells cs 23 fr)) : w'.heap[g]? = some (.cells cs 23 fr) := by
  have hl := lt_of_heap hg
  rw [ht.block g hl ?_, hg]
  intro hm
  simp only [List.mem_cons, List.not_mem_nil, or_false] at hm
  rcases hm with rfl | rfl
  · rw [hs.1] at hg
    simp only [Option.some.injEq, Obj.cells.injEq] at hg
    exact absurd hg.2.1 (by decide)
  · cases o with
    | none => have := h1 rfl; omega
    | some r0 =>
      obtain rfl := h2 r0 rfl
      obtain ⟨l, c, hr, _⟩ := hs.2
      rw [hr] at hg; cases hg
theorem keepD {W w' : World} {sp g : Nat} {o : Option Nat} {ks : List (List UInt8)} {cs : Array Value} {fr : Nat × Nat} (hs : SetAt W sp o ks) (ht : Turn o.toList W w')
    (hg : W.heap[g]? = some (.cells cs 23 fr)) : w'.heap[g]? = some (.cells cs 23 fr) := by
  have hl := lt_of_heap hg
  rw [ht.block g hl ?_, hg]
  intro hm
  cases o with
  | none => simp at hm
  | some r0 =>
    obtain rfl : g = r0 := by simpa using hm
    obtain ⟨l, c, hr, _⟩ := hs.2
    rw [hr] at hg; cases hg
theorem parse0 (W : World) : Calls Try.prog 9 #[.string ⟨#[97, 48, 48]⟩] W fun e w' => e = .returned (.tuple #[.agg (bC (nmI 0)), .int .i64 0]) ∧ Below W.heap.size W w' := parseI 0 (by omega) W

set_option maxRecDepth 100000 in
set_option maxHeartbeats 1600000 in
theorem NameFull_walk (n : Int) (hn : (Lit.int .i64 n).wf = true) (s : ByteArray) (hs : s.size ≤ maxLen) (w : World) :
    Calls Try.prog 5 #[.int .i64 n, .string s] w fun e w' => e = .returned (.bool true) ∧ Below w.heap.size w w' := by
  have HPs : Hid (∀ W : World, Calls Try.prog 9 #[.string s] W fun e w' => e = .returned (.tuple #[.agg (bC (parseN s.data.toList)), .int .i64 (parseE s.data.toList)]) ∧ Below W.heap.size W w') := fun W => parse_any s W hs
  clear hs
  have HW0 := Lib.hid (below_alloc1 w (.cells #[.map none] 39))
  have HS0 : Hid (SetAt (w.alloc (.cells #[.map none] 39)) w.heap.size none (ksI 0)) := ⟨heap_alloc_new _ _, rfl⟩
  have HZ0 : Hid (w.heap.size < (w.alloc (.cells #[.map none] 39)).heap.size) := by show w.heap.size < _; simp
  go_enter Try.func5, Try.ntmps5
  go_upto_region 3 with fail
  obtain ⟨N, hN, hN100⟩ := toN n
  rw [hN]
  clear hN hn
  generalize w.alloc (.cells #[.map none] 39) = w0 at *
  generalize IntKind.u64.wrap n = mm
  go_wp2_with fail
  go_loopw [6] (fun i wr => ∃ k : Nat, k ≤ N ∧ i = .int .i64 k ∧ Hid (Below w.heap.size w wr) ∧ Hid (w.heap.size < wr.heap.size) ∧ ∃ o, Hid (SetAt wr w.heap.size o (ksI k)) ∧ Hid (∀ r, o = some r → w.heap.size ≤ r)) (fun i _ => N - (intOf i).toNat)
  case atStart => exact ⟨0, Nat.zero_le _, rfl, HW0, HZ0, none, HS0, fun r h => by cases h⟩
  case round =>
    obtain ⟨k, hk, rfl, HB, HZ, o, HS, HO⟩ := hrel
    by_cases hlt : k < N
    · have hk100 : k < 100 := by omega
      have hcv := conv2 k hk100 wr
      have HPI := Lib.hid (parseI k hk100)
      have HY : Hid ((nmI k).length = 12) := pad_length _
      obtain ⟨d, hd, hd64⟩ : ∃ d : Int, ((min (k + 1) 64 : Nat) : Int) - (min k 64 : Nat) = d ∧ ((k < 64 ∧ d = 1) ∨ (64 ≤ k ∧ d = 0)) := ⟨_, rfl, by omega⟩
      have HAdd : Hid (∀ b W, SetAt W w.heap.size o (ksI k) → NamesAt W b [nmI k, nmI k] → Calls Try.prog 18 #[.pointer (some ⟨w.heap.size, 0, none⟩), .slice (some ⟨b, 0, none⟩) 2 2] W fun e w' => AddPost w.heap.size o W d (ksI (k + 1)) e w') :=
        fun b W hs hb => addI k hk100 _ b o W hs hb d hd
      clear hd
      rcases hd64 with ⟨h64, rfl⟩ | ⟨h64, rfl⟩
      all_goals
        go_upto_region 10 with (first
          | (go_at_call 9; (with_reducible refine (HPI.out _).mono ?_); rintro e w1 ⟨rfl, hb1⟩)
          | (rw [← bC_z12]; with_reducible refine st23n rfl _ _ rfl (nmI k) rfl rfl HY.out ?_))
        have HB1 : Hid (Below wr.heap.size wr w1) := (below_alloc1 wr _).trans (hb1.mono (by simp))
        have HS2 : Hid (SetAt ((w1.alloc (.cells (bC (nmI k)) 23)).alloc (.cells (bC (nmI k ++ nmI k)) 23)) w.heap.size o (ksI k)) :=
          (HS.out.below HB1.out (Nat.le_refl _)).below (below_alloc2 w1 _ _) (Nat.le_refl _)
        have HN2 : Hid (NamesAt ((w1.alloc (.cells (bC (nmI k)) 23)).alloc (.cells (bC (nmI k ++ nmI k)) 23)) (w1.heap.size + 1) [nmI k, nmI k]) := names2 (heap_alloc2_new _ _ _)
        have HB2 : Hid (Below w.heap.size w ((w1.alloc (.cells (bC (nmI k)) 23)).alloc (.cells (bC (nmI k ++ nmI k)) 23))) :=
          (HB.out.trans (HB1.out.mono HB.out.size)).trans ((below_alloc2 w1 _ _).mono (HB.out.trans (HB1.out.mono HB.out.size)).size)
        have HZ2 : Hid (w.heap.size < ((w1.alloc (.cells (bC (nmI k)) 23)).alloc (.cells (bC (nmI k ++ nmI k)) 23)).heap.size) := by
          show w.heap.size < _
          have h1 := HZ.out
          have h2 := HB1.out.size
          simp; omega
        clear hb1
        go_wp2_with (first
          | (with_reducible refine ld23g rfl _ rfl w1.heap.size rfl (nmI k) HY.out (0, 0) (heap_alloc_new _ _) ?_)
          | (with_reducible refine bs45_2 rfl _ _ rfl (nmI k) (nmI k) rfl rfl HY.out HY.out ?_; simp only [List.flatten_cons, List.flatten_nil, List.append_nil])
          | (go_at_call 18; (with_reducible refine (HAdd.out _ _ HS2.out HN2.out).mono ?_); rintro e w3 ⟨r, hr1, hr2, rfl, ht3, hs3⟩))
        go_roundw
        case rel =>
          have hr : w.heap.size ≤ r := by
            cases o with
            | none => exact Nat.le_trans HB2.out.size (hr1 rfl)
            | some r0 => rw [hr2 r0 rfl]; exact HO.out r0 rfl
          refine ⟨k + 1, by omega, by go_num, ?_, ?_, some r, hs3, fun r' h' => by cases h'; exact hr⟩
          · exact HB2.out.trans (ht3.below (fun x hx => by simp at hx; rcases hx with rfl | rfl; exact Nat.le_refl _; exact hr) HB2.out.size)
          · exact Nat.lt_of_lt_of_le HZ2.out ht3.size
        case measure => simp [intOf]; omega
    · obtain rfl : k = N := by omega
      have HLen : Hid (∀ W, SetAt W w.heap.size o (ksI k) → Calls Try.prog 20 #[.pointer (some ⟨w.heap.size, 0, none⟩)] W fun e w' => e = .returned (.int .i64 (min (k : Int) 64)) ∧ W = w') :=
        fun W hs => len_any _ _ _ _ hs _ (by rw [ksI_length]; omega)
      clear hk
      cases hq : isName s.data.toList
      case' false =>
        have HP : Hid (∀ W : World, Calls Try.prog 9 #[.string s] W fun e w' => e = .returned (.tuple #[.agg (bC z12), .int .i64 15]) ∧ Below W.heap.size W w') := fun W => by
          have := HPs.out W
          rw [parseN, parseE, hq] at this
          exact this
      case' true =>
        have HP : Hid (∀ W : World, Calls Try.prog 9 #[.string s] W fun e w' => e = .returned (.tuple #[.agg (bC (pad s.data.toList)), .int .i64 0]) ∧ Below W.heap.size W w') := fun W => by
          have := HPs.out W
          rw [parseN, parseE, hq] at this
          exact this
        have HYL : Hid ((pad s.data.toList).length = 12) := pad_length _
        have HYR : Hid (rightB (pad s.data.toList) = true) := right_pad hq
      case false =>
        clear hq HPs
        go_wp2_with (first
          | (go_at_call 9; (with_reducible refine (HP.out _).mono ?_); rintro e w1 ⟨rfl, hb1⟩; have HB1 : Hid (Below w.heap.size w w1) := HB.out.trans (hb1.mono HB.out.size); have HS1 : Hid (SetAt w1 w.heap.size o (ksI k)) := HS.out.below hb1 (Nat.le_refl _))
          | (rw [← bC_z12]; with_reducible refine st23n rfl _ _ rfl z12 rfl rfl rfl ?_)
          | (go_at_call 15; (with_reducible refine (known_any _).mono ?_); rintro e w2 ⟨rfl, hb2⟩; have HS2 : Hid (SetAt w2 w.heap.size o (ksI k)) := (HS1.out.below (below_alloc1 w1 _) (Nat.le_refl _)).below hb2 (Nat.le_refl _))
          | (go_at_call 20; (with_reducible refine (HLen.out _ HS2.out).mono ?_); rintro e w' ⟨rfl, rfl⟩))
        go_ret
        exact ⟨rfl, (HB1.out.alloc HB1.out.size _).trans (hb2.mono (HB1.out.alloc HB1.out.size _).size)⟩
      case true =>
        clear hq HPs
        generalize pad s.data.toList = y at *
        go_upto_region 13 with (first
          | (go_at_call 9; (with_reducible refine (HP.out _).mono ?_); rintro e w1 ⟨rfl, hb1⟩)
          | (rw [← bC_z12]; with_reducible refine st23n rfl _ _ rfl y rfl rfl HYL.out ?_))
        have HB2 : Hid (Below w.heap.size w (w1.alloc (.cells (bC y) 23))) := (HB.out.trans (hb1.mono HB.out.size)).alloc (HB.out.trans (hb1.mono HB.out.size)).size _
        have HS2 : Hid (SetAt (w1.alloc (.cells (bC y) 23)) w.heap.size o (ksI k)) := (HS.out.below hb1 (Nat.le_refl _)).below (below_alloc1 w1 _) (Nat.le_refl _)
        have HY2 : Hid ((w1.alloc (.cells (bC y) 23)).heap[w1.heap.size]? = some (.cells (bC y) 23)) := heap_alloc_new _ _
        clear hb1
        generalize w1.alloc (.cells (bC y) 23) = w2 at *
        generalize w1.heap.size = yb at *
        have HHas : Hid (∀ W, SetAt W w.heap.size o (ksI k) → Calls Try.prog 19 #[.pointer (some ⟨w.heap.size, 0, none⟩), .agg (bC y)] W fun e w' => e = .returned (.bool (inL (ksI k) y)) ∧ Below W.heap.size W w') := fun W hs => has_any _ o _ y W hs HYL.out
        cases hi : inL (ksI k) y
        case true =>
          rw [hi] at HHas
          clear hi
          go_wp2_with (first
            | (with_reducible refine ld23g rfl _ rfl yb rfl y HYL.out (0, 0) HY2.out ?_)
            | (go_at_call 19; (with_reducible refine (HHas.out _ HS2.out).mono ?_); rintro e w3 ⟨rfl, hb3⟩; have HB3 : Hid (Below w.heap.size w w3) := HB2.out.trans (hb3.mono HB2.out.size); have HS3 : Hid (SetAt w3 w.heap.size o (ksI k)) := HS2.out.below hb3 (Nat.le_refl _))
            | (go_at_call 15; (with_reducible refine (known_any _).mono ?_); rintro e w4 ⟨rfl, hb4⟩; have HS4 : Hid (SetAt w4 w.heap.size o (ksI k)) := HS3.out.below hb4 (Nat.le_refl _))
            | (go_at_call 20; (with_reducible refine (HLen.out _ HS4.out).mono ?_); rintro e w' ⟨rfl, rfl⟩))
          go_ret
          exact ⟨rfl, HB3.out.trans (hb4.mono HB3.out.size)⟩
        case false =>
          rw [hi] at HHas
          have HI := Lib.hid hi
          clear hi
          obtain ⟨d, hd, hd64⟩ : ∃ d : Int, ((addL (ksI k) [y]).length : Int) - (ksI k).length = d ∧ ((k < 64 ∧ d = 1) ∨ (64 ≤ k ∧ d = 0)) := by
            refine ⟨_, rfl, ?_⟩
            by_cases h : k < 64
            · exact .inl ⟨h, by rw [add1_yes HYR.out HI.out (by rw [ksI_length]; omega)]; simp; omega⟩
            · exact .inr ⟨by omega, by rw [add1_full (by rw [ksI_length]; omega)]; omega⟩
          have HAdd : Hid (∀ b W, SetAt W w.heap.size o (ksI k) → NamesAt W b [y] → Calls Try.prog 18 #[.pointer (some ⟨w.heap.size, 0, none⟩), .slice (some ⟨b, 0, none⟩) 1 1] W fun e w' => AddPost w.heap.size o W d (addL (ksI k) [y]) e w') :=
            fun b W hs hb => hd ▸ add_any _ b 1 o (ksI k) [y] W hs hb rfl (by simpa using HYL.out) (by omega) (by rw [ksI_length]; omega)
          have HZL : Hid ((nmI 0).length = 12) := pad_length _
          clear hd
          go_upto_region 15 with (first
            | (with_reducible refine ld23g rfl _ rfl yb rfl y HYL.out (0, 0) HY2.out ?_)
            | (go_at_call 19; (with_reducible refine (HHas.out _ HS2.out).mono ?_); rintro e w3 ⟨rfl, hb3⟩))
          have HB3 : Hid (Below w.heap.size w w3) := HB2.out.trans (hb3.mono HB2.out.size)
          have HS3 : Hid (SetAt w3 w.heap.size o (ksI k)) := HS2.out.below hb3 (Nat.le_refl _)
          have HY3 : Hid (w3.heap[yb]? = some (.cells (bC y) 23)) := (hb3.block _ (lt_of_heap HY2.out)).trans HY2.out
          clear hb3 HS2 HY2 HB2
          go_upto_region 16 with (first
            | (go_at_call 9; (with_reducible refine (parse0 _).mono ?_); rintro e w4 ⟨rfl, hb4⟩)
            | (rw [← bC_z12]; with_reducible refine st23n rfl _ _ rfl (nmI 0) rfl rfl HZL.out ?_))
          have HB5 : Hid (Below w.heap.size w (w4.alloc (.cells (bC (nmI 0)) 23))) := (HB3.out.trans (hb4.mono HB3.out.size)).alloc (HB3.out.trans (hb4.mono HB3.out.size)).size _
          have HS5 : Hid (SetAt (w4.alloc (.cells (bC (nmI 0)) 23)) w.heap.size o (ksI k)) := (HS3.out.below hb4 (Nat.le_refl _)).below (below_alloc1 w4 _) (Nat.le_refl _)
          have HY5 : Hid ((w4.alloc (.cells (bC (nmI 0)) 23)).heap[yb]? = some (.cells (bC y) 23)) := by
            have h4 : w4.heap[yb]? = some (.cells (bC y) 23) := (hb4.block _ (lt_of_heap HY3.out)).trans HY3.out
            exact (heap_alloc_old _ _ (lt_of_heap h4)).trans h4
          have HZ5 : Hid ((w4.alloc (.cells (bC (nmI 0)) 23)).heap[w4.heap.size]? = some (.cells (bC (nmI 0)) 23)) := heap_alloc_new _ _
          clear hb4 HS3 HY3 HB3
          generalize w4.alloc (.cells (bC (nmI 0)) 23) = w5 at *
          generalize w4.heap.size = zb at *
          have HN6 : Hid (NamesAt (w5.alloc (.cells (bC y) 23)) w5.heap.size [y]) := names1 (heap_alloc_new _ _)
          have HS6 : Hid (SetAt (w5.alloc (.cells (bC y) 23)) w.heap.size o (ksI k)) := HS5.out.below (below_alloc1 w5 _) (Nat.le_refl _)
          go_upto_region 17 with (first
            | (with_reducible refine ld23g rfl _ rfl yb rfl y HYL.out (0, 0) HY5.out ?_)
            | (with_reducible refine bs45_1 rfl _ rfl y rfl HYL.out ?_; simp only [List.flatten_cons, List.flatten_nil, List.append_nil])
            | (go_at_call 18; (with_reducible refine (HAdd.out _ _ HS6.out HN6.out).mono ?_); rintro e w7 ⟨r, hr1, hr2, rfl, ht7, hs7⟩))
          have hB6 : Below w.heap.size w (w5.alloc (.cells (bC y) 23)) := HB5.out.alloc HB5.out.size _
          have hrw : w.heap.size ≤ r := by
            cases o with
            | none => exact Nat.le_trans hB6.size (hr1 rfl)
            | some r0 => rw [hr2 r0 rfl]; exact HO.out r0 rfl
          have HB7 : Hid (Below w.heap.size w w7) := hB6.trans (ht7.below (fun x hx => by simp at hx; rcases hx with rfl | rfl; exact Nat.le_refl _; exact hrw) hB6.size)
          have HY7 : Hid (w7.heap[yb]? = some (.cells (bC y) 23)) := keepA HS6.out hr1 hr2 ht7 ((heap_alloc_old _ _ (lt_of_heap HY5.out)).trans HY5.out)
          have HZ7 : Hid (w7.heap[zb]? = some (.cells (bC (nmI 0)) 23)) := keepA HS6.out hr1 hr2 ht7 ((heap_alloc_old _ _ (lt_of_heap HZ5.out)).trans HZ5.out)
          have HS7 := Lib.hid hs7
          have HRW := Lib.hid hrw
          clear hB6 hr1 hr2 ht7 hs7 hrw HS6 HN6 HY5 HZ5 HB5 HS5
          rcases hd64 with ⟨h64, rfl⟩ | ⟨h64, rfl⟩
          · have h64' : (k : Int) < 64 := by omega
            go_wp2_with (go_at_call 15; (with_reducible refine (known_any _).mono ?_); rintro e w8 ⟨rfl, hb8⟩)
            go_ret
            exact ⟨ret_bool (by simp; omega), HB7.out.trans (hb8.mono HB7.out.size)⟩
          · have h64' : (64 : Int) ≤ (k : Int) := by omega
            have hk1 : addL (ksI k) [y] = ksI k := add1_full (by rw [ksI_length]; omega)
            rw [hk1] at HS7
            have hz1 : inL (ksI k) (nmI 0) = true := by rw [ksI_ge k h64]; exact ks64_in
            have hz2 := erase_yes hz1
            rw [ksI_length] at hz2
            have hl2 : ((ksI k).erase (nmI 0)).length = 63 := by omega
            have HDel : Hid (∀ b W, SetAt W w.heap.size (some r) (ksI k) → NamesAt W b [nmI 0] → Calls Try.prog 21 #[.pointer (some ⟨w.heap.size, 0, none⟩), .slice (some ⟨b, 0, none⟩) 1 1] W fun e w' => e = .returned (.int .i64 1) ∧ Turn (some r).toList W w' ∧ SetAt w' w.heap.size (some r) ((ksI k).erase (nmI 0))) := fun b W hs hb => by
              have := del_any _ b 1 (some r) (ksI k) [nmI 0] W hs hb rfl (by simpa using HZL.out) (by omega) (by rw [ksI_length]; omega)
              have e1 : ((ksI k).length : Int) - ((delL (ksI k) [nmI 0]).length : Nat) = 1 := by
                show ((ksI k).length : Int) - (((ksI k).erase (nmI 0)).length : Nat) = 1
                rw [hl2, ksI_length]; omega
              rw [e1] at this
              exact this
            have ha : addL ((ksI k).erase (nmI 0)) [y] = (ksI k).erase (nmI 0) ++ [y] := add1_yes HYR.out (inL_erase HI.out) (by omega)
            have HAdd2 : Hid (∀ b W, SetAt W w.heap.size (some r) ((ksI k).erase (nmI 0)) → NamesAt W b [y] → Calls Try.prog 18 #[.pointer (some ⟨w.heap.size, 0, none⟩), .slice (some ⟨b, 0, none⟩) 1 1] W fun e w' => AddPost w.heap.size (some r) W 1 ((ksI k).erase (nmI 0) ++ [y]) e w') := fun b W hs hb => by
              have := add_any _ b 1 (some r) ((ksI k).erase (nmI 0)) [y] W hs hb rfl (by simpa using HYL.out) (by omega) (by omega)
              rw [ha] at this
              have e1 : ((((ksI k).erase (nmI 0) ++ [y]).length : Nat) : Int) - ((ksI k).erase (nmI 0)).length = 1 := by
                rw [List.length_append]; simp; omega
              rw [e1] at this
              exact this
            have HLen2 : Hid (∀ o W, SetAt W w.heap.size o ((ksI k).erase (nmI 0) ++ [y]) → Calls Try.prog 20 #[.pointer (some ⟨w.heap.size, 0, none⟩)] W fun e w' => e = .returned (.int .i64 64) ∧ W = w') :=
              fun o W hs => len_any _ _ _ _ hs _ (by rw [List.length_append, hl2]; rfl)
            clear hk1 hz1 hz2 hl2 ha HAdd HHas HLen h64
            go_wp2_with (first
              | (go_at_call 15; (with_reducible refine (known_any _).mono ?_); rintro e w8 ⟨rfl, hb8⟩; have HB8 : Hid (Below w.heap.size w w8) := HB7.out.trans (hb8.mono HB7.out.size); have HS8 : Hid (SetAt w8 w.heap.size (some r) (ksI k)) := HS7.out.below hb8 (Nat.le_refl _); have HY8 : Hid (w8.heap[yb]? = some (.cells (bC y) 23)) := (hb8.block _ (lt_of_heap HY7.out)).trans HY7.out; have HZ8 : Hid (w8.heap[zb]? = some (.cells (bC (nmI 0)) 23)) := (hb8.block _ (lt_of_heap HZ7.out)).trans HZ7.out)
              | (with_reducible refine ld23g rfl _ rfl zb rfl (nmI 0) HZL.out (0, 0) HZ8.out ?_)
              | (with_reducible refine bs45_1 rfl _ rfl (nmI 0) rfl HZL.out ?_; simp only [List.flatten_cons, List.flatten_nil, List.append_nil])
              | (go_at_call 21; (with_reducible refine (HDel.out w8.heap.size _ (HS8.out.below (below_alloc1 w8 (.cells (bC (nmI 0)) 23)) (Nat.le_refl _)) (names1 (heap_alloc_new _ _))).mono ?_); rintro e w10 ⟨rfl, ht10, hs10⟩; have HS9 : Hid (SetAt (w8.alloc (.cells (bC (nmI 0)) 23)) w.heap.size (some r) (ksI k)) := HS8.out.below (below_alloc1 w8 (.cells (bC (nmI 0)) 23)) (Nat.le_refl _); have HY10 : Hid (w10.heap[yb]? = some (.cells (bC y) 23)) := keepD HS9.out ht10 ((heap_alloc_old _ _ (lt_of_heap HY8.out)).trans HY8.out))
              | (with_reducible refine ld23g rfl _ rfl yb rfl y HYL.out (0, 0) HY10.out ?_)
              | (with_reducible refine bs45_1 rfl _ rfl y rfl HYL.out ?_; simp only [List.flatten_cons, List.flatten_nil, List.append_nil])
              | (go_at_call 18; (with_reducible refine (HAdd2.out w10.heap.size _ (hs10.below (below_alloc1 w10 (.cells (bC y) 23)) (Nat.le_refl _)) (names1 (heap_alloc_new _ _))).mono ?_); rintro e w12 ⟨r', hr1', hr2', rfl, ht12, hs12⟩)
              | (go_at_call 20; (with_reducible refine (HLen2.out _ _ hs12).mono ?_); rintro e w' ⟨rfl, rfl⟩))
            go_ret
            obtain rfl : r' = r := hr2' r rfl
            have hb9 : Below w.heap.size w (w8.alloc (.cells (bC (nmI 0)) 23)) := HB8.out.alloc HB8.out.size _
            have hb10 : Below w.heap.size w w10 := hb9.trans (ht10.below (fun x hx => by simp at hx; subst hx; exact HRW.out) hb9.size)
            have hb11 : Below w.heap.size w (w10.alloc (.cells (bC y) 23)) := hb10.alloc hb10.size _
            exact ⟨rfl, hb11.trans (ht12.below (fun x hx => by simp at hx; rcases hx with rfl | rfl; exact Nat.le_refl _; exact HRW.out) hb11.size)⟩

set_option maxRecDepth 100000 in
theorem NameFull_lifted (os : Os) (started : os.Started) (H : Type) (enc : TypeId × Value → H) :
    ReturnsInHanded {} Try.checked os 5 .any (Rows.nameFullSpec.pre6 enc Try.prog Try.f5 Rows.nameFullRow.domain false) (Rows.nameFullSpec.post enc Try.prog Try.f5 false true false false) := by
  refine returnsInHanded_of_change (C := Try.checked) own started (by kernel_rfl) Try.func5
    (ChangeSpec.witness6 (enc := enc) (C := Try.checked) false ⟨#[], #[.int .i64 0, .string ByteArray.empty], []⟩ 8 (by kernel_rfl) (by kernel_rfl) (by kernel_rfl) (by kernel_rfl)) ?_
  intro W base args ds gs before hval0 hW hcnd hroom
  have hval : ∀ (j : Nat) t v, Try.f5.params[j]? = some t → args[j]? = some v → Value.okWide Try.prog W .any base t v := hval0
  have hW' := hW
  obtain ⟨p, q, hA0, hV, rfl, hfz, hnd⟩ := hW
  have hA : DataW.TrodAll enc Try.prog W 0 (fun _ => true) true Try.f5.params.toList args.toList ds p := hA0
  rw [Try.params5] at hA hval
  obtain ⟨v0, vs0, d0, ds0, p0, q0, hargs, rfl, rfl, h0, r0⟩ := trodAll_cons hA
  obtain ⟨v1, vs1, d1, ds1, p1, q1, rfl, rfl, rfl, h1, r1⟩ := trodAll_cons r0
  obtain ⟨rfl, rfl, rfl⟩ := trodAll_nil r1
  obtain rfl : args = #[v0, v1] := by cases args; simp_all
  obtain ⟨rfl, rfl⟩ := trodVars_none hV
  have k0 := h0
  have lt0 : ∀ x ∈ p0, x.block < W.heap.size := by obtain ⟨m, hm⟩ := k0; exact DataW.trod_lt m _ _ _ hm
  have k1 := h1
  have lt1 : ∀ x ∈ p1, x.block < W.heap.size := by obtain ⟨m, hm⟩ := k1; exact DataW.trod_lt m _ _ _ hm
  obtain ⟨a0, rfl, rfl, rfl, w0⟩ := open_int Try.underlying3 (hval 0 3 v0 rfl rfl) h0
  obtain ⟨a1, rfl, rfl, rfl, w1⟩ := Go.ChangeMaps.open_string Try.underlying9 (hval 1 9 v1 rfl rfl) h1
  clear hA0 hval0
  refine (NameFull_walk a0 w0 a1 w1 W).mono fun e W' ⟨he, bel⟩ => ?_
  subst he
  exact ⟨_, rfl, _, _, _, [], _, [], hW', trodAll_mk1 (shut_bool Try.underlying4 _), (trodAll_cons_mk (Below.trod laidOut (by kernel_rfl) (of_decide_eq_true (by kernel_rfl)) k0 bel lt0) (trodAll_cons_mk (Below.trod laidOut (by kernel_rfl) (of_decide_eq_true (by kernel_rfl)) k1 bel lt1) trodAll_mk0)), rfl, bel.frame _, fun h => by cases h⟩

theorem NameFull_holds : Rows.NameFullSaid :=
  OpenClaim.holds_of_wide 5 Try.f5 rfl rfl rfl rfl rfl rfl rfl ⟨rfl, rfl, rfl, rfl, rfl⟩ rfl rfl rfl rfl rfl (by kernel_rfl) Try.func5 (by kernel_rfl)
    (of_decide_eq_true (by kernel_rfl)) (by unfold Func.isWrapper; first | (rw [if_pos (by decide +kernel)]; kernel_rfl) | (rw [if_neg (by decide +kernel)]; exact ⟨rfl, rfl⟩))
    (fun os started H enc _ => NameFull_lifted os started H enc)

end Go.Proofs.Ytbflliiaigkmgaa
