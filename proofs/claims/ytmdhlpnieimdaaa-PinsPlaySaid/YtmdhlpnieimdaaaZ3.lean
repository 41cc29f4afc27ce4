/- heapSort and reverseRange at words. -/
import Derived.Test.YtmdhlpnieimdaaaZ2
namespace Go.Proofs.Ytmdhlpnieimdaaa
open Go.RowKit

theorem sift_size (hi first : Nat) : ∀ (m r : Nat) (d : Array Nat), hi - r ≤ m → (Sort.siftDown ltN hi first r d).size = d.size
  | 0, r, d, h => by rw [sift_end (by omega)]
  | m + 1, r, d, h => by
    by_cases h1 : hi ≤ 2 * r + 1
    · rw [sift_end h1]
    · by_cases h2 : 2 * r + 2 < hi ∧ ltN d[first + (2 * r + 1)]! d[first + (2 * r + 1) + 1]! = true
      · rw [sift_two h1 h2]
        split
        · rfl
        · rw [sift_size hi first m _ _ (by omega), swp_size]
      · rw [sift_one h1 h2]
        split
        · rfl
        · rw [sift_size hi first m _ _ (by omega), swp_size]
set_option maxRecDepth 100000 in
set_option maxHeartbeats 8000000 in
theorem heap_any (g n a b cap : Nat) (d : Array Nat) (w : World) (h : SM w g d) (hn : d.size = n) (hab : a < b) (hb : b ≤ n) (hn2 : n ≤ 1000) :
    Calls Try.prog 29 #[.slice (some ⟨g, 0, none⟩) n cap, .int .i64 (a : Int), .int .i64 (b : Int)] w (SoP g (Sort.heapSort ltN d a b) w) := by
  have H := Lib.hid h
  obtain ⟨hi, hhi⟩ : ∃ k, b - a = k := ⟨_, rfl⟩
  obtain ⟨B, hB⟩ : ∃ B, Sort.heapBuild ltN hi a ((hi - 1) / 2 + 1) d = B := ⟨_, rfl⟩
  obtain ⟨R, hR⟩ : ∃ R, Sort.heapPop ltN a hi B = R := ⟨_, rfl⟩
  have hRR : Sort.heapSort ltN d a b = R := by unfold Sort.heapSort; rw [hhi, hB, hR]
  rw [hRR]
  have HB := Lib.hid hB
  have HR := Lib.hid hR
  have HN := Lib.hid hn
  have hs1 : IntKind.i64.wrap ((b : Int) - (a : Int)) = (hi : Int) := by rw [IntWalk.i64_in _ (by omega)]; omega
  have hs2 : IntKind.i64.wrap ((hi : Int) - 1) = ((hi - 1 : Nat) : Int) := by rw [IntWalk.i64_in _ (by omega)]; omega
  have hs3 : IntKind.i64.wrap (((hi - 1 : Nat) : Int).tdiv 2) = (((hi - 1) / 2 : Nat) : Int) := by
    have e : ((hi - 1 : Nat) : Int).tdiv 2 = (((hi - 1) / 2 : Nat) : Int) := rfl
    rw [e, IntWalk.i64_in _ (by omega)]
  have hpos : 0 < hi := by omega
  have hah : a + hi ≤ n := by omega
  clear h hR hn hB hRR hhi
  obtain ⟨h1, hh1⟩ : ∃ k, hi - 1 = k := ⟨_, rfl⟩
  rw [hh1] at hs2 hs3 HB
  obtain ⟨h2, hh2⟩ : ∃ k, h1 / 2 = k := ⟨_, rfl⟩
  rw [hh2] at hs3 HB
  have hb12 : h2 ≤ 1000 ∧ h1 ≤ 1000 := by omega
  have HH1 := Lib.hid hh1
  have HH2 := Lib.hid hh2
  clear hh1 hh2
  go_enter Try.func29, Try.ntmps29
  go_wp2_with fail
  go_loopw [9] (fun i wr => ∃ (k : Nat) (z : Int) (d2 : Array Nat), z + 1 = k ∧ k ≤ 1001 ∧ i = .int .i64 z ∧ Hid (d2.size = n) ∧ Hid (Turn [g] w wr ∧ SM wr g d2) ∧ Hid (Sort.heapBuild ltN hi a k d2 = B)) (fun i _ => (intOf i + 1).toNat)
  case atStart => exact ⟨h2 + 1, h2, d, by omega, by omega, by first | rfl | (show Value.int .i64 _ = _; congr 1; have := HH2.out; omega), HN.out, ⟨Turn.refl _ _, H.out⟩, HB.out⟩
  case round =>
    obtain ⟨k, z, d2, hz, hk1, rfl, HN2, HM2, HE2⟩ := hrel
    clear H HB HN
    cases k with
    | succ j =>
      obtain rfl : z = (j : Int) := by omega
      have hjI : (0 : Int) ≤ (j : Int) := by omega
      have hdec : IntKind.i64.wrap ((j : Int) - 1) = (j : Int) - 1 := by rw [IntWalk.i64_in _ (by omega)]
      have KS := Lib.hid (sift_any g n j hi a cap d2 wr HM2.out.2 HN2.out hah (by omega) hn2)
      have HSZ : Hid ((Sort.siftDown ltN hi a j d2).size = n) := by show _ = _; rw [sift_size hi a _ _ _ (Nat.le_refl _)]; exact HN2.out
      clear hz
      go_wp2_with (go_at_call 39; (refine KS.out.mono ?_); rintro e w1 ⟨rfl, ht, hm⟩; have HM3 : Hid (Turn [g] w w1 ∧ SM w1 g (Sort.siftDown ltN hi a j d2)) := ⟨HM2.out.1.trans ht, hm⟩; clear ht hm)
      go_roundw
      case rel => exact ⟨j, (j : Int) - 1, _, by omega, by omega, by first | rfl | simp [hdec], HSZ.out, HM3.out, HE2.out⟩
      case measure => simp [intOf] <;> omega
    | zero =>
      obtain rfl : z = -1 := by omega
      have HD : Hid (d2 = B) := HE2.out
      go_wp2_with fail
      go_loopw [10] (fun i wr => ∃ (k : Nat) (z : Int) (d2 : Array Nat), z + 1 = k ∧ k ≤ hi ∧ i = .int .i64 z ∧ Hid (d2.size = n) ∧ Hid (Turn [g] w wr ∧ SM wr g d2) ∧ Hid (Sort.heapPop ltN a k d2 = R)) (fun i _ => (intOf i + 1).toNat)
      case atStart => exact ⟨hi, h1, d2, by have := HH1.out; omega, Nat.le_refl _, rfl, HN2.out, HM2.out, by rw [HD.out]; exact HR.out⟩
      case round =>
        obtain ⟨k, z, d3, hz, hk1, rfl, HN3, HM3, HE3⟩ := hrel
        clear HM2 HN2 HE2 HD HR
        cases k with
        | succ j =>
          obtain rfl : z = (j : Int) := by omega
          have hjI : (0 : Int) ≤ (j : Int) := by omega
          have hdec : IntKind.i64.wrap ((j : Int) - 1) = (j : Int) - 1 := by rw [IntWalk.i64_in _ (by omega)]
          obtain ⟨fj, hfj⟩ : ∃ k, a + j = k := ⟨_, rfl⟩
          have hadd : IntKind.i64.wrap ((a : Int) + (j : Int)) = (fj : Int) := by rw [IntWalk.i64_in _ (by omega)]; omega
          have hb1 : (fj : Int) < (n : Int) := by omega
          have hb2 : (a : Int) < (n : Int) := by omega
          have hb3 : fj < n := by omega
          have hb4 : a < n := by omega
          have HE4 : Hid (Sort.heapPop ltN a j (Sort.siftDown ltN j a 0 (Sort.swp d3 a fj)) = R) := by have h := HE3.out; rw [Sort.heapPop, hfj] at h; exact h
          have HSZ : Hid ((Sort.swp d3 a fj).size = n) := by show _ = _; rw [swp_size]; exact HN3.out
          have hjh : a + j ≤ n := by omega
          clear hz hfj HE3
          have hca := HM3.out.2.c a (by rw [HN3.out]; omega)
          obtain ⟨x, hxa⟩ : ∃ x, d3[a]! = x := ⟨_, rfl⟩
          have HXa := Lib.hid hxa
          rw [hxa] at hca
          clear hxa hca
          have hcb := HM3.out.2.c fj (by rw [HN3.out]; omega)
          obtain ⟨y, hxb⟩ : ∃ x, d3[fj]! = x := ⟨_, rfl⟩
          have HXb := Lib.hid hxb
          rw [hxb] at hcb
          clear hxb hcb
          have hci := HM3.out.2.c a (by rw [HN3.out]; omega)
          have hcj := HM3.out.2.c fj (by rw [HN3.out]; omega)
          rw [HXa.out] at hci
          rw [HXb.out] at hcj
          have hfr := HM3.out.2.f
          have hl := HM3.out.2.lt (by rw [HN3.out]; omega)
          obtain ⟨zm, hmid⟩ := HM3.out.2.mid a fj y (by rw [HN3.out]; omega) (by rw [HN3.out]; omega)
          have HS : Hid (Turn [g] w ((((wr.setCell ⟨g, a, none⟩ (.int .u64 (y : Int))).setCell ⟨g, fj, none⟩ (.int .u64 (x : Int)))).drew) ∧ SM ((((wr.setCell ⟨g, a, none⟩ (.int .u64 (y : Int))).setCell ⟨g, fj, none⟩ (.int .u64 (x : Int)))).drew) g (Sort.swp d3 a fj)) := by
            have h := HM3.out.2.swap a fj (by rw [HN3.out]; omega) (by rw [HN3.out]; omega)
            rw [HXa.out, HXb.out] at h
            exact ⟨(HM3.out.1.trans ((Turn.setCell g a _ _).trans (Turn.setCell g fj _ _))).trans ⟨rfl, rfl, rfl, Nat.le_refl _, fun _ _ _ => rfl⟩, h.block rfl⟩
          go_wp2_with fail
          go_region
          clear hci hcj hfr hl hmid HM3
          generalize (((wr.setCell ⟨g, a, none⟩ (.int .u64 (y : Int))).setCell ⟨g, fj, none⟩ (.int .u64 (x : Int)))).drew = W9 at *
          have KS := Lib.hid (sift_any g n 0 j a cap _ W9 HS.out.2 HSZ.out hjh (by omega) hn2)
          have HSZ2 : Hid ((Sort.siftDown ltN j a 0 (Sort.swp d3 a fj)).size = n) := by show _ = _; rw [sift_size j a _ _ _ (Nat.le_refl _)]; exact HSZ.out
          go_wp2_with (go_at_call 39; (refine KS.out.mono ?_); rintro e w1 ⟨rfl, ht, hm⟩; have HM4 : Hid (Turn [g] w w1 ∧ SM w1 g (Sort.siftDown ltN j a 0 (Sort.swp d3 a fj))) := ⟨HS.out.1.trans ht, hm⟩; clear ht hm)
          go_roundw
          case rel => exact ⟨j, (j : Int) - 1, _, by omega, by omega, by first | rfl | simp [hdec], HSZ2.out, HM4.out, HE4.out⟩
          case measure => simp [intOf] <;> omega
        | zero =>
          obtain rfl : z = -1 := by omega
          go_wp2_with fail
          go_end0
          exact ⟨rfl, HM3.out.1, by have h : d3 = R := HE3.out; rw [← h]; exact HM3.out.2⟩
theorem rev_pos {i j : Nat} {d : Array Nat} (h : i < j) : Sort.reverseLoop i j d = Sort.reverseLoop (i + 1) (j - 1) (Sort.swp d i j) := by rw [Sort.reverseLoop, if_pos h]
theorem rev_neg {i j : Nat} {d : Array Nat} (h : ¬ i < j) : Sort.reverseLoop i j d = d := by rw [Sort.reverseLoop, if_neg h]
set_option maxRecDepth 100000 in
set_option maxHeartbeats 8000000 in
theorem reverse_any (g n a b cap : Nat) (d : Array Nat) (w : World) (h : SM w g d) (hn : d.size = n) (hab : a < b) (hb : b ≤ n) (hn2 : n ≤ 1000) :
    Calls Try.prog 32 #[.slice (some ⟨g, 0, none⟩) n cap, .int .i64 (a : Int), .int .i64 (b : Int)] w (SoP g (Sort.reverseRange d a b) w) := by
  have H := Lib.hid h
  obtain ⟨R, hR⟩ : ∃ R, Sort.reverseRange d a b = R := ⟨_, rfl⟩
  have HR : Hid (Sort.reverseLoop a (b - 1) d = R) := hR
  rw [hR]
  have HN := Lib.hid hn
  obtain ⟨b1, hb1⟩ : ∃ k, b - 1 = k := ⟨_, rfl⟩
  rw [hb1] at HR
  have hs1 : IntKind.i64.wrap ((b : Int) - 1) = (b1 : Int) := by rw [IntWalk.i64_in _ (by omega)]; omega
  have hb1n : b1 < n := by omega
  clear h hR hn hb1
  go_enter Try.func32, Try.ntmps32
  go_wp2_with fail
  go_loopw [6, 7] (fun ii jj wr => ∃ (i j : Nat) (d2 : Array Nat), ii = .int .i64 (i : Int) ∧ jj = .int .i64 (j : Int) ∧ i ≤ 1000 ∧ j < n ∧ Hid (d2.size = n) ∧ Hid (Turn [g] w wr ∧ SM wr g d2) ∧ Hid (Sort.reverseLoop i j d2 = R)) (fun ii jj _ => (intOf jj).toNat + 1 - (intOf ii).toNat)
  case atStart => exact ⟨a, b1, d, rfl, rfl, by omega, hb1n, HN.out, ⟨Turn.refl _ _, H.out⟩, HR.out⟩
  case round =>
    obtain ⟨i, j, d2, rfl, rfl, hi, hj, HN2, HM2, HE2⟩ := hrel
    clear H HN HR
    by_cases hij : i < j
    · have hijI : (i : Int) < (j : Int) := by omega
      have hb2 : (i : Int) < (n : Int) := by omega
      have hb3 : (j : Int) < (n : Int) := by omega
      have hb4 : i < n := by omega
      have HE3 : Hid (Sort.reverseLoop (i + 1) (j - 1) (Sort.swp d2 i j) = R) := by show _ = _; rw [← rev_pos hij]; exact HE2.out
      obtain ⟨j1, hj1⟩ : ∃ k, j - 1 = k := ⟨_, rfl⟩
      rw [hj1] at HE3
      have hs2 : IntKind.i64.wrap ((j : Int) - 1) = (j1 : Int) := by rw [IntWalk.i64_in _ (by omega)]; omega
      have HJ := Lib.hid hj1
      clear hj1 HE2
      have hca := HM2.out.2.c i (by rw [HN2.out]; omega)
      obtain ⟨x, hxa⟩ : ∃ x, d2[i]! = x := ⟨_, rfl⟩
      have HXa := Lib.hid hxa
      rw [hxa] at hca
      clear hxa hca
      have hcb := HM2.out.2.c j (by rw [HN2.out]; omega)
      obtain ⟨y, hxb⟩ : ∃ x, d2[j]! = x := ⟨_, rfl⟩
      have HXb := Lib.hid hxb
      rw [hxb] at hcb
      clear hxb hcb
      have hci := HM2.out.2.c i (by rw [HN2.out]; omega)
      have hcj := HM2.out.2.c j (by rw [HN2.out]; omega)
      rw [HXa.out] at hci
      rw [HXb.out] at hcj
      have hfr := HM2.out.2.f
      have hl := HM2.out.2.lt (by rw [HN2.out]; omega)
      obtain ⟨zm, hmid⟩ := HM2.out.2.mid i j y (by rw [HN2.out]; omega) (by rw [HN2.out]; omega)
      have HS : Hid (Turn [g] w ((((wr.setCell ⟨g, i, none⟩ (.int .u64 (y : Int))).setCell ⟨g, j, none⟩ (.int .u64 (x : Int)))).drew) ∧ SM ((((wr.setCell ⟨g, i, none⟩ (.int .u64 (y : Int))).setCell ⟨g, j, none⟩ (.int .u64 (x : Int)))).drew) g (Sort.swp d2 i j)) := by
        have h := HM2.out.2.swap i j (by rw [HN2.out]; omega) (by rw [HN2.out]; omega)
        rw [HXa.out, HXb.out] at h
        exact ⟨(HM2.out.1.trans ((Turn.setCell g i _ _).trans (Turn.setCell g j _ _))).trans ⟨rfl, rfl, rfl, Nat.le_refl _, fun _ _ _ => rfl⟩, h.block rfl⟩
      go_wp2_with fail
      go_region
      clear hci hcj hfr hl hmid HM2
      generalize (((wr.setCell ⟨g, i, none⟩ (.int .u64 (y : Int))).setCell ⟨g, j, none⟩ (.int .u64 (x : Int)))).drew = W9 at *
      go_wp2_with fail
      go_roundw
      case rel => exact ⟨i + 1, j1, Sort.swp d2 i j, by simp, by first | rfl | simp [hs2], by omega, by have := HJ.out; omega, by show _ = _; rw [swp_size]; exact HN2.out, HS.out, HE3.out⟩
      case measure => have := HJ.out; simp [intOf, hs2]; omega
    · have hijI : ¬ (i : Int) < (j : Int) := by omega
      go_wp2_with fail
      go_end0
      exact ⟨rfl, HM2.out.1, by have h := HE2.out; rw [rev_neg hij] at h; rw [← h]; exact HM2.out.2⟩
end Go.Proofs.Ytmdhlpnieimdaaa
