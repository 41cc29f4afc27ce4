/- SortStableFunc of at most thirty ints that ascend: it is stable. -/
import Derived.Test.YthimpgnagjgmdaaH20
import Derived.Test.YthimpgnagjgmdaaH10
namespace Go.Proofs.Ythimpgnagjgmdaa
open Go.RowKit Go.Sort

def Asc (n : Nat) (d : Array Int) : Prop := ∀ q, q < n → ∀ k, k < q → d[k]! < d[q]!
set_option maxRecDepth 100000 in
set_option maxHeartbeats 8000000 in
theorem stable2_any (bx g cap n : Nat) (cF : Int → Int → Int) (V : Int → Prop) (d : Array Int) (tail : List Value) (T : TypeId) (w : World) (hF : CloF bx g cF V w) (hV : ∀ i, i < n → V d[i]!) (hd : IRow w g d tail T) (hn : d.size = n) (h20 : 20 ≤ n) (h30 : n ≤ 30) (hS : SWO (ltF cF)) (hA : Asc n d) :
    Calls Try.prog 33 #[.slice (some ⟨g, 0, none⟩) n cap, .int .i64 n, .func (.func 22) #[] #[.pointer (some ⟨bx, 0, none⟩)]] w fun e w' =>
      e = .returned (.tuple #[]) ∧ ∃ d', (PermIn 0 n d d' ∧ SortedIn (lt2 (ltF cF)) 0 n d') ∧ IRow w' g d' tail T ∧ Turn [g] w w' := by
  obtain ⟨d1, hd1⟩ : ∃ d1, d1 = Sort.insertionSort (ltF cF) d 0 20 := ⟨_, rfl⟩
  obtain ⟨d2, hd2⟩ : ∃ d2, d2 = Sort.insertionSort (ltF cF) d1 20 n := ⟨_, rfl⟩
  have hs1 := ins_stable hS d 0 20 (by omega) (by omega) (fun q h1 h2 k h3 h4 => hA q (by omega) k h4)
  rw [← hd1] at hs1
  have hn1 : d1.size = n := hs1.1.1.trans hn
  have he1 : ∀ q, 20 ≤ q → d1[q]! = d[q]! := fun q h => hs1.1.2.1 q (Or.inr h)
  have hs2 := ins_stable hS d1 20 n (by omega) (by omega) (fun q h1 h2 k h3 h4 => by rw [he1 q h1, he1 k h3]; exact hA q h2 k h4)
  rw [← hd2] at hs2
  have hn2 : d2.size = n := hs2.1.1.trans hn1
  have he2 : ∀ p, p < 20 → d2[p]! = d1[p]! := fun p h => hs2.1.2.1 p (Or.inl h)
  have hV1 : ∀ i, i < n → V d1[i]! := perm_V hs1.1 hn h20 hV
  have hV2 : ∀ i, i < n → V d2[i]! := perm_V hs2.1 hn1 (Nat.le_refl _) hV1
  have HL : Hid (∀ p q, 0 ≤ p → p < 20 → 20 ≤ q → q < n → d2[p]! < d2[q]!) := fun p q h1 h2 h3 h4 => by
    rw [he2 p h2]
    refine permIn_all d1 d2 20 n (fun v => d1[p]! < v) (by omega) hs2.1 (fun q' h5 h6 => ?_) q h3 h4
    rw [he1 q' h5]
    refine permIn_all d d1 0 20 (fun v => v < d[q']!) (by omega) hs1.1 (fun p' h7 h8 => hA q' h6 p' (by omega)) p h1 h2
  have HS1 : Hid (SortedIn (lt2 (ltF cF)) 0 20 d2) := fun p q h1 h2 h3 => by
    rw [he2 p (by omega), he2 q h3]; exact hs1.2 p q h1 h2 h3
  have HS2 := Lib.hid hs2.2
  have HP : Hid (PermIn 0 n d d2) := permIn_trans _ _ _ _ _ (permIn_mono d d1 0 20 0 n (Nat.le_refl _) h20 (by omega) hs1.1) (permIn_mono d1 d2 20 n 0 n (by omega) (Nat.le_refl _) (by omega) hs2.1)
  have HN1 := Lib.hid hn1
  have HN2 := Lib.hid hn2
  have HV1 := Lib.hid hV1
  have HV2 := Lib.hid hV2
  have HD1 := Lib.hid hd1
  have HD2 := Lib.hid hd2
  have HF := Lib.hid hF
  have HSw := Lib.hid hS
  have HW0 := Lib.hid hd
  have KI := Lib.hid (insI_any bx g cap 0 20 cF V d tail T w hF (by rw [hn]; exact hV) hd (by omega) (by omega) (by omega))
  rw [hn, ← hd1] at KI
  have KI2 : Hid (∀ W, Turn [g] w W → IRow W g d1 tail T → Calls Try.prog 36 #[.slice (some ⟨g, 0, none⟩) n cap, .int .i64 20, .int .i64 n, .func (.func 22) #[] #[.pointer (some ⟨bx, 0, none⟩)]] W fun e w' => e = .returned (.tuple #[]) ∧ IRow w' g d2 tail T ∧ Turn [g] W w') := fun W hT hW => by
    have := insI_any bx g cap 20 n cF V d1 tail T W (HF.out.turn hT) (by rw [hn1]; exact hV1) hW (by omega) (by omega) (by omega)
    rw [hn1, ← hd2] at this
    exact this
  have KM : Hid (20 < n → ∀ W, Turn [g] w W → IRow W g d2 tail T → Calls Try.prog 37 #[.slice (some ⟨g, 0, none⟩) n cap, .int .i64 0, .int .i64 20, .int .i64 n, .func (.func 22) #[] #[.pointer (some ⟨bx, 0, none⟩)]] W fun e w' =>
      e = .returned (.tuple #[]) ∧ ∃ d', (PermIn 0 n d2 d' ∧ SortedIn (lt2 (ltF cF)) 0 n d') ∧ IRow w' g d' tail T ∧ Turn [g] W w') := fun hlt W hT hW => sym_any bx g cap n cF V tail T (by omega) HSw.out n 0 20 n d2 W (by omega) (by omega) hlt (Nat.le_refl _) HN2.out HV2.out (HF.out.turn hT) hW HS1.out HS2.out HL.out
  clear hd hF hV hn hS hA hd1 hd2 hs1 hn1 he1 hs2 hn2 he2 hV1 hV2 HV1 HV2 HD1 HD2 HF HSw HN1 HN2 HL
  have hgA : (20 : Int) ≤ n := by omega
  have hgB : ¬ (40 : Int) ≤ n := by omega
  go_enter Try.func33, Try.ntmps33
  go_wp2_with fail
  go_loopw [7, 8] (fun va vb wr => ∃ i : Nat, i < 2 ∧ va = .int .i64 (20 * i : Nat) ∧ vb = .int .i64 (20 * i + 20 : Nat) ∧ Hid (i = 0 → wr = w) ∧ Hid (i = 1 → IRow wr g d1 tail T) ∧ Hid (Turn [g] w wr)) (fun va _ _ => 40 - (intOf va).toNat)
  case atStart => exact ⟨0, by omega, rfl, rfl, fun _ => rfl, fun h => (by cases h), Turn.refl _ _⟩
  case round =>
    obtain ⟨i, hi, rfl, rfl, HI0, HI1, HT⟩ := hrel
    have h2 : i = 0 ∨ i = 1 := by omega
    rcases h2 with rfl | rfl
    · obtain rfl := HI0.out rfl
      clear HI0 HI1
      go_wp2_with (go_at_call 36; (refine KI.out.mono ?_); rintro e W2 ⟨rfl, hw2, ht2⟩; have HW2 := Lib.hid hw2; have HT2 := Lib.hid ht2; clear hw2 ht2)
      go_roundw
      case rel => exact ⟨1, by omega, rfl, rfl, fun h => (by cases h), fun _ => HW2.out, HT2⟩
      case measure => decide
    · have HW1 : Hid (IRow wr g d1 tail T) := HI1.out rfl
      clear HI0 HI1
      go_wp2_with (go_at_call 36; (refine (KI2.out _ HT.out HW1.out).mono ?_); rintro e W2 ⟨rfl, hw2, ht2⟩; have HW2 := Lib.hid hw2; have HT2 := Lib.hid (HT.out.trans ht2); clear hw2 ht2)
      clear HW1 HT
      go_loopw [6] (fun va wr2 => ∃ i : Nat, i < 2 ∧ va = .int .i64 (20 * i + 20 : Nat) ∧ Hid (i = 0 → IRow wr2 g d2 tail T) ∧ Hid (i = 1 → ∃ d', (PermIn 0 n d d' ∧ SortedIn (lt2 (ltF cF)) 0 n d') ∧ IRow wr2 g d' tail T) ∧ Hid (Turn [g] w wr2)) (fun va _ => 60 - (intOf va).toNat)
      case atStart => exact ⟨0, by omega, rfl, fun _ => HW2.out, fun h => (by cases h), HT2⟩
      case round =>
        clear HW2 HT2
        obtain ⟨i, hi, rfl, HI0, HI1, HT⟩ := hrel
        have h2 : i = 0 ∨ i = 1 := by omega
        rcases h2 with rfl | rfl
        · have HW1 : Hid (IRow wr g d2 tail T) := HI0.out rfl
          clear HI0 HI1
          by_cases hlt : 20 < n
          · have hgC : (20 : Int) < n := by omega
            go_wp2_with fail
            go_loopw [7, 8] (fun va vb wr2 => va = .int .i64 0 ∧ vb = .int .i64 40 ∧ wr2 = wr) (fun _ _ _ => 0)
            case atStart => exact ⟨rfl, rfl, rfl⟩
            case round =>
              obtain ⟨rfl, rfl, rfl⟩ := hrel
              go_wp2_with (go_at_call 37; (refine (KM.out hlt _ HT.out HW1.out).mono ?_); rintro e W2 ⟨rfl, d3, hp3, hw2, ht2⟩; have HP3 := Lib.hid hp3; have HW2 := Lib.hid hw2; have HT2 := Lib.hid (HT.out.trans ht2); clear hw2 ht2 hp3)
              go_roundw
              case rel => exact ⟨1, by omega, rfl, fun h => (by cases h), fun _ => ⟨d3, ⟨permIn_trans _ _ _ _ _ HP.out HP3.out.1, HP3.out.2⟩, HW2.out⟩, HT2⟩
              case measure => decide
          · have hgC : ¬ (20 : Int) < n := by omega
            obtain rfl : n = 20 := by omega
            go_wp2_with fail
            go_end0
            exact ⟨rfl, d2, ⟨HP.out, HS1.out⟩, HW1.out, HT.out⟩
        · have HW1 := Lib.hid (HI1.out rfl)
          clear HI0 HI1
          have hgC : ¬ (40 : Int) < n := by omega
          go_wp2_with fail
          go_end0
          obtain ⟨d', h1, h2⟩ := HW1.out
          exact ⟨rfl, d', h1, h2, HT.out⟩
set_option maxRecDepth 100000 in
set_option maxHeartbeats 4000000 in
theorem sort2_any (bx g cap n : Nat) (cF : Int → Int → Int) (V : Int → Prop) (d : Array Int) (tail : List Value) (T : TypeId) (w : World) (hF : CloF bx g cF V w) (hV : ∀ i, i < n → V d[i]!) (hd : IRow w g d tail T) (hn : d.size = n) (h30 : n ≤ 30) (hS : SWO (ltF cF)) (hA : Asc n d) :
    Calls Try.prog 21 #[.slice (some ⟨g, 0, none⟩) n cap, .func (.func 22) #[] #[.pointer (some ⟨bx, 0, none⟩)]] w fun e w' =>
      e = .returned (.tuple #[]) ∧ ∃ d', (PermIn 0 n d d' ∧ SortedIn (lt2 (ltF cF)) 0 n d') ∧ IRow w' g d' tail T ∧ Turn [g] w w' := by
  have KS : Hid (Calls Try.prog 33 #[.slice (some ⟨g, 0, none⟩) n cap, .int .i64 n, .func (.func 22) #[] #[.pointer (some ⟨bx, 0, none⟩)]] w fun e w' =>
      e = .returned (.tuple #[]) ∧ ∃ d', (PermIn 0 n d d' ∧ SortedIn (lt2 (ltF cF)) 0 n d') ∧ IRow w' g d' tail T ∧ Turn [g] w w') := by
    by_cases h20 : 20 ≤ n
    · exact stable2_any bx g cap n cF V d tail T w hF hV hd hn h20 h30 hS hA
    · refine (stableI_any bx g cap n cF V d tail T w hF (by rw [hn]; exact hV) hd hn (by omega)).mono fun e w' h => ⟨h.1, _, ins_stable hS d 0 n (by omega) (by omega) fun q h1 h2 k h3 h4 => hA q h2 k h4, h.2⟩
  clear hd hF hV hn
  go_enter Try.func21, Try.ntmps21
  go_wp2_with (go_at_call 33; (refine KS.out.mono ?_); rintro e W2 ⟨rfl, d', hp, hw2, ht2⟩; have HP := Lib.hid hp; have HW2 := Lib.hid hw2; have HT2 := Lib.hid ht2; clear hw2 ht2 hp)
  go_end0
  exact ⟨rfl, d', HP.out, HW2.out, HT2.out⟩
end Go.Proofs.Ythimpgnagjgmdaa
