/- The stable sort of a row of at most twenty writes. -/
import Derived.Test.YtnafcbmpjjlhnaaK8
namespace Go.Proofs.Ytnafcbmpjjlhnaa
open Go.RowKit Go.Sort

/-- What the sort makes of a row. -/
def srtA (d : Array Wr) : Array Wr := if d.size = 20 then Sort.insertionSort ltW (Sort.insertionSort ltW d 0 20) 20 20 else Sort.insertionSort ltW d 0 d.size
theorem size_ins (d : Array Wr) (a b : Nat) : (Sort.insertionSort ltW d a b).size = d.size := by
  have h1 : ∀ (j : Nat) (e : Array Wr), (insInner ltW a j e).size = e.size := fun j => by
    induction j with
    | zero => intro e; rfl
    | succ j ih => intro e; rw [insInner]; split
                   · rw [ih, size_swp]
                   · rfl
  have h2 : ∀ (m i : Nat) (e : Array Wr), b - i ≤ m → (insOuter ltW a b i e).size = e.size := fun m => by
    induction m with
    | zero => intro i e h; rw [insOuter, if_neg (by omega)]
    | succ m ih => intro i e h; rw [insOuter]; split
                   · rw [ih _ _ (by omega), h1]
                   · rfl
  exact h2 _ _ _ (Nat.le_refl _)
set_option maxRecDepth 100000 in
set_option maxHeartbeats 8000000 in
theorem stable_any (g cap : Nat) (d : Array Wr) (tail : List Value) (T : TypeId) (w : World) (hd : WRow w g d tail T) (hsz : d.size ≤ 20) :
    Calls Try.prog 23 #[.slice (some ⟨g, 0, none⟩) d.size cap, .int .i64 d.size, .func (.func 18) #[] #[]] w fun e w' =>
      e = .returned (.tuple #[]) ∧ WRow w' g (srtA d) tail T ∧ Turn [g] w w' := by
  have HD := Lib.hid hd
  have KI : Hid (∀ (a b : Nat) (d' : Array Wr) (W : World), WRow W g d' tail T → d'.size = d.size → a ≤ b → b ≤ d.size → Calls Try.prog 28 #[.slice (some ⟨g, 0, none⟩) d.size cap, .int .i64 a, .int .i64 b, .func (.func 18) #[] #[]] W fun e w' =>
      e = .returned (.tuple #[]) ∧ WRow w' g (Sort.insertionSort ltW d' a b) tail T ∧ Turn [g] W w') := fun a b d' W h1 h2 h3 h4 => by
    have := ins_any g cap a b d' tail T W h1 h3 (by omega) (by omega)
    rwa [h2] at this
  clear hd
  by_cases h20 : d.size = 20
  · have HR : Hid (srtA d = Sort.insertionSort ltW (Sort.insertionSort ltW d 0 20) 20 20) := by show _ = _; rw [srtA, if_pos h20]
    rw [h20] at KI ⊢
    show Calls Try.prog _ #[_, .int .i64 20, _] w _
    have HZ := Lib.hid h20
    clear h20 hsz
    go_enter Try.func23, Try.ntmps23
    go_wp2_with fail
    go_loopw [7, 8] (fun va vb wr => Hid (Turn [g] w wr) ∧ ((va = .int .i64 0 ∧ vb = .int .i64 20 ∧ Hid (WRow wr g d tail T)) ∨ (va = .int .i64 20 ∧ vb = .int .i64 40 ∧ Hid (WRow wr g (Sort.insertionSort ltW d 0 20) tail T)))) (fun va _ _ => 40 - (intOf va).toNat)
    case atStart => exact ⟨Turn.refl _ _, Or.inl ⟨rfl, rfl, HD⟩⟩
    case round =>
      obtain ⟨HTk, ⟨rfl, rfl, HWk⟩ | ⟨rfl, rfl, HWk⟩⟩ := hrel
      · go_wp2_with (go_at_call 28; (refine (KI.out 0 20 d _ HWk.out HZ.out (by omega) (by omega)).mono ?_); rintro e W2 ⟨rfl, hw2, ht2⟩; have HW2 := Lib.hid hw2; have HT2 := Lib.hid (HTk.out.trans ht2); clear hw2 ht2)
        go_roundw
        case rel => exact ⟨HT2, Or.inr ⟨rfl, rfl, HW2⟩⟩
        case measure => simp [intOf]
      · go_wp2_with (go_at_call 28; (refine (KI.out 20 20 _ _ HWk.out (by rw [size_ins]; exact HZ.out) (by omega) (by omega)).mono ?_); rintro e W2 ⟨rfl, hw2, ht2⟩; have HW2 := Lib.hid hw2; have HT2 := Lib.hid (HTk.out.trans ht2); clear hw2 ht2)
        go_loopw [6] (fun va wr => va = .int .i64 20 ∧ Hid (WRow wr g (srtA d) tail T) ∧ Hid (Turn [g] w wr)) (fun _ _ => 0)
        case atStart => exact ⟨rfl, by rw [HR.out]; exact HW2, HT2⟩
        case round =>
          obtain ⟨rfl, HW3, HT3⟩ := hrel
          go_wp2_with fail
          go_end0
          exact ⟨rfl, HW3.out, HT3.out⟩
  · have HR : Hid (srtA d = Sort.insertionSort ltW d 0 d.size) := by show _ = _; rw [srtA, if_neg h20]
    obtain ⟨n, hn⟩ : ∃ n, n = d.size := ⟨_, rfl⟩
    have HN := Lib.hid hn
    rw [← hn] at KI hsz h20 HR ⊢
    clear hn
    have hlt : n < 20 := by omega
    go_enter Try.func23, Try.ntmps23
    go_wp2_with fail
    go_loopw [7, 8] (fun va vb wr => va = .int .i64 0 ∧ vb = .int .i64 20 ∧ Hid (WRow wr g d tail T) ∧ Hid (Turn [g] w wr)) (fun _ _ _ => 0)
    case atStart => exact ⟨rfl, rfl, HD, Turn.refl _ _⟩
    case round =>
      obtain ⟨rfl, rfl, HWk, HTk⟩ := hrel
      have hg : ¬ (20 : Int) ≤ n := by omega
      go_wp2_with (go_at_call 28; (refine (KI.out 0 n d _ HWk.out HN.out.symm (Nat.zero_le _) (Nat.le_refl _)).mono ?_); rintro e W2 ⟨rfl, hw2, ht2⟩; have HW2 := Lib.hid hw2; have HT2 := Lib.hid (HTk.out.trans ht2); clear hw2 ht2)
      go_loopw [6] (fun va wr => va = .int .i64 20 ∧ Hid (WRow wr g (Sort.insertionSort ltW d 0 n) tail T) ∧ Hid (Turn [g] w wr)) (fun _ _ => 0)
      case atStart => exact ⟨rfl, HW2, HT2⟩
      case round =>
        obtain ⟨rfl, HW3, HT3⟩ := hrel
        have hg2 : ¬ (20 : Int) < n := by omega
        go_wp2_with fail
        go_end0
        exact ⟨rfl, by rw [HR.out]; exact HW3.out, HT3.out⟩
end Go.Proofs.Ytnafcbmpjjlhnaa
