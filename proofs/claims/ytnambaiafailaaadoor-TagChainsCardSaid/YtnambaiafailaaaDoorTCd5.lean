/- TagChains: all ways. -/
import Derived.Test.YtnambaiafailaaaDoorTCw
import Derived.Test.YtnambaiafailaaaDoorTCn1
import Derived.Test.YtnambaiafailaaaDoorTCn2
import Derived.Test.YtnambaiafailaaaDoorTCn3
import Derived.Test.YtnambaiafailaaaDoorTCn4
import Derived.Test.YtnambaiafailaaaDoorTCo1
import Derived.Test.YtnambaiafailaaaDoorTCo2
import Derived.Test.YtnambaiafailaaaDoorTCo3
import Derived.Test.YtnambaiafailaaaDoorTCo4
import Derived.Test.YtnambaiafailaaaDoorTP5
import Derived.Test.YtnambaiafailaaaDoorKN5
namespace Go.Proofs.YtnambaiafailaaaDoor
open Go.RowKit

theorem chR_le4 (t : T3) : (chR t).length ≤ 4 := by
  unfold chR
  simp only [List.length_append, List.length_cons, List.length_nil]
  split <;> split <;> split <;> simp
theorem upX_len14 {x : B10} (hr : rightT x.1 = true) : 0 < (upX x).length ∧ (upX x).length ≤ 4 := by
  obtain ⟨y, hy⟩ := right_oR hr
  have hup := right_up x.2 hr hy
  have := congrArg List.length hup
  simp only [List.length_map] at this
  have h4 := chR_le4 y
  refine ⟨by rw [upX_cons hr]; simp, ?_⟩
  show (upX ⟨x.1, x.2⟩).length ≤ 4
  omega
set_option maxRecDepth 100000 in
theorem TagChains_walkJ (t : List UInt8) (s : ByteArray) (mm : Nat) (w : World) (ht : t.length = 10) (hs : s.size ≤ 9223372036854775807) (hmin : min (s.size : Int) 30 = (mm : Int)) (hmx : MX w) :
    Calls Tryd.prog 5 #[.agg (bC t), .string s] w fun e w' => e = .returned (.bool true) ∧ Below w.heap.size w w' := by
  have hu : (s.extract 0 mm).size ≤ 1000000 := by rw [ByteArray.size_extract]; omega
  have HKn : Hid (∀ W, Below w.heap.size w W → Calls Tryd.prog 13 #[] W fun e w' => e = .returned (.bool true) ∧ Below W.heap.size W w') := fun W hW => known5_any W (hmx.below hW)
  have HTP : Hid (∀ W, Below w.heap.size w W → Calls Tryd.prog 12 #[.string (s.extract 0 mm)] W fun e w' => e = .returned (.tuple #[.agg (bC (tagR (s.extract 0 mm).data.toList)), .int .i64 (tagE (s.extract 0 mm).data.toList)]) ∧ Below W.heap.size W w') := fun W hW => tagParse_any _ W hu (hmx.below hW)
  have HCh : ∀ x : B10, Hid (∀ W, Below w.heap.size w W → Calls Tryd.prog 23 #[.agg (bC x.1)] W fun e w' => ∃ q cap, e = .returned (.slice q (upX x).length cap) ∧ SlAt encB 10 w' q (upX x) ∧ (upX x).length ≤ cap ∧ Below W.heap.size W w') := fun x W hW => by
    refine (chain_any x W (hmx.below hW)).mono ?_
    rintro e W' ⟨v, rfl, ho, hb⟩
    obtain ⟨q, cap, rfl, hcl, _, hsl, _⟩ := ho.at encB_len
    exact ⟨q, cap, rfl, hsl, hcl, hb⟩
  have HRi : ∀ x : B10, Hid (∀ W, Below w.heap.size w W → Calls Tryd.prog 17 #[.agg (bC x.1)] W fun e w' => e = .returned (.bool (rightT x.1)) ∧ Below W.heap.size W w') := fun x W hW => right_any5 x.1 W x.2 (hmx.below hW)
  have HTx : Hid (∀ (y : B10), ∀ W, Below w.heap.size w W → Calls Tryd.prog 15 #[.agg (bC y.1)] W fun e w' => e = .returned (.string ⟨(textB y.1).toArray⟩) ∧ Below W.heap.size W w') := fun y W hW => tagText_any y.1 W y.2 (hmx.below hW)
  have HPy : Hid (∀ (y : B10), rightT y.1 = true → ∀ W, Below w.heap.size w W → Calls Tryd.prog 12 #[.string ⟨(textB y.1).toArray⟩] W fun e w' => e = .returned (.tuple #[.agg (bC y.1), .int .i64 0]) ∧ Below W.heap.size W w') := fun y hy W hW => by
    obtain ⟨h1, h2, h3⟩ := read_text hy
    have := tagParse_any ⟨(textB y.1).toArray⟩ W (by rw [ba_size]; exact h3) (hmx.below hW)
    simp only [h1, h2] at this
    exact this
  have HPa : Hid (∀ (y : B10), ∀ W, Below w.heap.size w W → Calls Tryd.prog 22 #[.agg (bC y.1)] W fun e w' => e = .returned (.tuple #[.agg (bC (parR y.1)), .bool (parOk y.1)]) ∧ Below W.heap.size W w') := fun y W hW => parent_any y.1 W y.2 (hmx.below hW)
  have HBe : ∀ x : B10, Hid (∀ (y : B10), ∀ W, Below w.heap.size w W → Calls Tryd.prog 25 #[.agg (bC x.1), .agg (bC y.1)] W fun e w' => e = .returned (.bool (memX y.1 (upX x))) ∧ Below W.heap.size W w') := fun x y W hW => below_any x y.1 W y.2 (hmx.below hW)
  have HCo : ∀ x : B10, Hid (∀ (y : B10), ∀ W, Below w.heap.size w W → Calls Tryd.prog 26 #[.agg (bC x.1), .agg (bC y.1)] W fun e w' => e = .returned (.agg (bC (coR x y))) ∧ Below W.heap.size W w') := fun x y W hW => common_any x y W (hmx.below hW)
  have HRo : ∀ x : B10, rightT x.1 = true → Hid (∀ j (h : j < (upX x).length), RoundT x (upX x) j (upX x)[j]) := fun x hr j h => round_of hr rfl j h
  have H0 : ∀ x : B10, rightT x.1 = true → Hid (∀ (h : 0 < (upX x).length), ((upX x)[0]).1 = x.1) := fun x hr h => by
    have : (upX x)[0]? = some x := by rw [upX_cons hr]; rfl
    rw [List.getElem?_eq_getElem h] at this
    rw [Option.some.inj this]
  have HZl : ∀ x : B10, rightT x.1 = true → Hid (∀ (h : (upX x).length - 1 < (upX x).length), ((upX x)[(upX x).length - 1]).1 = tag0) := fun x hr h => by
    have := up_last _ x hr (Nat.le_refl _)
    rw [List.getLast?_eq_getElem?, List.getElem?_eq_getElem h] at this
    simpa using this
  have z10 : tag0.length = 10 := rfl
  cases hp : parseT (s.extract 0 mm).data.toList with
  | none =>
    obtain ⟨e3, e4⟩ := tag_no hp
    rw [e3, e4] at HTP
    obtain ⟨x, hx⟩ : ∃ x : B10, t = x.1 := ⟨⟨t, ht⟩, rfl⟩
    cases hr : rightT x.1 with
    | false =>
      have hRi := HRi x
      have hCh := HCh x
      have hu0 : upX x = [] := wrong_up x.2 hr
      rw [hr] at hRi
      rw [hu0] at hCh
      exact TagChains_nowrong t tag0 x s mm [] 0 w rfl (by omega) hs hmin hx HKn HTP hCh hRi rfl ht z10
    | true =>
      have hRi := HRi x
      rw [hr] at hRi
      obtain ⟨hm1, hm4⟩ := upX_len14 hr
      have hc : (upX x).length = 1 ∨ (upX x).length = 2 ∨ (upX x).length = 3 ∨ (upX x).length = 4 := by omega
      rcases hc with h | h | h | h
      · exact TagChains_noright1 t tag0 x s mm (upX x) _ w rfl hm4 hs hmin hx HKn HTP (HCh x) hRi HTx HPy HPa (HBe x) (HCo x) (HRo x hr) hm1 (H0 x hr) (HZl x hr) h ht z10
      · exact TagChains_noright2 t tag0 x s mm (upX x) _ w rfl hm4 hs hmin hx HKn HTP (HCh x) hRi HTx HPy HPa (HBe x) (HCo x) (HRo x hr) hm1 (H0 x hr) (HZl x hr) h ht z10
      · exact TagChains_noright3 t tag0 x s mm (upX x) _ w rfl hm4 hs hmin hx HKn HTP (HCh x) hRi HTx HPy HPa (HBe x) (HCo x) (HRo x hr) hm1 (H0 x hr) (HZl x hr) h ht z10
      · exact TagChains_noright4 t tag0 x s mm (upX x) _ w rfl hm4 hs hmin hx HKn HTP (HCh x) hRi HTx HPy HPa (HBe x) (HCo x) (HRo x hr) hm1 (H0 x hr) (HZl x hr) h ht z10
  | some u =>
    obtain ⟨_, k2, _, _, _, k6⟩ := parse_known hp
    have e3 : tagR (s.extract 0 mm).data.toList = bytT u := by rw [tagR, hp]
    have e4 : tagE (s.extract 0 mm).data.toList = 0 := by rw [tagE, hp]; rfl
    rw [e3, e4] at HTP
    obtain ⟨x, hx⟩ : ∃ x : B10, bytT u = x.1 := ⟨⟨bytT u, k6⟩, rfl⟩
    have hr : rightT x.1 = true := by rw [← hx]; exact k2
    have hRi := HRi x
    rw [hr] at hRi
    obtain ⟨hm1, hm4⟩ := upX_len14 hr
    have hc : (upX x).length = 1 ∨ (upX x).length = 2 ∨ (upX x).length = 3 ∨ (upX x).length = 4 := by omega
    rcases hc with h | h | h | h
    · exact TagChains_okright1 t (bytT u) x s mm (upX x) _ w rfl hm4 hs hmin hx HKn HTP (HCh x) hRi HTx HPy HPa (HBe x) (HCo x) (HRo x hr) hm1 (H0 x hr) (HZl x hr) h ht k6
    · exact TagChains_okright2 t (bytT u) x s mm (upX x) _ w rfl hm4 hs hmin hx HKn HTP (HCh x) hRi HTx HPy HPa (HBe x) (HCo x) (HRo x hr) hm1 (H0 x hr) (HZl x hr) h ht k6
    · exact TagChains_okright3 t (bytT u) x s mm (upX x) _ w rfl hm4 hs hmin hx HKn HTP (HCh x) hRi HTx HPy HPa (HBe x) (HCo x) (HRo x hr) hm1 (H0 x hr) (HZl x hr) h ht k6
    · exact TagChains_okright4 t (bytT u) x s mm (upX x) _ w rfl hm4 hs hmin hx HKn HTP (HCh x) hRi HTx HPy HPa (HBe x) (HCo x) (HRo x hr) hm1 (H0 x hr) (HZl x hr) h ht k6
theorem TagChains_walkI (t : List UInt8) (s : ByteArray) (w : World) (ht : t.length = 10) (hs : s.size ≤ 9223372036854775807) (hmx : MX w) :
    Calls Tryd.prog 5 #[.agg (bC t), .string s] w fun e w' => e = .returned (.bool true) ∧ Below w.heap.size w w' :=
  TagChains_walkJ t s (min s.size 30) w ht hs (by omega) hmx
end Go.Proofs.YtnambaiafailaaaDoor
