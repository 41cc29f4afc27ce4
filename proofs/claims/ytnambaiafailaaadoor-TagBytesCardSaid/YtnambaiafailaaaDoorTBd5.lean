/- TagBytes: all ways. -/
import Derived.Test.YtnambaiafailaaaDoorTBa5
import Derived.Test.YtnambaiafailaaaDoorTBb5
import Derived.Test.YtnambaiafailaaaDoorTBc5
namespace Go.Proofs.YtnambaiafailaaaDoor
open Go.RowKit

theorem chR_le (t : T3) : (chR t).length ≤ 4 := by
  unfold chR
  simp only [List.length_append, List.length_cons, List.length_nil]
  split <;> split <;> split <;> simp
theorem byt_sm {u : T3} (h : SmT u) : (bytT u).length = 10 := by rw [bytT, List.length_append, List.length_append, padTo_len h.l, padTo_len h.s, padTo_len h.r]
/-- What the first question's answers are. -/
structure FirstT (b x1 : List UInt8) (y1 : T3) (is : Bool) : Prop where
  oR : oR b = y1
  oB : oB b = is
  ofR : ofR b = x1
  hx : x1.length = 10
set_option maxRecDepth 100000 in
theorem TagBytes_walkI (b l : List UInt8) (w : World) (hb : b.length = 10) (hl : l.length = 10) (hmx : MX w) :
    Calls Tryd.prog 4 #[.agg (bC b), .agg (bC l)] w fun e w' => e = .returned (.bool true) ∧ Below w.heap.size w w' := by
  have HKn : Hid (∀ W, Below w.heap.size w W → Calls Tryd.prog 13 #[] W fun e w' => e = .returned (.bool true) ∧ Below W.heap.size W w') := fun W hW => known5_any W (hmx.below hW)
  have HRw : Hid (∀ W, Below w.heap.size w W → Calls Tryd.prog 21 #[.agg (bC l)] W fun e w' => e = .returned (.agg (bC l)) ∧ Below W.heap.size W w') := fun W _ => raw_any l W hl
  have HBy2 : Hid (∀ W, Below w.heap.size w W → Calls Tryd.prog 20 #[.agg (bC l)] W fun e w' => e = .returned (.agg (bC l)) ∧ Below W.heap.size W w') := fun W _ => tagBytes_any l W hl
  have HRi : Hid (∀ W, Below w.heap.size w W → Calls Tryd.prog 17 #[.agg (bC l)] W fun e w' => e = .returned (.bool (rightT l)) ∧ Below W.heap.size W w') := fun W hW => right_any5 l W hl (hmx.below hW)
  have HRO2 : Hid (∀ W, Below w.heap.size w W → Calls Tryd.prog 18 #[.agg (bC l)] W fun e w' => e = .returned (.tuple #[.agg (tC (oR l)), .bool (oB l)]) ∧ Below W.heap.size W w') := fun W _ => refOf5_any l W hl
  have HPa : Hid (∀ W, Below w.heap.size w W → Calls Tryd.prog 22 #[.agg (bC l)] W fun e w' => e = .returned (.tuple #[.agg (bC (parR l)), .bool (parOk l)]) ∧ Below W.heap.size W w') := fun W hW => parent_any l W hl (hmx.below hW)
  have HTx : Hid (∀ W, Below w.heap.size w W → Calls Tryd.prog 15 #[.agg (bC l)] W fun e w' => e = .returned (.string ⟨(textB l).toArray⟩) ∧ Below W.heap.size W w') := fun W hW => tagText_any l W hl (hmx.below hW)
  have HCh : Hid (∀ W, Below w.heap.size w W → Calls Tryd.prog 23 #[.agg (bC l)] W fun e w' => ∃ q cap, e = .returned (.slice q (upX ⟨l, hl⟩).length cap) ∧ SlAt encB 10 w' q (upX ⟨l, hl⟩) ∧ (upX ⟨l, hl⟩).length ≤ cap ∧ Below W.heap.size W w') := fun W hW => by
    refine (chain_any ⟨l, hl⟩ W (hmx.below hW)).mono ?_
    rintro e W' ⟨v, rfl, ho, hb⟩
    obtain ⟨q, cap, rfl, hcl, _, hsl, _⟩ := ho.at encB_len
    exact ⟨q, cap, rfl, hsl, hcl, hb⟩
  have HRc : ∀ y : T3, Hid (∀ W, Below w.heap.size w W → Calls Tryd.prog 24 #[.agg (tC y)] W fun e w' => ∃ q cap, e = .returned (.slice q (chR y).length cap) ∧ SlAt e3 3 w' q (chR y) ∧ (chR y).length ≤ cap ∧ Below W.heap.size W w') := fun y W _ => by
    refine (refChain_any y W).mono ?_
    rintro e W' ⟨v, rfl, ho, hb⟩
    obtain ⟨q, cap, rfl, hcl, _, hsl, _⟩ := ho.at e3_len
    exact ⟨q, cap, rfl, hsl, hcl, hb⟩
  have HRO : Hid (∀ W, Below w.heap.size w W → Calls Tryd.prog 18 #[.agg (bC b)] W fun e w' => e = .returned (.tuple #[.agg (tC (oR b)), .bool (oB b)]) ∧ Below W.heap.size W w') := fun W _ => refOf5_any b W hb
  have HTO : Hid (∀ W, Below w.heap.size w W → Calls Tryd.prog 19 #[.agg (bC b)] W fun e w' => e = .returned (.tuple #[.agg (bC (ofR b)), .int .i64 (ofE b)]) ∧ Below W.heap.size W w') := fun W hW => tagOf_any b W hb (hmx.below hW)
  have HTo : ∀ u : T3, SmT u → Hid (∀ W, Below w.heap.size w W → Calls Tryd.prog 14 #[.agg (tC u)] W fun e w' => e = .returned (.agg (bC (bytT u))) ∧ Below W.heap.size W w') := fun u h W _ => to_any u W h.l h.s h.r
  have HTxR : ∀ y : T3, SmT y → Hid (∀ W, Below w.heap.size w W → Calls Tryd.prog 16 #[.agg (tC y)] W fun e w' => e = .returned (.string ⟨(text5 y).toArray⟩) ∧ Below W.heap.size W w') := fun y h W _ => text_any5 y W (by have := h.l; omega) (by have := h.s; omega) (by have := h.r; omega)
  have HBb : Hid (∀ W, Below w.heap.size w W → Calls Tryd.prog 20 #[.agg (bC b)] W fun e w' => e = .returned (.agg (bC b)) ∧ Below W.heap.size W w') := fun W _ => tagBytes_any b W hb
  have z10 : tag0.length = 10 := rfl
  cases hrl : rightT l with
  | false =>
    have hw := wrong_all hl hrl
    have hu := wrong_up hl hrl
    rw [hrl] at HRi
    rw [hw.oR, hw.oB] at HRO2
    rw [hw.par, hw.ok] at HPa
    rw [hw.text] at HTx
    rw [hu] at HCh
    cases hrb : rightT b with
    | false =>
      have hv := wrong_all hb hrb
      rw [hv.oR, hv.oB] at HRO
      rw [hv.ofR, hv.ofE] at HTO
      exact TagBytes_no_wrong b l tag0 tag0 t30 t30 [] [] #[] w rfl rfl HKn HRO HTO HRw HRO2 HPa HBy2 HRi HCh HTx hb hl z10 z10 rfl rfl
    | true =>
      obtain ⟨y1, hv⟩ := right_oR hrb
      rw [hv.oR, hv.oB] at HRO
      rw [hv.ofR, hv.ofE] at HTO
      have k1 := HTo y1 hv.sm
      rw [hv.byt] at k1
      exact TagBytes_is_wrong b l b tag0 y1 t30 [] [] #[] w rfl rfl HKn HRO HTO k1 HBb HRw HRO2 HPa HBy2 HRi HCh HTx hb hl hb z10 rfl
  | true =>
    obtain ⟨y2, hw⟩ := right_oR hrl
    have hup := right_up hl hrl hw
    rw [hrl] at HRi
    rw [hw.oR, hw.oB] at HRO2
    rw [hw.text] at HTx
    have hTo2 : Hid (∀ u, u ∈ chR y2 → Hid (∀ W, Below w.heap.size w W → Calls Tryd.prog 14 #[.agg (tC u)] W fun e w' => e = .returned (.agg (bC (bytT u))) ∧ Below W.heap.size W w')) := fun u hu => HTo u (smT_chain hw.sm u hu)
    have hLc : Hid (∀ u, u ∈ chR y2 → (bytT u).length = 10) := fun u hu => byt_sm (smT_chain hw.sm u hu)
    have hlen : (upX ⟨l, hl⟩).length = (chR y2).length := by
      have := congrArg List.length hup
      simpa using this
    have hRc := HRc y2
    by_cases h0 : l = tag0
    · subst h0
      obtain ⟨rfl, hc1⟩ := right_root hw
      rw [root_par.1, root_par.2] at HPa
      have h1 : (chR t30).length = 1 := by rw [hc1]; rfl
      rw [hlen] at HCh
      rw [h1] at HCh hRc
      cases hrb : rightT b with
      | false =>
        have hv := wrong_all hb hrb
        rw [hv.oR, hv.oB] at HRO
        rw [hv.ofR, hv.ofE] at HTO
        exact TagBytes_no_root b tag0 tag0 tag0 t30 t30 _ _ _ w (hlen.trans h1) h1 HKn HRO HTO HRw HRO2 HPa HBy2 HRi HCh hRc HTx (HTxR t30 hw.sm) hTo2 hup hLc hb hl z10 z10 rfl rfl
      | true =>
        obtain ⟨y1, hv⟩ := right_oR hrb
        rw [hv.oR, hv.oB] at HRO
        rw [hv.ofR, hv.ofE] at HTO
        have k1 := HTo y1 hv.sm
        rw [hv.byt] at k1
        exact TagBytes_is_root b tag0 b tag0 y1 t30 _ _ _ w (hlen.trans h1) h1 HKn HRO HTO k1 HBb HRw HRO2 HPa HBy2 HRi HCh hRc HTx (HTxR t30 hw.sm) hTo2 hup hLc hb hl hb z10 rfl
    · obtain ⟨u, r, hc, hp, hok⟩ := right_par2 hrl h0 hw
      rw [hok] at HPa
      rw [hlen] at HCh
      have hm1 : 1 < (chR y2).length := by rw [hc]; simp
      have hU : Hid (∃ (u : T3) (h : 1 < (chR y2).length), (chR y2)[1] = u ∧ bytT u = parR l) := ⟨u, hm1, by simp [hc], hp.symm⟩
      have hpl : (parR l).length = 10 := parR_len hl
      cases hrb : rightT b with
      | false =>
        have hv := wrong_all hb hrb
        rw [hv.oR, hv.oB] at HRO
        rw [hv.ofR, hv.ofE] at HTO
        exact TagBytes_no_more b l tag0 (parR l) t30 y2 _ _ _ _ w hlen rfl (chR_le _) HKn HRO HTO HRw HRO2 HPa HBy2 HRi HCh hRc HTx (HTxR y2 hw.sm) hTo2 hup hLc hU hm1 hb hl z10 hpl rfl
      | true =>
        obtain ⟨y1, hv⟩ := right_oR hrb
        rw [hv.oR, hv.oB] at HRO
        rw [hv.ofR, hv.ofE] at HTO
        have k1 := HTo y1 hv.sm
        rw [hv.byt] at k1
        exact TagBytes_is_more b l b (parR l) y1 y2 _ _ _ _ w hlen rfl (chR_le _) HKn HRO HTO k1 HBb HRw HRO2 HPa HBy2 HRi HCh hRc HTx (HTxR y2 hw.sm) hTo2 hup hLc hU hm1 hb hl hb hpl
end Go.Proofs.YtnambaiafailaaaDoor
