/- Sheets as lists: what Sheet makes, and that it is printed and parsed back. -/
import Derived.Test.YtpnmficlebnajaaF9
import Derived.Test.YtpnmficlebnajaaTX
namespace Go.Proofs.Ytpnmficlebnajaa

def cutX (x : Ent) : Ent := ⟨x.n, x.hn, cutT 60 x.t⟩
/-- Where a name stands among some that rise. -/
def placeL (out : List Ent) (n : List UInt8) : Nat := (out.takeWhile fun y => lessR y.n n).length
theorem placeL_le (out : List Ent) (n : List UInt8) : placeL out n ≤ out.length := by
  unfold placeL; exact (List.takeWhile_sublist _).length_le
def isAt (out : List Ent) (n : List UInt8) : Bool := match out[placeL out n]? with | some y => y.n == n | none => false
def stepS (out : List Ent) (x : Ent) : List Ent :=
  if rightB x.n = false ∨ isAt out x.n = true ∨ 16 ≤ out.length then out else out.take (placeL out x.n) ++ [cutX x] ++ out.drop (placeL out x.n)
def sheetL (l : List Ent) : List Ent := (cutL l).foldl stepS []
/-- A sheet's list. -/
structure Good (x : List Ent) : Prop where
  len : x.length ≤ 16
  each : ∀ y ∈ x, rightB y.n = true ∧ y.t.size ≤ 60
  up : x.Pairwise fun a b => lessR a.n b.n = true
theorem Good.nil : Good [] := ⟨by simp, fun y h => by simp at h, .nil⟩
theorem cutX_size (x : Ent) : (cutX x).t.size ≤ 60 := by
  show (cutT 60 x.t).size ≤ 60
  rw [cutT, ByteArray.size_extract]; omega
theorem take_place {out : List Ent} {n : List UInt8} : ∀ y ∈ out.take (placeL out n), lessR y.n n = true := by
  intro y hy
  have e : out.take (placeL out n) = out.takeWhile fun y => lessR y.n n := by
    have := List.takeWhile_prefix (l := out) (fun y => lessR y.n n)
    exact (List.prefix_iff_eq_take.1 this).symm
  rw [e] at hy
  have := List.all_takeWhile (l := out) (p := fun y => lessR y.n n)
  exact (List.all_eq_true.1 this) y hy
theorem at_place {out : List Ent} {n : List UInt8} {y : Ent} (h : out[placeL out n]? = some y) : lessR y.n n = false := by
  unfold placeL at h
  induction out with
  | nil => simp at h
  | cons a l ih =>
    by_cases hp : lessR a.n n = true
    · simp only [List.takeWhile_cons, hp, if_true, List.length_cons, List.getElem?_cons_succ] at h
      exact ih h
    · have : a = y := by simpa [List.takeWhile_cons, hp] using h
      rw [← this]; simpa using hp
theorem Good.step {out : List Ent} (h : Good out) (x : Ent) : Good (stepS out x) := by
  unfold stepS
  split
  · exact h
  · rename_i hc
    simp only [not_or, Bool.not_eq_false, Bool.not_eq_true] at hc
    obtain ⟨hr, hi, hl⟩ := hc
    have hd : ∀ y ∈ out.drop (placeL out x.n), lessR x.n y.n = true := by
      intro y hy
      obtain ⟨z, hz⟩ : ∃ z, out[placeL out x.n]? = some z := by
        cases hz : out[placeL out x.n]? with
        | some z => exact ⟨z, rfl⟩
        | none => rw [List.drop_eq_nil_of_le (by simpa using hz)] at hy; simp at hy
      have hne : z.n ≠ x.n := by
        intro e
        have : isAt out x.n = true := by unfold isAt; rw [hz]; simpa using e
        rw [hi] at this; cases this
      have h1 := at_place hz
      have hxz : lessR x.n z.n = true := by
        cases h2 : lessR x.n z.n
        · exact absurd (lessR_total z.n x.n (z.hn.trans x.hn.symm) h1 h2) hne
        · rfl
      have hlt : placeL out x.n < out.length := (List.getElem?_eq_some_iff.1 hz).1
      rw [List.drop_eq_getElem_cons hlt] at hy
      have hze : out[placeL out x.n] = z := (List.getElem?_eq_some_iff.1 hz).2
      rw [hze] at hy
      rcases List.mem_cons.1 hy with rfl | hy'
      · exact hxz
      · have hp := h.up.sublist (List.drop_sublist (placeL out x.n) out)
        rw [List.drop_eq_getElem_cons hlt, hze] at hp
        exact lessR_trans _ _ _ (x.hn.trans z.hn.symm) (z.hn.trans y.hn.symm) hxz (List.rel_of_pairwise_cons hp hy')
    refine ⟨?_, ?_, ?_⟩
    · have := placeL_le out x.n
      simp only [List.length_append, List.length_take, List.length_drop, List.length_singleton]; omega
    · intro y hy
      simp only [List.append_assoc, List.mem_append, List.mem_singleton] at hy
      rcases hy with hy | rfl | hy
      · exact h.each y (List.mem_of_mem_take hy)
      · exact ⟨hr, cutX_size x⟩
      · exact h.each y (List.mem_of_mem_drop hy)
    · rw [List.append_assoc, List.pairwise_append]
      refine ⟨h.up.sublist (List.take_sublist _ _), ?_, ?_⟩
      · rw [List.singleton_append, List.pairwise_cons]
        exact ⟨hd, h.up.sublist (List.drop_sublist _ _)⟩
      · intro a ha b hb
        have hax := take_place a ha
        rw [List.singleton_append] at hb
        rcases List.mem_cons.1 hb with rfl | hb
        · exact hax
        · exact lessR_trans _ _ _ (a.hn.trans x.hn.symm) (x.hn.trans b.hn.symm) hax (hd b hb)
theorem Good.fold : ∀ (l out : List Ent), Good out → Good (l.foldl stepS out)
  | [], _, h => h
  | x :: l, _, h => Good.fold l _ (h.step x)
theorem sheetL_good (l : List Ent) : Good (sheetL l) := Good.fold _ _ Good.nil

theorem Good.err {x : List Ent} (h : Good x) : ∀ k, k ≤ x.length → errF x k = 0
  | 0, _ => rfl
  | k + 1, hk => by
    have hk' : k < x.length := by omega
    rw [errF_step hk' (h.err k (by omega))]
    have h1 := h.each _ (List.getElem_mem hk')
    have hl := h.len
    rw [behindE, if_neg (by rw [List.length_take]; omega), if_neg (by rw [h1.1]; simp), if_neg (by omega)]
    rcases Nat.eq_zero_or_pos k with rfl | hp
    · simp
    · have hlast : (x.take k).getLast? = some (x[k - 1]'(by omega)) := by
        rw [List.getLast?_eq_getElem?, List.length_take, Nat.min_eq_left (by omega), List.getElem?_take, if_pos (by omega), List.getElem?_eq_getElem (by omega)]
      rw [hlast]
      have := List.pairwise_iff_getElem.1 h.up (k - 1) k (by omega) hk' (by omega)
      show (if lessL _ _ = true then 0 else 8) = 0
      rw [lessL_lessR _ _ ((x[k - 1]'(by omega)).hn.trans x[k].hn.symm), if_pos this]
theorem Good.print {x : List Ent} (h : Good x) : printE x = if 1200 < (linesL x).length then 2 else 0 := by
  rw [printE, if_pos (h.err _ (Nat.le_refl _))]

/-! A line, read back. -/
theorem sign_61 (b : UInt8) (h : signB b.toNat = true) : b ≠ 61 ∧ b ≠ 10 := by
  constructor <;> (rintro rfl; revert h; decide +kernel)
theorem textL_sign {n : List UInt8} (h : rightB n = true) : ∀ b ∈ textL n, b ≠ 61 ∧ b ≠ 10 := by
  intro b hb
  rw [textL, if_pos h] at hb
  rw [rightB, Bool.and_eq_true, isName, Bool.and_eq_true, List.all_eq_true] at h
  exact sign_61 b (h.1.2 b hb)
theorem escL_ten (l : List UInt8) : ∀ b ∈ escL l, b ≠ 10 := by
  intro b hb
  obtain ⟨c, _, hc⟩ := List.mem_flatMap.1 hb
  unfold escB at hc
  split at hc
  · simp at hc; rcases hc with rfl | rfl <;> decide
  · split at hc
    · simp at hc; rcases hc with rfl | rfl <;> decide
    · split at hc
      · simp at hc; subst hc; decide
      · simp at hc; subst hc; assumption
theorem unesc_escL : ∀ l : List UInt8, unesc (escL l) = some l
  | [] => by simp [escL, unesc]
  | c :: l => by
    have ih := unesc_escL l
    show unesc (escB c ++ escL l) = _
    unfold escB
    split
    · rename_i h; subst h
      show unesc (92 :: 110 :: escL l) = _
      rw [unesc_n, ih]; rfl
    · split
      · rename_i h; subst h
        show unesc (92 :: 114 :: escL l) = _
        rw [unesc_r, ih]; rfl
      · split
        · rename_i h; subst h
          show unesc (92 :: 92 :: escL l) = _
          rw [unesc_b, ih]; rfl
        · rename_i h1 h2 h3
          show unesc (c :: escL l) = _
          rw [unesc_raw _ h2 h3, ih]; rfl
/-- A line without its end. -/
def rowL (x : Ent) : List UInt8 := textL x.n ++ [61] ++ escL x.t.data.toList
theorem lineL_row (x : Ent) : lineL x = rowL x ++ [10] := rfl
theorem row_ten {x : Ent} (h : rightB x.n = true) : ∀ b ∈ rowL x, b ≠ 10 := by
  intro b hb
  simp only [rowL, List.mem_append, List.mem_singleton] at hb
  rcases hb with (hb | rfl) | hb
  · exact (textL_sign h b hb).2
  · decide
  · exact escL_ten _ b hb
theorem row_read {x : Ent} (h : rightB x.n = true) : lineE (rowL x) = 0 ∧ lineX (rowL x) = x := by
  have hi : Lib.indexByte (rowL x) 61 = (textL x.n).length := idx_of fun b hb => (textL_sign h b hb).1
  have hat : lineAt (rowL x) = (textL x.n).length := by rw [lineAt, hi]; rfl
  have h1 : (rowL x).take (textL x.n).length = textL x.n := by rw [rowL, List.append_assoc, List.take_left' rfl]
  have h2 : (rowL x).drop ((textL x.n).length + 1) = escL x.t.data.toList := by
    rw [rowL, List.drop_left' (by simp)]
  have hq : textQ x.n = textL x.n := by rw [textQ, if_pos h]
  have hn : isName (textL x.n) = true := by rw [← hq, isQ, h]
  have hu := unesc_escL x.t.data.toList
  constructor
  · rw [lineE, hi, if_neg (by omega), hat, h1, if_neg (by rw [hn]; simp), h2, if_neg (by rw [(un_some hu).2]; simp)]
  · have e1 : (lineX (rowL x)).n = x.n := by
      show parseN _ = _
      rw [hat, h1, parseN, if_pos hn, ← hq, padQ h]
    have e2 : (lineX (rowL x)).t = x.t := by
      show unT _ = _
      rw [hat, h2, (un_some hu).1]
    cases hx : lineX (rowL x)
    rw [hx] at e1 e2
    cases x
    simp only at e1 e2
    subst e1 e2
    rfl
theorem parR_lines : ∀ (r out : List Ent), Good (out ++ r) → parR (linesL r).length out (linesL r) = (out ++ r, 0, 0)
  | [], out, _ => by simp [linesL, parR]
  | x :: r, out, h => by
    have hr : rightB x.n = true := (h.each x (by simp)).1
    obtain ⟨g1, g2⟩ := row_read hr
    have el : linesL (x :: r) = rowL x ++ [10] ++ linesL r := rfl
    have hi : Lib.indexByte (linesL (x :: r)) 10 = (rowL x).length := by rw [el]; exact idx_of (row_ten hr)
    have hcut : cutAt (linesL (x :: r)) = (rowL x).length := by rw [cutAt, hi]; rfl
    have ht : (linesL (x :: r)).take (rowL x).length = rowL x := by rw [el, List.append_assoc, List.take_left' rfl]
    have hd : (linesL (x :: r)).drop ((rowL x).length + 1) = linesL r := by rw [el, List.drop_left' (by simp)]
    have hlen : out.length < 16 := by have := h.len; simp at this; omega
    have hb : behindE out x = 0 := by
      have h1 := h.err (out.length + 1) (by simp)
      have h2 := h.err out.length (by simp)
      rw [errF_step (by simp) h2] at h1
      simpa using h1
    have hs : stepE out (linesL (x :: r)) = 0 := by
      rw [stepE, hi, if_neg (by omega), if_neg (by omega), hcut, ht, if_neg (by rw [g1]; simp), g2, hb]
    rw [parR_ok (by rw [el]; simp) hs, hcut, hd, ht, g2]
    have := parR_lines r (out ++ [x]) (by rw [List.append_assoc]; exact h)
    rw [this, List.append_assoc]; rfl
theorem Good.parsed {x : List Ent} (h : Good x) (hp : printE x = 0) : parseS (printT x) = (x, 0, 0) := by
  have h2 := h.print
  rw [hp] at h2
  have h3 : ¬ 1200 < (linesL x).length := by
    intro h4; rw [if_pos h4] at h2; cases h2
  rw [printT, if_pos hp, parseS, if_neg h3]
  exact parR_lines x [] h
theorem Good.cut {x : List Ent} (h : Good x) : cutL x = x := by
  have h1 : x.take 20 = x := List.take_of_length_le (by have := h.len; omega)
  rw [cutL, h1]
  have : ∀ y ∈ x, cut1 y = y := by
    intro y hy
    have hs := (h.each y hy).2
    have : cutT 80 y.t = y.t := by
      rw [cutT, show (min (y.t.size : Int) ((80 : Nat) : Int)).toNat = y.t.size by omega]
      exact ByteArray.extract_zero_size
    cases y
    simp only [cut1] at this ⊢
    rw [this]
  rw [List.map_congr_left this]; simp
/-- A name's text in a list. -/
def getR (x : List Ent) (n : List UInt8) : Option ByteArray := (x.find? fun y => y.n == n).map (·.t)
theorem getR_snoc {x : List Ent} (h : Good x) {k : Nat} (hk : k < x.length) (n : List UInt8) :
    getR (x.take (k + 1)) n = if x[k].n == n then some x[k].t else getR (x.take k) n := by
  rw [List.take_succ_eq_append_getElem hk, getR, List.find?_append]
  by_cases e : x[k].n == n
  · have : (x.take k).find? (fun y => y.n == n) = none := by
      rw [List.find?_eq_none]
      intro y hy hyn
      obtain ⟨i, hi, rfl⟩ := List.mem_iff_getElem.1 hy
      rw [List.length_take] at hi
      have := List.pairwise_iff_getElem.1 h.up i k (by omega) hk (by omega)
      rw [List.getElem_take] at hyn
      rw [beq_iff_eq.1 hyn, beq_iff_eq.1 e, lessR_irrefl] at this
      cases this
    rw [this]; simp [e]
  · simp only [e]
    cases hf : (x.take k).find? (fun y => y.n == n) <;> simp [getR, hf, e]
end Go.Proofs.Ytpnmficlebnajaa
