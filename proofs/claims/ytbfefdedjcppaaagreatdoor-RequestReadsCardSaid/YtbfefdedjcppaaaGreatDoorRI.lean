/- Texts joined: RI. -/
import Derived.Test.YtbfefdedjcppaaaGreatDoorDQ6
import Derived.Test.YtbfefdedjcppaaaGreatDoorRE
import Derived.Laws.StructEq
/- Reading, and what was read written: the plain law of an order. -/
namespace Go.Proofs.YtbfefdedjcppaaaGreatDoor
open Go.RowKit

theorem rowIn_app {A B o r : List Value} {off i : Nat} (hA : A.length = off) (h : i + r.length ≤ o.length) : RowIn (A ++ (o ++ B)) (off + i) r = A ++ (RowIn o i r ++ B) := by
  subst hA
  unfold RowIn
  rw [List.take_append, List.take_of_length_le (by omega), show A.length + i - A.length = i by omega, List.take_append_of_le_length (by omega), List.drop_append, List.drop_of_length_le (by omega), List.nil_append, show A.length + i + r.length - A.length = i + r.length by omega, List.drop_append_of_le_length h]
  simp
theorem lowB_u8 (b : UInt8) : lowB (b.toNat : Int) = b := by
  unfold lowB
  rw [← UInt8.toNat_inj, UInt8.toNat_ofNat']
  have := b.toNat_lt
  omega
/-- Letters of an order. -/
def isLt (c : UInt8) : Prop := c = 98 ∨ c = 97 ∨ c = 120 ∨ c = 116 ∨ c = 103 ∨ c = 110 ∨ c = 109
/-- A number read by both sides. -/
theorem num_step {x : FS} {y : DS} (off off2 lo hi ee : Nat) (hee : ee ≠ 0) (hx : x.ef = 0) (hy : y.e = 0) (hl : y.l = x.l) :
    (sNum off lo hi ee x).ef = (dNum off2 lo hi ee y).e ∧ ((sNum off lo hi ee x).ef = 0 → ∃ b t, x.l = b :: t ∧ lo ≤ b.toNat ∧ b.toNat ≤ hi ∧ (sNum off lo hi ee x).cs = RowIn x.cs off [.int .i64 (b.toNat : Int)] ∧ (dNum off2 lo hi ee y).cs = RowIn y.cs off2 [.int .i64 (b.toNat : Int)] ∧ (sNum off lo hi ee x).l = t ∧ (dNum off2 lo hi ee y).l = t) := by
  unfold sNum dNum numIE eN kN vN
  rw [if_pos hx, hy, hl]
  simp only [ne_eq, not_true_eq_false, if_false, true_and]
  cases hxl : x.l with
  | nil => simp [byteE]
  | cons b t =>
    simp only [byteE, byteV, byteK, if_true, true_and]
    by_cases hr : b.toNat < lo ∨ hi < b.toNat
    · refine ⟨by simp [hr], fun h => ?_⟩
      exfalso
      simp [hr] at h
      exact hee h
    · exact ⟨by simp [hr], fun _ => ⟨b, t, rfl, by omega, by omega, rfl, rfl, rfl, rfl⟩⟩
theorem text_back {m : Nat} {l : List UInt8} (h : textE m l = 0) : l = small (textS m l).length ++ textS m l ++ l.drop (textN m l) ∧ (textS m l).length ≤ m := by
  have hs : textS m l = (l.drop (readS l).2.1).take (readS l).1 := if_pos h
  have hn : textN m l = (readS l).2.1 + (readS l).1 := if_pos h
  unfold textE at h
  split at h
  · exact absurd h (by assumption)
  · rename_i h0
    split at h
    · cases h
    · split at h
      · cases h
      · rename_i h1 h2
        rcases hr : readS l with ⟨n, k, e⟩
        rw [hr] at hs hn h0 h1 h2
        simp only [ne_eq, Decidable.not_not] at h0 h1 h2
        subst h0
        obtain ⟨e1, e2, e3, e4⟩ := back_small hr
        have hlen : (textS m l).length = n := by rw [hs]; simp; omega
        refine ⟨?_, by omega⟩
        rw [hlen, hs, hn, ← e1]
        simp only
        rw [← List.drop_drop, List.append_assoc, List.take_append_drop, List.take_append_drop]
/-- Numbers and the text in their ranges. -/
def NumF (o : OpD) : Prop := (0 ≤ o.n3 ∧ o.n3 ≤ 3) ∧ (0 ≤ o.n4 ∧ o.n4 ≤ 15) ∧ (0 ≤ o.n5 ∧ o.n5 ≤ 63) ∧ (0 ≤ o.n6 ∧ o.n6 ≤ 2) ∧ o.text.size ≤ 1200
def FldOk (d : OpD) (c : UInt8) : Prop := (c = 97 → rightB d.name = true) ∧ (c = 103 → rightT d.tag = true)
theorem numF_set {d o : OpD} (hd : NumF d) (ho : NumF o) (c : UInt8) : NumF (setF d o c) := by
  obtain ⟨d3, d4, d5, d6, dt⟩ := hd
  obtain ⟨o3, o4, o5, o6, ot⟩ := ho
  unfold setF
  repeat' split
  all_goals exact ⟨by assumption, by assumption, by assumption, by assumption, by assumption⟩
theorem fld_same {d o : OpD} {c : UInt8} (hc : isLt c) (h : FldOk d c) : FldOk (setF d o c) c := by
  rcases hc with rfl | rfl | rfl | rfl | rfl | rfl | rfl <;> (unfold FldOk at *; unfold setF; first | (simp; done) | (simp at h ⊢; exact h) | exact h)
theorem fld_other {d o : OpD} {c c' : UInt8} (hc : isLt c) (hc' : isLt c') (hne : c ≠ c') (h : FldOk o c') : FldOk (setF d o c) c' := by
  rcases hc with rfl | rfl | rfl | rfl | rfl | rfl | rfl <;> rcases hc' with rfl | rfl | rfl | rfl | rfl | rfl | rfl <;> first | exact absurd rfl hne | (unfold FldOk at *; unfold setF; first | (simp; done) | (simp at h ⊢; exact h) | exact h)
theorem fieldO_same {d o : OpD} {c : UInt8} (hc : isLt c) : fieldO (setF d o c) c = fieldO d c := by
  rcases hc with rfl | rfl | rfl | rfl | rfl | rfl | rfl <;> rfl
theorem fieldO_other {d o : OpD} {c c' : UInt8} (hc : isLt c) (hc' : isLt c') (hne : c ≠ c') : fieldO (setF d o c) c' = fieldO o c' := by
  rcases hc with rfl | rfl | rfl | rfl | rfl | rfl | rfl <;> rcases hc' with rfl | rfl | rfl | rfl | rfl | rfl | rfl <;> first | exact absurd rfl hne | rfl
theorem setF_same {d o z : OpD} {c : UInt8} (hc : isLt c) : setF (setF d o c) z c = setF d z c := by
  rcases hc with rfl | rfl | rfl | rfl | rfl | rfl | rfl <;> rfl
theorem setF_other {d o z : OpD} {c c' : UInt8} (hc : isLt c) (hc' : isLt c') (hne : c ≠ c') : setF (setF d o c) z c' = setF o z c' := by
  rcases hc with rfl | rfl | rfl | rfl | rfl | rfl | rfl <;> rcases hc' with rfl | rfl | rfl | rfl | rfl | rfl | rfl <;> first | exact absurd rfl hne | rfl
theorem setF_head {d o : OpD} (c : UInt8) : headO (setF d o c) = headO o := by
  unfold setF
  repeat' split
  all_goals rfl
theorem sign_neP (b : UInt8) (h : signB b.toNat = true) : b ≠ 0 := by
  rintro rfl
  revert h
  decide +kernel
theorem isName_specP {l : List UInt8} (h : isName l = true) : 1 ≤ l.length ∧ l.length ≤ 12 ∧ ∀ b ∈ l, b ≠ 0 := by
  simp only [isName, Bool.and_eq_true, decide_eq_true_eq, List.all_eq_true] at h
  exact ⟨h.1.1.1, h.1.1.2, fun b hb => sign_neP b (h.2 b hb)⟩
theorem front_padP {l : List UInt8} (h : isName l = true) : front (pad l) = l := by
  obtain ⟨_, h2, h3⟩ := isName_specP h
  unfold front pad
  rw [List.take_of_length_le h2, List.takeWhile_append_of_pos (fun b hb => by simpa using h3 b hb)]
  have : (List.replicate (12 - l.length) (0 : UInt8)).takeWhile (· != 0) = [] := by
    cases 12 - l.length <;> simp [List.replicate_succ]
  rw [this, List.append_nil]
theorem right_padP {l : List UInt8} (h : isName l = true) : rightB (pad l) = true := by
  simp [rightB, front_padP h, h]
theorem text_padP {l : List UInt8} (h : isName l = true) : textL (pad l) = l := by
  rw [textL, right_padP h, if_pos rfl, front_padP h]
theorem tagOk_right {s : List UInt8} (h : tagOk s = true) : rightT (tagR s) = true ∧ textB (tagR s) = s := by
  unfold tagOk at h
  simp only [Bool.and_eq_true, decide_eq_true_eq] at h
  refine ⟨?_, h.2⟩
  obtain ⟨t, ht⟩ := Option.isSome_iff_exists.1 h.1
  rw [(tagOk_some ht).2]
  exact (parse_known ht).2.1
/-- A letter read by both sides. -/
theorem step_both {x : FS} {y : DS} {o : OpD} {A B : List Value} {off : Nat} {c : UInt8} (hc : isLt c) (hA : A.length = off) (hx : x.ef = 0) (hy : y.e = 0) (hl : y.l = x.l) (hxc : x.cs = A ++ (opC o ++ B)) (hyc : y.cs = opC o) :
    (stepO off x c).ef = (stepD y c).e ∧ ((stepO off x c).ef = 0 → ∃ d : OpD, NumF d ∧ FldOk d c ∧ (stepO off x c).cs = A ++ (opC (setF d o c) ++ B) ∧ (stepD y c).cs = opC (setF d o c) ∧ (stepD y c).l = (stepO off x c).l ∧ x.l = fieldO d c ++ (stepO off x c).l) := by
  have hol := opC_len o
  have nums : ∀ (i hi : Nat) (d : Int → OpD), (∀ n : Nat, n ≤ hi → NumF (d (n : Int)) ∧ FldOk (d (n : Int)) c) → (∀ n : Nat, RowIn (opC o) i [.int .i64 (n : Int)] = opC (setF (d (n : Int)) o c)) → (∀ n : Int, fieldO (d n) c = [lowB n]) → i < 30 → stepO off x c = sNum (off + i) 0 hi 5 x → stepD y c = dNum i 0 hi 5 y →
      (stepO off x c).ef = (stepD y c).e ∧ ((stepO off x c).ef = 0 → ∃ d : OpD, NumF d ∧ FldOk d c ∧ (stepO off x c).cs = A ++ (opC (setF d o c) ++ B) ∧ (stepD y c).cs = opC (setF d o c) ∧ (stepD y c).l = (stepO off x c).l ∧ x.l = fieldO d c ++ (stepO off x c).l) := by
    intro i hi d hd hr hf hi30 e1 e2
    rw [e1, e2]
    obtain ⟨h1, h2⟩ := num_step (x := x) (y := y) (off + i) i 0 hi 5 (by decide) hx hy hl
    refine ⟨h1, fun h => ?_⟩
    obtain ⟨b, t, g1, _, g3, g4, g5, g6, g7⟩ := h2 h
    refine ⟨d (b.toNat : Int), (hd _ g3).1, (hd _ g3).2, ?_, ?_, ?_, ?_⟩
    · rw [g4, hxc, rowIn_app hA (by simp; omega), hr]
    · rw [g5, hyc, hr]
    · rw [g6, g7]
    · rw [g1, g6, hf, lowB_u8]; rfl
  have z0 : NumF zeroO := by unfold NumF; decide
  obtain ⟨z3, z4, z5, z6, zt⟩ := z0
  rcases hc with rfl | rfl | rfl | rfl | rfl | rfl | rfl
  · exact nums 3 3 (fun n => { zeroO with n3 := n }) (fun n hn => ⟨⟨⟨by simp, by simp; omega⟩, z4, z5, z6, zt⟩, fun h => absurd h (by decide), fun h => absurd h (by decide)⟩) (fun n => rfl) (fun n => rfl) (by decide) rfl rfl
  · show (sName (off + 7) x).ef = (dName 7 y).e ∧ ((sName (off + 7) x).ef = 0 → ∃ d : OpD, NumF d ∧ FldOk d 97 ∧ (sName (off + 7) x).cs = A ++ (opC (setF d o 97) ++ B) ∧ (dName 7 y).cs = opC (setF d o 97) ∧ (dName 7 y).l = (sName (off + 7) x).l ∧ x.l = fieldO d 97 ++ (sName (off + 7) x).l)
    unfold sName dName nameE eT kT sT
    rw [if_pos hx, hy, hl]
    simp only [ne_eq, not_true_eq_false, if_false]
    by_cases he : textE 12 x.l = 0
    · obtain ⟨hb, _⟩ := text_back he
      rw [he]
      simp only [if_true, true_and, errN]
      cases hn : isName (textS 12 x.l) with
      | false => exact ⟨rfl, fun h => by simp at h⟩
      | true =>
        refine ⟨rfl, fun _ => ⟨{ zeroO with name := pad (textS 12 x.l), ln := pad_length _ }, ⟨z3, z4, z5, z6, zt⟩, ⟨fun _ => right_padP hn, fun h => absurd h (by decide)⟩, ?_, ?_, ?_⟩⟩
        · rw [show parseN (textS 12 x.l) = pad (textS 12 x.l) from if_pos hn, hxc, rowIn_app hA (by simp [bC, pad_length]; omega), row_name { zeroO with name := pad (textS 12 x.l), ln := pad_length _ } o]
          rfl
        · simp only [Bool.true_eq_false, if_false, if_true]
          rw [hyc, row_name { zeroO with name := pad (textS 12 x.l), ln := pad_length _ } o]
          rfl
        · show x.l = (small (textL (pad (textS 12 x.l))).length ++ textL (pad (textS 12 x.l))) ++ x.l.drop (textN 12 x.l)
          rw [text_padP hn]; exact hb
    · refine ⟨?_, fun h => ?_⟩
      · rw [if_neg he, if_neg (fun h => he h.1)]
      · rw [if_neg he] at h; exact absurd h he
  · show (sText (off + 29) x).ef = (dText 29 1200 y).e ∧ ((sText (off + 29) x).ef = 0 → ∃ d : OpD, NumF d ∧ FldOk d 120 ∧ (sText (off + 29) x).cs = A ++ (opC (setF d o 120) ++ B) ∧ (dText 29 1200 y).cs = opC (setF d o 120) ∧ (dText 29 1200 y).l = (sText (off + 29) x).l ∧ x.l = fieldO d 120 ++ (sText (off + 29) x).l)
    unfold sText dText eT kT sT
    rw [if_pos hx, hy, hl]
    simp only [ne_eq, not_true_eq_false, if_false]
    refine ⟨trivial, fun h => ?_⟩
    obtain ⟨hb, hm⟩ := text_back h
    refine ⟨{ zeroO with text := ⟨(textS 1200 x.l).toArray⟩ }, ⟨z3, z4, z5, z6, by show (textS 1200 x.l).toArray.size ≤ 1200; simpa using hm⟩, ⟨fun h => absurd h (by decide), fun h => absurd h (by decide)⟩, ?_, ?_, ?_⟩
    · rw [hxc, rowIn_app hA (by simp; omega)]
      exact congrArg (fun z => A ++ (z ++ B)) (opC_set o ⟨(textS 1200 x.l).toArray⟩)
    · rw [hyc]; exact opC_set o ⟨(textS 1200 x.l).toArray⟩
    · exact ⟨trivial, hb⟩
  · exact nums 4 15 (fun n => { zeroO with n4 := n }) (fun n hn => ⟨⟨z3, ⟨by simp, by simp; omega⟩, z5, z6, zt⟩, fun h => absurd h (by decide), fun h => absurd h (by decide)⟩) (fun n => rfl) (fun n => rfl) (by decide) rfl rfl
  · show (sTag (off + 19) x).ef = (dTag 19 y).e ∧ ((sTag (off + 19) x).ef = 0 → ∃ d : OpD, NumF d ∧ FldOk d 103 ∧ (sTag (off + 19) x).cs = A ++ (opC (setF d o 103) ++ B) ∧ (dTag 19 y).cs = opC (setF d o 103) ∧ (dTag 19 y).l = (sTag (off + 19) x).l ∧ x.l = fieldO d 103 ++ (sTag (off + 19) x).l)
    unfold sTag dTag tagIV tagIE eT kT sT
    rw [if_pos hx, hy, hl]
    simp only [ne_eq, not_true_eq_false, if_false, true_and]
    by_cases he : textE 12 x.l = 0
    · obtain ⟨hb, _⟩ := text_back he
      rw [he]
      simp only [if_true, true_and]
      cases hn : tagOk (textS 12 x.l) with
      | false => exact ⟨rfl, fun h => by simp at h⟩
      | true =>
        obtain ⟨hr, ht⟩ := tagOk_right hn
        refine ⟨rfl, fun _ => ⟨{ zeroO with tag := tagR (textS 12 x.l), lt := tagR_len _ }, ⟨z3, z4, z5, z6, zt⟩, ⟨fun h => absurd h (by decide), fun _ => hr⟩, ?_, ?_, ?_⟩⟩
        · simp only [if_true]
          rw [hxc, rowIn_app hA (by simp [bC, tagR_len]; omega), row_tag { zeroO with tag := tagR (textS 12 x.l), lt := tagR_len _ } o]
          rfl
        · simp only [Bool.true_eq_false, if_false, if_true]
          rw [hyc, row_tag { zeroO with tag := tagR (textS 12 x.l), lt := tagR_len _ } o]
          rfl
        · show x.l = (small (textB (tagR (textS 12 x.l))).length ++ textB (tagR (textS 12 x.l))) ++ x.l.drop (textN 12 x.l)
          rw [ht]; exact hb
    · refine ⟨?_, fun h => ?_⟩
      · rw [if_neg he, if_neg (fun h => he h.1)]
      · rw [if_neg he] at h; exact absurd h he
  · exact nums 5 63 (fun n => { zeroO with n5 := n }) (fun n hn => ⟨⟨z3, z4, ⟨by simp, by simp; omega⟩, z6, zt⟩, fun h => absurd h (by decide), fun h => absurd h (by decide)⟩) (fun n => rfl) (fun n => rfl) (by decide) rfl rfl
  · exact nums 6 2 (fun n => { zeroO with n6 := n }) (fun n hn => ⟨⟨z3, z4, z5, ⟨by simp, by simp; omega⟩, zt⟩, fun h => absurd h (by decide), fun h => absurd h (by decide)⟩) (fun n => rfl) (fun n => rfl) (by decide) rfl rfl
/-- An order's letters so far. -/
structure Inv (k0 : OpD) (p : List UInt8) (l l' : List UInt8) (o : OpD) : Prop where
  hd : headO o = headO k0
  bare : p.foldl (setF o) (headO o) = o
  num : NumF o
  fld : ∀ c ∈ p, FldOk o c
  use : l = p.flatMap (fieldO o) ++ l'
theorem foldSet_other {d o : OpD} {c : UInt8} (hc : isLt c) : ∀ (p : List UInt8) (z : OpD), (∀ x ∈ p, isLt x ∧ c ≠ x) → p.foldl (setF (setF d o c)) z = p.foldl (setF o) z
  | [], _, _ => rfl
  | x :: p, z, h => by
    rw [List.foldl_cons, List.foldl_cons, setF_other hc (h x (by simp)).1 (h x (by simp)).2]
    exact foldSet_other hc p _ fun y hy => h y (by simp [hy])
theorem flatF_other {d o : OpD} {c : UInt8} (hc : isLt c) : ∀ (p : List UInt8), (∀ x ∈ p, isLt x ∧ c ≠ x) → p.flatMap (fieldO (setF d o c)) = p.flatMap (fieldO o)
  | [], _ => rfl
  | x :: p, h => by
    rw [List.flatMap_cons, List.flatMap_cons, fieldO_other hc (h x (by simp)).1 (h x (by simp)).2]
    rw [flatF_other hc p fun y hy => h y (by simp [hy])]
theorem Inv.step {k0 d o : OpD} {p l l' l'' : List UInt8} {c : UInt8} (h : Inv k0 p l l' o) (hc : isLt c) (hp : ∀ x ∈ p, isLt x ∧ c ≠ x) (hn : NumF d) (hf : FldOk d c) (hl : l' = fieldO d c ++ l'') : Inv k0 (p ++ [c]) l l'' (setF d o c) := by
  refine ⟨(setF_head c).trans h.hd, ?_, numF_set hn h.num c, fun x hx => ?_, ?_⟩
  · rw [List.foldl_append, foldSet_other hc p _ hp, setF_head, h.bare]
    exact setF_same hc
  · rw [List.mem_append, List.mem_singleton] at hx
    rcases hx with hx | rfl
    · exact fld_other hc (hp x hx).1 (hp x hx).2 (h.fld x hx)
    · exact fld_same hc hf
  · rw [List.flatMap_append, flatF_other hc p hp, List.flatMap_cons, List.flatMap_nil, List.append_nil, fieldO_same hc, h.use, hl, List.append_assoc]
/-- Errors stay. -/
theorem stepO_err {x : FS} (off : Nat) (c : UInt8) (h : x.ef ≠ 0) : stepO off x c = x := by
  unfold stepO sNum sName sTag sText
  simp only [if_neg h, ite_self]
theorem foldO_err {off : Nat} (u : List UInt8) {x : FS} (h : x.ef ≠ 0) : u.foldl (stepO off) x = x := by
  induction u with
  | nil => rfl
  | cons c u ih => rw [List.foldl_cons, stepO_err off c h]; exact ih
theorem stepD_err {y : DS} (c : UInt8) (h : y.e ≠ 0) : (stepD y c).e = y.e := by
  unfold stepD dNum dName dTag dText numIE nameE tagIE eN eT
  repeat' split
  all_goals first | rfl | omega | (exfalso; simp_all)
theorem foldD_err (u : List UInt8) : ∀ {y : DS}, y.e ≠ 0 → (u.foldl stepD y).e = y.e := by
  induction u with
  | nil => intro y _; rfl
  | cons c u ih => intro y h; rw [List.foldl_cons, ih (by rw [stepD_err c h]; exact h), stepD_err c h]
/-- An order's letters read by both sides. -/
theorem fold_both {k0 : OpD} {A B : List Value} {off : Nat} (hA : A.length = off) : ∀ (u p l : List UInt8) (x : FS) (y : DS) (o : OpD), (∀ c ∈ u, isLt c) → (∀ c ∈ p, isLt c) → (p ++ u).Nodup → x.ef = 0 → y.e = 0 → y.l = x.l → x.cs = A ++ (opC o ++ B) → y.cs = opC o → Inv k0 p l x.l o →
    (u.foldl (stepO off) x).ef = (u.foldl stepD y).e ∧ ((u.foldl (stepO off) x).ef = 0 → ∃ o' : OpD, (u.foldl (stepO off) x).cs = A ++ (opC o' ++ B) ∧ (u.foldl stepD y).cs = opC o' ∧ (u.foldl stepD y).l = (u.foldl (stepO off) x).l ∧ Inv k0 (p ++ u) l (u.foldl (stepO off) x).l o')
  | [], p, l, x, y, o, _, _, _, hx, hy, hl, hxc, hyc, hi => ⟨hx.trans hy.symm, fun _ => ⟨o, hxc, hyc, hl, by rw [List.append_nil]; exact hi⟩⟩
  | c :: u, p, l, x, y, o, hu, hp, hnd, hx, hy, hl, hxc, hyc, hi => by
    have hc : isLt c := hu c (by simp)
    obtain ⟨h1, h2⟩ := step_both (x := x) (y := y) hc hA hx hy hl hxc hyc
    rw [List.foldl_cons, List.foldl_cons]
    by_cases he : (stepO off x c).ef = 0
    · obtain ⟨d, g1, g2, g3, g4, g5, g6⟩ := h2 he
      have hpc : ∀ z ∈ p, isLt z ∧ c ≠ z := fun z hz => ⟨hp z hz, fun e => by
        rw [List.nodup_append] at hnd
        exact hnd.2.2 z hz c (by simp) e.symm⟩
      have := fold_both hA u (p ++ [c]) l (stepO off x c) (stepD y c) (setF d o c) (fun z hz => hu z (by simp [hz])) (fun z hz => by
        rw [List.mem_append, List.mem_singleton] at hz
        rcases hz with hz | rfl
        · exact hp z hz
        · exact hc) (by simpa using hnd) he (h1.symm.trans he) g5 g3 g4 (hi.step hc hpc g1 g2 g6)
      simpa using this
    · have he2 : (stepD y c).e ≠ 0 := by rw [← h1]; exact he
      rw [foldO_err u he, foldD_err u he2]
      exact ⟨h1, fun h => absurd h he⟩
end Go.Proofs.YtbfefdedjcppaaaGreatDoor

/- Reading, and what was read written: the plain law of a request. -/
namespace Go.Proofs.YtbfefdedjcppaaaGreatDoor
open Go.RowKit

theorem sNum_err {x : FS} (off lo hi ee : Nat) (h : x.ef ≠ 0) : sNum off lo hi ee x = x := if_neg h
theorem dNum_err {y : DS} (off lo hi ee : Nat) (h : y.e ≠ 0) : (dNum off lo hi ee y).e = y.e := by
  show numIE lo hi ee y.e y.l = y.e
  unfold numIE eN
  rw [if_neg (fun hh => h hh.1), if_pos h]
theorem head3_err {off : Nat} {x : FS} (h : x.ef ≠ 0) : head3 off x = x := by
  unfold head3
  rw [sNum_err _ _ _ _ h, sNum_err _ _ _ _ h, sNum_err _ _ _ _ h]
theorem sOrder_err {off : Nat} {x : FS} (h : x.ef ≠ 0) : sOrder off x = x := by
  unfold sOrder
  rw [head3_err h, foldO_err _ h]
theorem headD_err {y : DS} (h : y.e ≠ 0) : (headD y).e = y.e := by
  unfold headD
  have h1 : (dNum 0 1 16 16 y).e = y.e := dNum_err _ _ _ _ h
  have h2 : (dNum 1 0 15 5 (dNum 0 1 16 16 y)).e = y.e := by rw [dNum_err _ _ _ _ (by rw [h1]; exact h), h1]
  rw [dNum_err _ _ _ _ (by rw [h2]; exact h), h2]
theorem dOrder_err {l : List UInt8} {e : Nat} (h : e ≠ 0) : (dOrder l e).e = e := by
  unfold dOrder
  have h1 : (headD ⟨l, e, opC zeroO⟩).e = e := headD_err (y := ⟨l, e, opC zeroO⟩) h
  rw [foldD_err _ (by rw [h1]; exact h), h1]
theorem uses_nodup (k : Nat) : (usesL k).Nodup := by
  have h : ∀ l ∈ useT, l.Nodup := by decide
  unfold usesL
  split
  · exact List.nodup_nil
  · have hk : k < useT.length := by show k < 17; omega
    rw [List.getD_eq_getElem?_getD, List.getElem?_eq_getElem hk]
    exact h _ (List.getElem_mem hk)
theorem uses_lt (k : Nat) : ∀ c ∈ usesL k, isLt c := fun c hc => by
  have := uses_in k c hc
  unfold isLt
  rcases this with h | h | h | h | h | h | h <;> simp [h]
/-- An order's bytes. -/
def ordL (o : OpD) : List UInt8 := [lowB o.n0, lowB o.n1, lowB o.n2] ++ (usesL o.n0.toNat).flatMap (fieldO o)
/-- The three numbers ahead. -/
theorem head_both {x : FS} {A B : List Value} {off : Nat} (hA : A.length = off) (hx : x.ef = 0) (hxc : x.cs = A ++ (opC zeroO ++ B)) :
    (head3 off x).ef = (headD ⟨x.l, 0, opC zeroO⟩).e ∧ ((head3 off x).ef = 0 → ∃ k0 : OpD, headO k0 = k0 ∧ NumF k0 ∧ (1 ≤ k0.n0 ∧ k0.n0 ≤ 16) ∧ (0 ≤ k0.n1 ∧ k0.n1 ≤ 15) ∧ (0 ≤ k0.n2 ∧ k0.n2 ≤ 3) ∧ k0.n0 = ((vN 0 x.l : Nat) : Int) ∧ (head3 off x).cs = A ++ (opC k0 ++ B) ∧ (headD ⟨x.l, 0, opC zeroO⟩).cs = opC k0 ∧ (headD ⟨x.l, 0, opC zeroO⟩).l = (head3 off x).l ∧ x.l = [lowB k0.n0, lowB k0.n1, lowB k0.n2] ++ (head3 off x).l) := by
  have hol : ∀ o : OpD, (opC o).length = 30 := opC_len
  unfold head3 headD
  obtain ⟨a1, a2⟩ := num_step (x := x) (y := ⟨x.l, 0, opC zeroO⟩) off 0 1 16 16 (by decide) hx rfl rfl
  by_cases he1 : (sNum off 1 16 16 x).ef = 0
  · obtain ⟨b0, t0, p1, p2, p3, p4, p5, p6, p7⟩ := a2 he1
    have q4 : (sNum off 1 16 16 x).cs = A ++ (opC { zeroO with n0 := (b0.toNat : Int) } ++ B) := by
      rw [p4, hxc]
      have := rowIn_app (B := B) (o := opC zeroO) (r := [.int .i64 (b0.toNat : Int)]) (i := 0) hA (by simp [hol])
      rw [Nat.add_zero] at this
      rw [this]; rfl
    have q5 : (dNum 0 1 16 16 ⟨x.l, 0, opC zeroO⟩).cs = opC { zeroO with n0 := (b0.toNat : Int) } := p5
    have hv : vN 0 x.l = b0.toNat := by rw [p1]; rfl
    obtain ⟨a3, a4⟩ := num_step (x := sNum off 1 16 16 x) (y := dNum 0 1 16 16 ⟨x.l, 0, opC zeroO⟩) (off + 1) 1 0 15 5 (by decide) he1 (a1 ▸ he1) (p7.trans p6.symm)
    generalize hX1 : sNum off 1 16 16 x = x1 at *
    generalize hY1 : dNum 0 1 16 16 ⟨x.l, 0, opC zeroO⟩ = y1 at *
    by_cases he2 : (sNum (off + 1) 0 15 5 x1).ef = 0
    · obtain ⟨b1, t1, r1, r2, r3, r4, r5, r6, r7⟩ := a4 he2
      have s4 : (sNum (off + 1) 0 15 5 x1).cs = A ++ (opC { zeroO with n0 := (b0.toNat : Int), n1 := (b1.toNat : Int) } ++ B) := by
        rw [r4, q4, rowIn_app hA (by simp [hol])]; rfl
      have s5 : (dNum 1 0 15 5 y1).cs = opC { zeroO with n0 := (b0.toNat : Int), n1 := (b1.toNat : Int) } := by rw [r5, q5]; rfl
      obtain ⟨a5, a6⟩ := num_step (x := sNum (off + 1) 0 15 5 x1) (y := dNum 1 0 15 5 y1) (off + 2) 2 0 3 5 (by decide) he2 (a3 ▸ he2) (r7.trans r6.symm)
      generalize hX2 : sNum (off + 1) 0 15 5 x1 = x2 at *
      generalize hY2 : dNum 1 0 15 5 y1 = y2 at *
      refine ⟨a5, fun he3 => ?_⟩
      obtain ⟨b2, t2, u1, u2, u3, u4, u5, u6, u7⟩ := a6 he3
      refine ⟨{ zeroO with n0 := (b0.toNat : Int), n1 := (b1.toNat : Int), n2 := (b2.toNat : Int) }, rfl, (show NumF zeroO by unfold NumF; decide), ⟨by simp; omega, by simp; omega⟩, ⟨by simp, by simp; omega⟩, ⟨by simp, by simp; omega⟩, by rw [hv], ?_, ?_, u7.trans u6.symm, ?_⟩
      · rw [u4, s4, rowIn_app hA (by simp [hol])]; rfl
      · rw [u5, s5]; rfl
      · rw [u6, p1, lowB_u8, lowB_u8, lowB_u8]
        rw [p6] at r1
        rw [r6] at u1
        rw [r1, u1]; rfl
    · have h2 : (dNum 1 0 15 5 y1).e ≠ 0 := by rw [← a3]; exact he2
      rw [sNum_err _ _ _ _ he2, dNum_err _ _ _ _ h2]
      exact ⟨a3, fun h => absurd h he2⟩
  · have h2 : (dNum 0 1 16 16 ⟨x.l, 0, opC zeroO⟩).e ≠ 0 := by rw [← a1]; exact he1
    have h3 : (dNum 1 0 15 5 (dNum 0 1 16 16 ⟨x.l, 0, opC zeroO⟩)).e = (dNum 0 1 16 16 ⟨x.l, 0, opC zeroO⟩).e := dNum_err _ _ _ _ h2
    rw [sNum_err (x := sNum off 1 16 16 x) _ _ _ _ he1, sNum_err (x := sNum off 1 16 16 x) _ _ _ _ he1, dNum_err _ _ _ _ (by rw [h3]; exact h2), h3]
    exact ⟨a1, fun h => absurd h he1⟩
/-- An order read by both sides. -/
theorem order_both {x : FS} {A B : List Value} {off : Nat} (hA : A.length = off) (hx : x.ef = 0) (hxc : x.cs = A ++ (opC zeroO ++ B)) :
    (sOrder off x).ef = (dOrder x.l 0).e ∧ ((sOrder off x).ef = 0 → ∃ o : OpD, OkO o ∧ bareO o = o ∧ (sOrder off x).cs = A ++ (opC o ++ B) ∧ (dOrder x.l 0).cs = opC o ∧ (dOrder x.l 0).l = (sOrder off x).l ∧ x.l = ordL o ++ (sOrder off x).l) := by
  obtain ⟨h1, h2⟩ := head_both hA hx hxc
  unfold sOrder dOrder
  by_cases he : (head3 off x).ef = 0
  · obtain ⟨k0, g1, g2, g3, g4, g5, g6, g7, g8, g9, g10⟩ := h2 he
    have hk : intN (head3 off x).cs[off]? = vN 0 x.l := by
      rw [g7, List.getElem?_append_right (by omega), hA, Nat.sub_self]
      show k0.n0.toNat = _
      rw [g6]; rfl
    rw [hk]
    have hn0 : k0.n0.toNat = vN 0 x.l := by rw [g6]; rfl
    have hnd := uses_nodup (vN 0 x.l)
    have hlt := uses_lt (vN 0 x.l)
    obtain ⟨f1, f2⟩ := fold_both (k0 := k0) hA (usesL (vN 0 x.l)) [] (head3 off x).l (head3 off x) (headD ⟨x.l, 0, opC zeroO⟩) k0 hlt (by simp) (by simpa using hnd) he (h1 ▸ he) g9 g7 g8 ⟨rfl, g1, g2, by simp, by simp⟩
    refine ⟨f1, fun hf => ?_⟩
    obtain ⟨o, c1, c2, c3, c4⟩ := f2 hf
    rw [List.nil_append] at c4
    have e0 : o.n0 = k0.n0 := (by have h : (headO o).n0 = (headO k0).n0 := (by rw [c4.hd]); exact h)
    have e1 : o.n1 = k0.n1 := (by have h : (headO o).n1 = (headO k0).n1 := (by rw [c4.hd]); exact h)
    have e2 : o.n2 = k0.n2 := (by have h : (headO o).n2 = (headO k0).n2 := (by rw [c4.hd]); exact h)
    obtain ⟨m3, m4, m5, m6, mt⟩ := c4.num
    refine ⟨o, ⟨⟨by rw [e0]; exact g3, by rw [e1]; exact g4, by rw [e2]; exact g5, m3, m4, m5, m6⟩, fun h => ?_, fun h => ?_, mt⟩, ?_, c1, c2, c3, ?_⟩
    · rw [e0, hn0, List.contains_iff_mem] at h
      exact (c4.fld 97 h).1 rfl
    · rw [e0, hn0, List.contains_iff_mem] at h
      exact (c4.fld 103 h).2 rfl
    · unfold bareO
      rw [e0, hn0]; exact c4.bare
    · unfold ordL
      rw [e0, e1, e2, hn0, List.append_assoc, ← c4.use, ← g10]
  · have he2 : (headD ⟨x.l, 0, opC zeroO⟩).e ≠ 0 := by rw [← h1]; exact he
    rw [foldO_err _ he, foldD_err _ he2]
    exact ⟨h1, fun h => absurd h he⟩
end Go.Proofs.YtbfefdedjcppaaaGreatDoor

/- Reading a request, and what was read written: the plain law. -/
namespace Go.Proofs.YtbfefdedjcppaaaGreatDoor
open Go.RowKit

/-- A request as the document's cells. -/
def docC (r : RqD) : List Value := [.int .i64 r.verb, .int .i64 r.slot, .int .i64 r.n] ++ (opC r.op ++ (rkR r.key ++ [.int .i64 r.depth]))
theorem rdZ_doc : rdZ = docC zeroQ := by kernel_rfl
theorem z59_rq : z59 = rqC zeroQ := by kernel_rfl
theorem rowIn_whole {o r : List Value} (h : r.length = o.length) : RowIn o 0 r = r := by
  unfold RowIn
  rw [List.take_zero, List.nil_append, Nat.zero_add, h, List.drop_length, List.append_nil]
theorem rq_split58 (x : RqD) : rqC x = ([.int .i64 x.verb, .int .i64 x.slot, .int .i64 x.n] ++ opC x.op ++ (bC x.key).toList) ++ ([.int .i64 x.depth] ++ []) := by simp [rqC, Kx.pC]
theorem doc_split58 (x : RqD) : docC x = ([.int .i64 x.verb, .int .i64 x.slot, .int .i64 x.n] ++ opC x.op ++ rkR x.key) ++ ([.int .i64 x.depth] ++ []) := by simp [docC]
theorem rq_split33 (x : RqD) : rqC x = ([.int .i64 x.verb, .int .i64 x.slot, .int .i64 x.n] ++ opC x.op) ++ ((bC x.key).toList ++ [.int .i64 x.depth]) := by simp [rqC, Kx.pC]
theorem doc_split33 (x : RqD) : docC x = ([.int .i64 x.verb, .int .i64 x.slot, .int .i64 x.n] ++ opC x.op) ++ (rkR x.key ++ [.int .i64 x.depth]) := by simp [docC]
theorem len33 (x : RqD) : ([Value.int .i64 x.verb, .int .i64 x.slot, .int .i64 x.n] ++ opC x.op).length = 33 := by simp [opC_len]
theorem row_d (x : RqD) (d : Int) : RowIn (rqC x) 58 [.int .i64 d] = rqC { x with depth := d } := by
  have hl : ([Value.int .i64 x.verb, .int .i64 x.slot, .int .i64 x.n] ++ opC x.op ++ (bC x.key).toList).length = 58 := by simp [opC_len, bC, x.lk]
  rw [rq_split58, show (58 : Nat) = 58 + 0 from rfl, rowIn_app hl (by simp), rq_split58]
  rfl
theorem row_dd (x : RqD) (d : Int) : RowIn (docC x) 58 [.int .i64 d] = docC { x with depth := d } := by
  have hl : ([Value.int .i64 x.verb, .int .i64 x.slot, .int .i64 x.n] ++ opC x.op ++ rkR x.key).length = 58 := by simp [opC_len, rkR_len _ x.lk]
  rw [doc_split58, show (58 : Nat) = 58 + 0 from rfl, rowIn_app hl (by simp), doc_split58]
  rfl
theorem row_k (x : RqD) (k : List UInt8) (hk : k.length = 25) : RowIn (rqC x) 33 (bC k).toList = rqC { x with key := k, lk := hk } := by
  rw [rq_split33, show (33 : Nat) = 33 + 0 from rfl, rowIn_app (len33 x) (by simp [bC, hk, x.lk]), rowIn_whole (by simp [bC, hk, x.lk]), rq_split33]
theorem row_kd (x : RqD) (k : List UInt8) (hk : k.length = 25) : RowIn (docC x) 33 (rkR k) = docC { x with key := k, lk := hk } := by
  rw [doc_split33, show (33 : Nat) = 33 + 0 from rfl, rowIn_app (len33 x) (by simp [rkR_len _ hk, rkR_len _ x.lk]), rowIn_whole (by simp [rkR_len _ hk, rkR_len _ x.lk]), doc_split33]
theorem row_o (x : RqD) (o : OpD) : RowIn (docC x) 3 (opC o) = docC { x with op := o } := by
  have e : ∀ x : RqD, docC x = [.int .i64 x.verb, .int .i64 x.slot, .int .i64 x.n] ++ (opC x.op ++ (rkR x.key ++ [.int .i64 x.depth])) := fun _ => rfl
  rw [e, show (3 : Nat) = 3 + 0 from rfl, rowIn_app (off := 3) rfl (by simp [opC_len]), rowIn_whole (by simp [opC_len]), e]
/-- Both sides stand alike. -/
structure Both (x : FS) (y : DS) (r : RqD) (l p : List UInt8) : Prop where
  ef : x.ef = 0
  e : y.e = 0
  ll : y.l = x.l
  cs : x.cs = rqC r
  dc : y.cs = docC r
  use : l = p ++ x.l
theorem both_num {x : FS} {y : DS} {r : RqD} {l p : List UInt8} (h : Both x y r l p) (off lo hi ee : Nat) (hee : ee ≠ 0) (f : Int → RqD) (hf : ∀ n, RowIn (rqC r) off [.int .i64 n] = rqC (f n)) (hg : ∀ n, RowIn (docC r) off [.int .i64 n] = docC (f n)) :
    (sNum off lo hi ee x).ef = (dNum off lo hi ee y).e ∧ ((sNum off lo hi ee x).ef = 0 → ∃ b : UInt8, vN y.e y.l = b.toNat ∧ lo ≤ b.toNat ∧ b.toNat ≤ hi ∧ Both (sNum off lo hi ee x) (dNum off lo hi ee y) (f (b.toNat : Int)) l (p ++ [b])) := by
  obtain ⟨h1, h2⟩ := num_step (x := x) (y := y) off off lo hi ee hee h.ef h.e h.ll
  refine ⟨h1, fun he => ?_⟩
  obtain ⟨b, t, g1, g2, g3, g4, g5, g6, g7⟩ := h2 he
  refine ⟨b, by rw [h.e, h.ll, g1]; rfl, g2, g3, he, h1 ▸ he, g7.trans g6.symm, by rw [g4, h.cs, hf], by rw [g5, h.dc, hg], ?_⟩
  rw [h.use, g1, g6]; simp
theorem both_ord {x : FS} {y : DS} {r : RqD} {l p : List UInt8} (h : Both x y r l p) (hr : r.op = zeroO) :
    (sOrder 3 x).ef = (dOrd y).e ∧ ((sOrder 3 x).ef = 0 → ∃ o : OpD, OkO o ∧ bareO o = o ∧ Both (sOrder 3 x) (dOrd y) { r with op := o } l (p ++ ordL o)) := by
  have hc : x.cs = [.int .i64 r.verb, .int .i64 r.slot, .int .i64 r.n] ++ (opC zeroO ++ Kx.pC r.key r.depth) := by rw [h.cs, ← hr]; rfl
  obtain ⟨h1, h2⟩ := order_both (off := 3) rfl h.ef hc
  have hd : dOrd y = ⟨(dOrder x.l 0).l, (dOrder x.l 0).e, RowIn (docC r) 3 (dOrder x.l 0).cs⟩ := by unfold dOrd; rw [h.ll, h.e, h.dc]
  rw [hd]
  refine ⟨h1, fun he => ?_⟩
  obtain ⟨o, g1, g2, g3, g4, g5, g6⟩ := h2 he
  refine ⟨o, g1, g2, he, h1 ▸ he, g5, g3, ?_, ?_⟩
  · show RowIn (docC r) 3 (dOrder x.l 0).cs = _
    rw [g4, row_o]
  · rw [h.use, List.append_assoc, ← g6]
theorem bytB_ok (l : List UInt8) : ∀ k, k ≤ l.length → bytB l 0 k = (l.drop k, 0, l.take k)
  | 0, _ => rfl
  | k + 1, h => by
    have hk : k < l.length := by omega
    have hd := List.drop_eq_getElem_cons hk
    unfold bytB
    rw [bytB_ok l k (by omega)]
    simp only
    rw [hd]
    have h256 := (l[k]).toNat_lt
    refine Prod.ext ?_ (Prod.ext ?_ ?_)
    · rfl
    · show numIE 0 255 0 0 (l[k] :: l.drop (k + 1)) = 0
      unfold numIE
      rw [if_neg (by simp only [byteE, byteV]; omega)]; rfl
    · show l.take k ++ [UInt8.ofNat (l[k]).toNat] = l.take (k + 1)
      rw [List.take_succ_eq_append_getElem hk]
      simp
theorem bytB_bad (l : List UInt8) : ∀ k, l.length < k → (bytB l 0 k).2.1 = 4
  | 0, h => absurd h (Nat.not_lt_zero _)
  | k + 1, h => by
    unfold bytB
    by_cases hk : l.length < k
    · have := bytB_bad l k hk
      show numIE 0 255 0 (bytB l 0 k).2.1 _ = 4
      rw [this]
      unfold numIE eN
      rw [if_neg (by omega), if_pos (by decide)]
    · have e : k = l.length := by omega
      rw [bytB_ok l k (by omega)]
      show numIE 0 255 0 0 (l.drop k) = 4
      rw [e, List.drop_length]
      rfl
theorem allB_pref {p : List UInt8} (h : p.length ≤ 25) : allB p = prefK p := by
  unfold allB prefK ovl z25
  rw [List.take_of_length_le h, List.take_zero, List.nil_append, Nat.zero_add, List.drop_replicate]
theorem pref_take {p : List UInt8} (h : p.length ≤ 25) : (prefK p).take p.length = p := by
  rw [← allB_pref h]
  unfold allB
  simp
theorem cutN_size {d : Nat} (h : d ≤ 5) : Kx.cutN (d : Int) = sizeD d := by
  match d, h with
  | 0, _ | 1, _ | 2, _ | 3, _ | 4, _ | 5, _ => rfl
theorem preB_pref {d : Nat} (h : d ≤ 5) {p : List UInt8} (hp : p.length = sizeD d) : Kx.preB (prefK p) (d : Int) = p := by
  have h25 := sizeD_le d
  unfold Kx.preB
  rw [if_pos (by simp [Kx.depOk]; omega), cutN_size h, ← hp, pref_take (by omega)]
theorem both_pre {x : FS} {y : DS} {r : RqD} {l p : List UInt8} {d : Nat} (h : Both x y r l p) (hd : r.depth = (d : Int)) (hd5 : d ≤ 5) :
    (sPre x).ef = (dPre d y).e ∧ ((sPre x).ef = 0 → ∃ q : List UInt8, q.length = sizeD d ∧ Both (sPre x) (dPre d y) { r with key := prefK q, lk := prefK_len q } l (p ++ q)) := by
  have hi : intN x.cs[58]? = d := by rw [h.cs, rqC_depth, hd]; rfl
  have h25 := sizeD_le d
  unfold sPre dPre preN
  rw [if_pos h.ef, hi, h.e, h.ll, h.dc, h.cs, if_pos rfl]
  by_cases hk : sizeD d ≤ x.l.length
  · rw [bytB_ok _ _ hk]
    have hg : gotB x.l (sizeD d) = x.l.take (sizeD d) := by unfold gotB; rw [Nat.sub_eq_zero_of_le hk]; simp
    have hq : (x.l.take (sizeD d)).length = sizeD d := by rw [List.length_take]; omega
    have hE : endE x.l (sizeD d) = 0 := if_pos hk
    rw [hE]
    refine ⟨rfl, fun _ => ⟨x.l.take (sizeD d), hq, rfl, rfl, rfl, ?_, ?_, ?_⟩⟩
    · show RowIn (rqC r) 33 (bC (prefK (gotB x.l (sizeD d)))).toList = _
      rw [hg, row_k _ _ (prefK_len _)]
    · show RowIn (docC r) 33 (rkR (allB (x.l.take (sizeD d)))) = _
      rw [allB_pref (by omega), row_kd _ _ (prefK_len _)]
    · show l = p ++ x.l.take (sizeD d) ++ x.l.drop (sizeD d)
      rw [List.append_assoc, List.take_append_drop, h.use]
  · have hE : endE x.l (sizeD d) = 4 := if_neg hk
    have hb := bytB_bad x.l (sizeD d) (by omega)
    refine ⟨?_, fun he => ?_⟩
    · show endE x.l (sizeD d) = (bytB x.l 0 (sizeD d)).2.1
      rw [hE, hb]
    · have : endE x.l (sizeD d) = 0 := he
      omega
theorem stepR_err {x : FS} (c : UInt8) (h : x.ef ≠ 0) : stepR x c = x := by
  unfold stepR
  rw [sOrder_err h, sNum_err _ _ _ _ h, sNum_err _ _ _ _ h, sNum_err _ _ _ _ h]
  simp only [sPre, if_neg h, ite_self]
theorem foldR_err (u : List UInt8) {x : FS} (h : x.ef ≠ 0) : u.foldl stepR x = x := by
  induction u with
  | nil => rfl
  | cons c u ih => rw [List.foldl_cons, stepR_err c h]; exact ih
theorem dOrd_err {y : DS} (h : y.e ≠ 0) : (dOrd y).e = y.e := dOrder_err h
theorem dPre_err {y : DS} (d : Nat) (h : y.e ≠ 0) : (dPre d y).e = y.e := by
  unfold dPre preN
  rw [if_neg h]; rfl
/-- A letter's bytes of a request. -/
def fldR (r : RqD) (c : UInt8) : List UInt8 := if c = 111 then ordL r.op else if c = 112 then lowB r.depth :: Kx.preB r.key r.depth else if c = 110 then [lowB r.n] else [lowB r.slot]
def reqL (r : RqD) : List UInt8 := lowB r.verb :: (usesV r.verb.toNat).flatMap (fldR r)
/-- What both sides come to. -/
def Outc (x : FS) (y : DS) (l : List UInt8) : Prop := x.ef = y.e ∧ (x.ef = 0 → ∃ r : RqD, Both x y r l (reqL r) ∧ OkQ r ∧ bareQ r = r)
theorem okQ_mk {v s n d : Int} {o : OpD} {k : List UInt8} {lk : k.length = 25} (hv : 1 ≤ v ∧ v ≤ 10) (hn : 0 ≤ n ∧ n ≤ 63) (hs : 0 ≤ s ∧ s ≤ 1) (hd : 0 ≤ d ∧ d ≤ 5) (ho : v = 1 ∨ v = 10 → OkO o) : OkQ ⟨v, s, n, o, k, d, lk⟩ := ⟨hv, hn, hs, hd, ho⟩
theorem out_bare {x : FS} {y : DS} {l : List UInt8} {b : UInt8} {v : Nat} (hB : Both x y ⟨(v : Int), 0, 0, zeroO, z25, 0, rfl⟩ l [b]) (hlow : lowB (v : Int) = b) (hu : usesV v = []) (hv : 1 ≤ v ∧ v ≤ 10 ∧ v ≠ 1 ∧ v ≠ 10) : Outc x y l := by
  refine ⟨hB.ef.trans hB.e.symm, fun _ => ⟨⟨(v : Int), 0, 0, zeroO, z25, 0, rfl⟩, ?_, okQ_mk ⟨by omega, by omega⟩ (by decide) (by decide) (by decide) (fun h => by omega), ?_⟩⟩
  · have e : reqL ⟨(v : Int), 0, 0, zeroO, z25, 0, rfl⟩ = [b] := by
      show lowB (v : Int) :: (usesV v).flatMap _ = _
      rw [hlow, hu]; rfl
    rw [e]; exact hB
  · show (usesV v).foldl _ _ = _
    rw [hu]; rfl
theorem out_slot {x : FS} {y : DS} {l : List UInt8} {b : UInt8} {v : Nat} (hB : Both x y ⟨(v : Int), 0, 0, zeroO, z25, 0, rfl⟩ l [b]) (hlow : lowB (v : Int) = b) (hv : v = 8 ∨ v = 9) : Outc (sNum 1 0 1 5 x) (dNum 1 0 1 5 y) l := by
  have hv1 : 1 ≤ (v : Int) ∧ (v : Int) ≤ 10 := by omega
  have hv2 : (v : Int) = 1 ∨ (v : Int) = 10 → OkO zeroO := fun h => by omega
  obtain ⟨c1, c2⟩ := both_num hB 1 0 1 5 (by decide) (fun n => ⟨(v : Int), n, 0, zeroO, z25, 0, rfl⟩) (fun n => rfl) (fun n => rfl)
  refine ⟨c1, fun h => ?_⟩
  obtain ⟨d, _, _, g3, g4⟩ := c2 h
  have hu : usesV v = [115] := by
    rcases hv with h | h
    · rw [h]; rfl
    · rw [h]; rfl
  have hd1 : 0 ≤ (d.toNat : Int) ∧ (d.toNat : Int) ≤ 1 := ⟨Int.natCast_nonneg _, Int.ofNat_le.2 g3⟩
  refine ⟨⟨(v : Int), (d.toNat : Int), 0, zeroO, z25, 0, rfl⟩, ?_, okQ_mk hv1 (by decide) hd1 (by decide) hv2, ?_⟩
  · have e : reqL ⟨(v : Int), (d.toNat : Int), 0, zeroO, z25, 0, rfl⟩ = [b] ++ [d] := by
      show lowB (v : Int) :: (usesV v).flatMap _ = _
      rw [hlow, hu]
      show b :: ([lowB (d.toNat : Int)] ++ []) = _
      rw [lowB_u8]; rfl
    rw [e]; exact g4
  · show (usesV v).foldl _ _ = _
    rw [hu]; rfl
theorem outc_all (l : List UInt8) : Outc (endR l) (dRead l) l := by
  have h0 : Both ⟨z59, l, 0, 0⟩ ⟨l, 0, rdZ⟩ zeroQ l [] := ⟨rfl, rfl, rfl, z59_rq, rdZ_doc, rfl⟩
  obtain ⟨a1, a2⟩ := both_num h0 0 1 10 16 (by decide) (fun n => ⟨n, 0, 0, zeroO, z25, 0, rfl⟩) (fun _ => rfl) (fun _ => rfl)
  by_cases he : (startR l).ef = 0
  · obtain ⟨b, hv, hb1, hb2, hB⟩ := a2 he
    have hv : vN 0 l = b.toNat := hv
    have hB : Both (startR l) (dNum 0 1 10 16 ⟨l, 0, rdZ⟩) ⟨(b.toNat : Int), 0, 0, zeroO, z25, 0, rfl⟩ l [b] := hB
    have hi : intN (startR l).cs[0]? = b.toNat := by rw [hB.cs]; rfl
    have hend : endR l = (usesV b.toNat).foldl stepR (startR l) := by unfold endR; rw [hi]
    have hlow : lowB (b.toNat : Int) = b := lowB_u8 b
    have hdr : dRead l = if b.toNat = 1 then dOrd (dNum 0 1 10 16 ⟨l, 0, rdZ⟩) else if b.toNat = 5 then dPre (vN (dNum 0 1 10 16 ⟨l, 0, rdZ⟩).e (dNum 0 1 10 16 ⟨l, 0, rdZ⟩).l) (dNum 58 0 5 5 (dNum 0 1 10 16 ⟨l, 0, rdZ⟩)) else if b.toNat = 6 then dNum 2 0 63 5 (dNum 0 1 10 16 ⟨l, 0, rdZ⟩) else if b.toNat = 8 ∨ b.toNat = 9 then dNum 1 0 1 5 (dNum 0 1 10 16 ⟨l, 0, rdZ⟩) else if b.toNat = 10 then dOrd (dNum 1 0 1 5 (dNum 0 1 10 16 ⟨l, 0, rdZ⟩)) else dNum 0 1 10 16 ⟨l, 0, rdZ⟩ := by
      unfold dRead; rw [hv]
    generalize startR l = x at *
    generalize dNum 0 1 10 16 ⟨l, 0, rdZ⟩ = y at *
    rw [hend, hdr]
    clear hend hdr hi hv a1 a2 h0
    have hz : OkO zeroO → False := fun h => absurd h.num.a0.1 (by decide)
    generalize hn : b.toNat = v at *
    have hbl : ∀ (r : RqD), r.verb = (v : Int) → lowB r.verb = b := fun r hr => by rw [hr]; exact hlow
    obtain h1 | h1 | h1 | h1 | h1 | h1 | h1 | h1 | h1 | h1 : v = 1 ∨ v = 2 ∨ v = 3 ∨ v = 4 ∨ v = 5 ∨ v = 6 ∨ v = 7 ∨ v = 8 ∨ v = 9 ∨ v = 10 := by omega
    · subst h1
      show Outc (stepR x 111) (dOrd y) l
      show Outc (sOrder 3 x) (dOrd y) l
      obtain ⟨c1, c2⟩ := both_ord hB rfl
      refine ⟨c1, fun h => ?_⟩
      obtain ⟨o, g1, g2, g3⟩ := c2 h
      refine ⟨⟨((1 : Nat) : Int), 0, 0, o, z25, 0, rfl⟩, ?_, okQ_mk (by decide) (by decide) (by decide) (by decide) (fun _ => g1), ?_⟩
      · have e : reqL ⟨((1 : Nat) : Int), 0, 0, o, z25, 0, rfl⟩ = [b] ++ ordL o := by
          show lowB ((1 : Nat) : Int) :: (ordL o ++ []) = _
          rw [hlow, List.append_nil]; rfl
        rw [e]; exact g3
      · show (⟨((1 : Nat) : Int), 0, 0, bareO o, z25, 0, rfl⟩ : RqD) = _
        rw [g2]
    · subst h1; exact out_bare hB hlow (by decide) (by decide)
    · subst h1; exact out_bare hB hlow (by decide) (by decide)
    · subst h1; exact out_bare hB hlow (by decide) (by decide)
    · subst h1
      show Outc (sPre (sNum 58 0 5 5 x)) (dPre (vN y.e y.l) (dNum 58 0 5 5 y)) l
      obtain ⟨c1, c2⟩ := both_num hB 58 0 5 5 (by decide) (fun n => ⟨((5 : Nat) : Int), 0, 0, zeroO, z25, n, rfl⟩) (fun n => row_d _ n) (fun n => row_dd _ n)
      by_cases he2 : (sNum 58 0 5 5 x).ef = 0
      · obtain ⟨d, g1, _, g3, g4⟩ := c2 he2
        rw [g1]
        obtain ⟨d1, d2⟩ := both_pre (d := d.toNat) g4 rfl g3
        refine ⟨d1, fun h => ?_⟩
        obtain ⟨q, f1, f2⟩ := d2 h
        have hq := preB_pref g3 f1
        refine ⟨⟨((5 : Nat) : Int), 0, 0, zeroO, prefK q, (d.toNat : Int), prefK_len q⟩, ?_, okQ_mk (by decide) (by decide) (by decide) ⟨by omega, by omega⟩ (fun h => by omega), ?_⟩
        · have e : reqL ⟨((5 : Nat) : Int), 0, 0, zeroO, prefK q, (d.toNat : Int), prefK_len q⟩ = [b] ++ [d] ++ q := by
            show lowB ((5 : Nat) : Int) :: ((lowB (d.toNat : Int) :: Kx.preB (prefK q) (d.toNat : Int)) ++ []) = _
            rw [hlow, hq, lowB_u8, List.append_nil]; rfl
          rw [e]; exact f2
        · have e : ∀ k : List UInt8, k = q → (⟨((5 : Nat) : Int), 0, 0, zeroO, prefK k, (d.toNat : Int), prefK_len k⟩ : RqD) = ⟨((5 : Nat) : Int), 0, 0, zeroO, prefK q, (d.toNat : Int), prefK_len q⟩ := fun k hk => by subst hk; rfl
          exact e _ hq
      · have h2 : (dNum 58 0 5 5 y).e ≠ 0 := by rw [← c1]; exact he2
        refine ⟨?_, fun h => ?_⟩
        · rw [dPre_err _ h2, show sPre (sNum 58 0 5 5 x) = sNum 58 0 5 5 x from if_neg he2, c1]
        · rw [show sPre (sNum 58 0 5 5 x) = sNum 58 0 5 5 x from if_neg he2] at h
          exact absurd h he2
    · subst h1
      show Outc (sNum 2 0 63 5 x) (dNum 2 0 63 5 y) l
      obtain ⟨c1, c2⟩ := both_num hB 2 0 63 5 (by decide) (fun n => ⟨((6 : Nat) : Int), 0, n, zeroO, z25, 0, rfl⟩) (fun n => rfl) (fun n => rfl)
      refine ⟨c1, fun h => ?_⟩
      obtain ⟨d, _, _, g3, g4⟩ := c2 h
      refine ⟨⟨((6 : Nat) : Int), 0, (d.toNat : Int), zeroO, z25, 0, rfl⟩, ?_, okQ_mk (by decide) ⟨by omega, by omega⟩ (by decide) (by decide) (fun h => by omega), rfl⟩
      have e : reqL ⟨((6 : Nat) : Int), 0, (d.toNat : Int), zeroO, z25, 0, rfl⟩ = [b] ++ [d] := by
        show lowB ((6 : Nat) : Int) :: ([lowB (d.toNat : Int)] ++ []) = _
        rw [hlow, lowB_u8]; rfl
      rw [e]; exact g4
    · subst h1; exact out_bare hB hlow (by decide) (by decide)
    · subst h1; exact out_slot hB hlow (.inl rfl)
    · subst h1; exact out_slot hB hlow (.inr rfl)
    · subst h1
      show Outc (sOrder 3 (sNum 1 0 1 5 x)) (dOrd (dNum 1 0 1 5 y)) l
      obtain ⟨c1, c2⟩ := both_num hB 1 0 1 5 (by decide) (fun n => ⟨((10 : Nat) : Int), n, 0, zeroO, z25, 0, rfl⟩) (fun n => rfl) (fun n => rfl)
      by_cases he2 : (sNum 1 0 1 5 x).ef = 0
      · obtain ⟨d, _, _, g3, g4⟩ := c2 he2
        obtain ⟨d1, d2⟩ := both_ord g4 rfl
        refine ⟨d1, fun h => ?_⟩
        obtain ⟨o, f1, f2, f3⟩ := d2 h
        refine ⟨⟨((10 : Nat) : Int), (d.toNat : Int), 0, o, z25, 0, rfl⟩, ?_, okQ_mk (by decide) (by decide) ⟨by omega, by omega⟩ (by decide) (fun _ => f1), ?_⟩
        · have e : reqL ⟨((10 : Nat) : Int), (d.toNat : Int), 0, o, z25, 0, rfl⟩ = [b] ++ [d] ++ ordL o := by
            show lowB ((10 : Nat) : Int) :: ([lowB (d.toNat : Int)] ++ (ordL o ++ [])) = _
            rw [hlow, lowB_u8, List.append_nil]; rfl
          rw [e]; exact f3
        · show (⟨((10 : Nat) : Int), (d.toNat : Int), 0, bareO o, z25, 0, rfl⟩ : RqD) = _
          rw [f2]
      · have h2 : (dNum 1 0 1 5 y).e ≠ 0 := by rw [← c1]; exact he2
        rw [sOrder_err he2]
        refine ⟨?_, fun h => absurd h he2⟩
        rw [dOrd_err h2, c1]
  · have h2 : (dNum 0 1 10 16 ⟨l, 0, rdZ⟩).e ≠ 0 := by rw [← a1]; exact he
    have hend : endR l = startR l := foldR_err _ he
    rw [hend]
    refine ⟨?_, fun h => absurd h he⟩
    have hs : (startR l).ef = (dNum 0 1 10 16 ⟨l, 0, rdZ⟩).e := a1
    rw [hs]
    unfold dRead
    generalize dNum 0 1 10 16 ⟨l, 0, rdZ⟩ = y at *
    have h3 : (dNum 1 0 1 5 y).e = y.e := dNum_err _ _ _ _ h2
    have h4 : (dNum 58 0 5 5 y).e = y.e := dNum_err _ _ _ _ h2
    simp only
    split
    · exact (dOrd_err h2).symm
    split
    · rw [dPre_err _ (by rw [h4]; exact h2), h4]
    split
    · exact (dNum_err _ _ _ _ h2).symm
    split
    · exact h3.symm
    split
    · rw [dOrd_err (by rw [h3]; exact h2), h3]
    · rfl
theorem reads_plain (l : List UInt8) : readE l = dE l ∧ (readE l = 0 → ∃ r : RqD, readC l = rqC r ∧ dC l = docC r ∧ OkQ r ∧ bareQ r = r ∧ l = reqL r) := by
  obtain ⟨h1, h2⟩ := outc_all l
  have hE : readE l = dE l := by
    unfold readE dE
    by_cases he : (endR l).ef = 0
    · obtain ⟨r, hB, _⟩ := h2 he
      rw [hB.ll, ← h1]
    · rw [if_neg (fun h => he h.1), if_neg (fun h => he (h1.trans h.1)), h1]
  refine ⟨hE, fun h0 => ?_⟩
  have hd0 : dE l = 0 := hE ▸ h0
  have he : (endR l).ef = 0 ∧ (endR l).l = [] := by
    unfold readE at h0
    split at h0
    · cases h0
    · rename_i hc
      refine ⟨h0, ?_⟩
      apply Classical.byContradiction
      exact fun hn => hc ⟨h0, hn⟩
  obtain ⟨r, hB, hk, hb⟩ := h2 he.1
  refine ⟨r, ?_, ?_, hk, hb, ?_⟩
  · unfold readC; rw [if_pos h0, hB.cs]
  · unfold dC; rw [if_pos hd0, hB.dc]
  · have := hB.use
    rwa [he.2, List.append_nil] at this
end Go.Proofs.YtbfefdedjcppaaaGreatDoor

/- What was read is written as it was: the plain law. -/
namespace Go.Proofs.YtbfefdedjcppaaaGreatDoor
open Go.RowKit

theorem wStep_fit {room : Nat} {s : List UInt8 × Nat} {u : List UInt8} (h : s.2 = 0) (hl : s.1.length + u.length ≤ room) : wStep room s u = (s.1 ++ u, 0) := by
  unfold wStep
  rw [if_pos ⟨h, hl⟩, if_neg (fun h' => by omega), h]
theorem wBytes_fit {room : Nat} (xs : List UInt8) : ∀ {s : List UInt8 × Nat}, s.2 = 0 → s.1.length + xs.length ≤ room → wBytes room s xs = (s.1 ++ xs, 0) := by
  induction xs with
  | nil => intro s h _; show s = _; rw [List.append_nil, ← h]
  | cons b xs ih =>
    intro s h hl
    rw [List.length_cons] at hl
    show wBytes room (wStep room s [b]) xs = _
    rw [wStep_fit h (by simp; omega), ih rfl (by simp; omega), List.append_assoc]
    rfl
theorem foldW_fit {room : Nat} (f : UInt8 → List UInt8) (u : List UInt8) : ∀ {s : List UInt8 × Nat}, s.2 = 0 → s.1.length + (u.flatMap f).length ≤ room → u.foldl (fun s c => wStep room s (f c)) s = (s.1 ++ u.flatMap f, 0) := by
  induction u with
  | nil => intro s h _; show s = _; rw [List.flatMap_nil, List.append_nil, ← h]
  | cons b u ih =>
    intro s h hl
    rw [List.flatMap_cons, List.length_append] at hl
    rw [List.foldl_cons, wStep_fit h (by omega), ih rfl (by simp only [List.length_append]; omega), List.flatMap_cons, List.append_assoc]
theorem wOrder_fit {room : Nat} {s : List UInt8 × Nat} {o : OpD} (h : s.2 = 0) (hl : s.1.length + (ordL o).length ≤ room) : wOrder room s o = (s.1 ++ ordL o, 0) := by
  have e : (ordL o).length = 3 + ((usesL o.n0.toNat).flatMap (fieldO o)).length := by unfold ordL; rw [List.length_append]; rfl
  unfold wOrder
  rw [wBytes_fit _ h (by show _ + 3 ≤ _; omega), foldW_fit _ _ rfl (by simp only [List.length_append]; show _ + 3 + _ ≤ _; omega), List.append_assoc]
  rfl
theorem fieldQ_fit {r : RqD} {s : List UInt8 × Nat} {c : UInt8} (h : s.2 = 0) (hl : s.1.length + (fldR r c).length ≤ 4096) : fieldQ r s c = (s.1 ++ fldR r c, 0) := by
  unfold fieldQ
  unfold fldR at hl ⊢
  split
  · rw [if_pos (by assumption)] at hl
    exact wOrder_fit h hl
  rename_i h1
  rw [if_neg h1] at hl
  split
  · rename_i h2
    rw [if_pos h2, List.length_cons] at hl
    rw [wBytes_fit [lowB r.depth] h (by simp; omega), wBytes_fit _ rfl (by simp only [List.length_append]; simp; omega), List.append_assoc]
    rfl
  rename_i h2
  rw [if_neg h2] at hl
  split
  · rename_i h3
    rw [if_pos h3] at hl
    exact wBytes_fit _ h hl
  · rename_i h3
    rw [if_neg h3] at hl
    exact wBytes_fit _ h hl
theorem foldQ_fit {r : RqD} (u : List UInt8) : ∀ {s : List UInt8 × Nat}, s.2 = 0 → s.1.length + (u.flatMap (fldR r)).length ≤ 4096 → u.foldl (fieldQ r) s = (s.1 ++ u.flatMap (fldR r), 0) := by
  induction u with
  | nil => intro s h _; show s = _; rw [List.flatMap_nil, List.append_nil, ← h]
  | cons b u ih =>
    intro s h hl
    rw [List.flatMap_cons, List.length_append] at hl
    rw [List.foldl_cons, fieldQ_fit h (by omega), ih rfl (by simp only [List.length_append]; omega), List.flatMap_cons, List.append_assoc]
theorem wReq_fit {r : RqD} (hl : (reqL r).length ≤ 4096) : wReq r = (reqL r, 0) := by
  unfold reqL at hl
  rw [List.length_cons] at hl
  unfold wReq
  rw [wBytes_fit _ rfl (by show 0 + 1 ≤ 4096; omega), foldQ_fit _ rfl (by simp only [List.length_append]; simp only [List.length_nil, List.length_cons]; omega)]
  rfl
theorem bare_op {r : RqD} (hq : OkQ r) (hb : bareQ r = r) (hn : ¬ (r.verb = 1 ∨ r.verb = 10)) : r.op = zeroO := by
  have hv := hq.v
  have h2 : (bareQ r).op = zeroO := by
    obtain h | h | h | h | h | h | h | h : r.verb = 2 ∨ r.verb = 3 ∨ r.verb = 4 ∨ r.verb = 5 ∨ r.verb = 6 ∨ r.verb = 7 ∨ r.verb = 8 ∨ r.verb = 9 := by omega
    all_goals (unfold bareQ; rw [h]; rfl)
  rw [hb] at h2
  exact h2
/-- What was read, and what it is written as. -/
theorem reads_back (l : List UInt8) (hl : l.length ≤ 1300) (h0 : readE l = 0) : ∃ r : RqD, readC l = rqC r ∧ dC l = docC r ∧ 0 ≤ r.verb ∧ 0 ≤ r.op.n0 ∧ bareQ r = r ∧ OkQ r ∧ r.op.text.size ≤ 1200 ∧ (wReq r).2 = 0 ∧ endW (wReq r) = l := by
  obtain ⟨_, h⟩ := reads_plain l
  obtain ⟨r, h1, h2, h3, h4, h5⟩ := h h0
  have hw : wReq r = (l, 0) := by rw [wReq_fit (by rw [← h5]; omega), ← h5]
  have hv := h3.v
  have hz : 0 ≤ r.op.n0 ∧ r.op.text.size ≤ 1200 := by
    by_cases hc : r.verb = 1 ∨ r.verb = 10
    · have ho := h3.o hc
      have := ho.num.a0
      exact ⟨by omega, ho.tx⟩
    · rw [bare_op h3 h4 hc]
      exact ⟨by decide, by decide⟩
  refine ⟨r, h1, h2, by omega, hz.1, h4, h3, hz.2, by rw [hw], ?_⟩
  unfold endW
  rw [hw, if_pos rfl]
end Go.Proofs.YtbfefdedjcppaaaGreatDoor

/- A request of the document's is equal to itself; the law's Of. -/
namespace Go.Proofs.YtbfefdedjcppaaaGreatDoor
open Go.RowKit

theorem partRK0 (a0 a1 a2 a3 a4 a5 a6 a7 a8 a9 a10 a11 a12 a13 a14 a15 a16 a17 a18 a19 a20 a21 a22 a23 a24 : UInt8) (w : World) : (part 3 (rkR [a0, a1, a2, a3, a4, a5, a6, a7, a8, a9, a10, a11, a12, a13, a14, a15, a16, a17, a18, a19, a20, a21, a22, a23, a24]).toArray 0).run Tryz.prog w = .ok (.int .i64 (a0.toNat : Int)) w := by kernel_rfl
theorem partRK1 (a0 a1 a2 a3 a4 a5 a6 a7 a8 a9 a10 a11 a12 a13 a14 a15 a16 a17 a18 a19 a20 a21 a22 a23 a24 : UInt8) (w : World) : (part 3 (rkR [a0, a1, a2, a3, a4, a5, a6, a7, a8, a9, a10, a11, a12, a13, a14, a15, a16, a17, a18, a19, a20, a21, a22, a23, a24]).toArray 1).run Tryz.prog w = .ok (.int .i64 (a1.toNat : Int)) w := by kernel_rfl
theorem partRK2 (a0 a1 a2 a3 a4 a5 a6 a7 a8 a9 a10 a11 a12 a13 a14 a15 a16 a17 a18 a19 a20 a21 a22 a23 a24 : UInt8) (w : World) : (part 3 (rkR [a0, a1, a2, a3, a4, a5, a6, a7, a8, a9, a10, a11, a12, a13, a14, a15, a16, a17, a18, a19, a20, a21, a22, a23, a24]).toArray 2).run Tryz.prog w = .ok (.int .i64 (a2.toNat : Int)) w := by kernel_rfl
theorem partRK3 (a0 a1 a2 a3 a4 a5 a6 a7 a8 a9 a10 a11 a12 a13 a14 a15 a16 a17 a18 a19 a20 a21 a22 a23 a24 : UInt8) (w : World) : (part 23 (rkR [a0, a1, a2, a3, a4, a5, a6, a7, a8, a9, a10, a11, a12, a13, a14, a15, a16, a17, a18, a19, a20, a21, a22, a23, a24]).toArray 3).run Tryz.prog w = .ok (.agg (bC [a3, a4, a5, a6, a7, a8, a9, a10, a11, a12, a13, a14])) w := by kernel_rfl
theorem partRK4 (a0 a1 a2 a3 a4 a5 a6 a7 a8 a9 a10 a11 a12 a13 a14 a15 a16 a17 a18 a19 a20 a21 a22 a23 a24 : UInt8) (w : World) : (part 40 (rkR [a0, a1, a2, a3, a4, a5, a6, a7, a8, a9, a10, a11, a12, a13, a14, a15, a16, a17, a18, a19, a20, a21, a22, a23, a24]).toArray 15).run Tryz.prog w = .ok (.agg (bC [a15, a16, a17, a18, a19, a20, a21, a22, a23, a24])) w := by kernel_rfl
theorem selfRK (w : World) (n : Nat) (k : List UInt8) (hk : k.length = 25) : (Op.equalIn (n + 4) 44 (.agg (rkR k).toArray) (.agg (rkR k).toArray)).run Tryz.prog w = .ok true w := by
  obtain ⟨a0, a1, a2, a3, a4, a5, a6, a7, a8, a9, a10, a11, a12, a13, a14, a15, a16, a17, a18, a19, a20, a21, a22, a23, a24, rfl⟩ := Kx.list25 k hk
  rw [run_equalIn_struct w (n + 3) 44 _ _ (by kernel_rfl) (by kernel_rfl)]
  have q0 := run_equalIn_int (P := Tryz.prog) w (n + 2) 3 .i64 .i64 (a0.toNat : Int) (a0.toNat : Int) Tryz.underlying3
  have q1 := run_equalIn_int (P := Tryz.prog) w (n + 2) 3 .i64 .i64 (a1.toNat : Int) (a1.toNat : Int) Tryz.underlying3
  have q2 := run_equalIn_int (P := Tryz.prog) w (n + 2) 3 .i64 .i64 (a2.toNat : Int) (a2.toNat : Int) Tryz.underlying3
  have q3 := Kx.run_eqIn w 23 12 (n + 1) Tryz.underlying23 [a3, a4, a5, a6, a7, a8, a9, a10, a11, a12, a13, a14] [a3, a4, a5, a6, a7, a8, a9, a10, a11, a12, a13, a14] rfl rfl
  have q4 := Kx.run_eqIn w 40 10 (n + 1) Tryz.underlying40 [a15, a16, a17, a18, a19, a20, a21, a22, a23, a24] [a15, a16, a17, a18, a19, a20, a21, a22, a23, a24] rfl rfl
  simp only [beq_self_eq_true] at q0 q1 q2 q3 q4
  simp only [Program.fieldsOf, Tryz.underlying44, Op.eqFields]
  simp [partRK0, partRK1, partRK2, partRK3, partRK4, q0, q1, q2, q3, q4]
theorem partRO0 (m0 m1 m2 m3 m4 m5 m6 : Int) (b0 b1 b2 b3 b4 b5 b6 b7 b8 b9 b10 b11 c0 c1 c2 c3 c4 c5 c6 c7 c8 c9 : UInt8) (s : ByteArray) (w : World) : (part 3 (opC ⟨m0, m1, m2, m3, m4, m5, m6, [b0, b1, b2, b3, b4, b5, b6, b7, b8, b9, b10, b11], [c0, c1, c2, c3, c4, c5, c6, c7, c8, c9], s, rfl, rfl⟩).toArray 0).run Tryz.prog w = .ok (.int .i64 m0) w := by kernel_rfl
theorem partRO1 (m0 m1 m2 m3 m4 m5 m6 : Int) (b0 b1 b2 b3 b4 b5 b6 b7 b8 b9 b10 b11 c0 c1 c2 c3 c4 c5 c6 c7 c8 c9 : UInt8) (s : ByteArray) (w : World) : (part 3 (opC ⟨m0, m1, m2, m3, m4, m5, m6, [b0, b1, b2, b3, b4, b5, b6, b7, b8, b9, b10, b11], [c0, c1, c2, c3, c4, c5, c6, c7, c8, c9], s, rfl, rfl⟩).toArray 1).run Tryz.prog w = .ok (.int .i64 m1) w := by kernel_rfl
theorem partRO2 (m0 m1 m2 m3 m4 m5 m6 : Int) (b0 b1 b2 b3 b4 b5 b6 b7 b8 b9 b10 b11 c0 c1 c2 c3 c4 c5 c6 c7 c8 c9 : UInt8) (s : ByteArray) (w : World) : (part 3 (opC ⟨m0, m1, m2, m3, m4, m5, m6, [b0, b1, b2, b3, b4, b5, b6, b7, b8, b9, b10, b11], [c0, c1, c2, c3, c4, c5, c6, c7, c8, c9], s, rfl, rfl⟩).toArray 2).run Tryz.prog w = .ok (.int .i64 m2) w := by kernel_rfl
theorem partRO3 (m0 m1 m2 m3 m4 m5 m6 : Int) (b0 b1 b2 b3 b4 b5 b6 b7 b8 b9 b10 b11 c0 c1 c2 c3 c4 c5 c6 c7 c8 c9 : UInt8) (s : ByteArray) (w : World) : (part 3 (opC ⟨m0, m1, m2, m3, m4, m5, m6, [b0, b1, b2, b3, b4, b5, b6, b7, b8, b9, b10, b11], [c0, c1, c2, c3, c4, c5, c6, c7, c8, c9], s, rfl, rfl⟩).toArray 3).run Tryz.prog w = .ok (.int .i64 m3) w := by kernel_rfl
theorem partRO4 (m0 m1 m2 m3 m4 m5 m6 : Int) (b0 b1 b2 b3 b4 b5 b6 b7 b8 b9 b10 b11 c0 c1 c2 c3 c4 c5 c6 c7 c8 c9 : UInt8) (s : ByteArray) (w : World) : (part 3 (opC ⟨m0, m1, m2, m3, m4, m5, m6, [b0, b1, b2, b3, b4, b5, b6, b7, b8, b9, b10, b11], [c0, c1, c2, c3, c4, c5, c6, c7, c8, c9], s, rfl, rfl⟩).toArray 4).run Tryz.prog w = .ok (.int .i64 m4) w := by kernel_rfl
theorem partRO5 (m0 m1 m2 m3 m4 m5 m6 : Int) (b0 b1 b2 b3 b4 b5 b6 b7 b8 b9 b10 b11 c0 c1 c2 c3 c4 c5 c6 c7 c8 c9 : UInt8) (s : ByteArray) (w : World) : (part 3 (opC ⟨m0, m1, m2, m3, m4, m5, m6, [b0, b1, b2, b3, b4, b5, b6, b7, b8, b9, b10, b11], [c0, c1, c2, c3, c4, c5, c6, c7, c8, c9], s, rfl, rfl⟩).toArray 5).run Tryz.prog w = .ok (.int .i64 m5) w := by kernel_rfl
theorem partRO6 (m0 m1 m2 m3 m4 m5 m6 : Int) (b0 b1 b2 b3 b4 b5 b6 b7 b8 b9 b10 b11 c0 c1 c2 c3 c4 c5 c6 c7 c8 c9 : UInt8) (s : ByteArray) (w : World) : (part 3 (opC ⟨m0, m1, m2, m3, m4, m5, m6, [b0, b1, b2, b3, b4, b5, b6, b7, b8, b9, b10, b11], [c0, c1, c2, c3, c4, c5, c6, c7, c8, c9], s, rfl, rfl⟩).toArray 6).run Tryz.prog w = .ok (.int .i64 m6) w := by kernel_rfl
theorem partRO7 (m0 m1 m2 m3 m4 m5 m6 : Int) (b0 b1 b2 b3 b4 b5 b6 b7 b8 b9 b10 b11 c0 c1 c2 c3 c4 c5 c6 c7 c8 c9 : UInt8) (s : ByteArray) (w : World) : (part 23 (opC ⟨m0, m1, m2, m3, m4, m5, m6, [b0, b1, b2, b3, b4, b5, b6, b7, b8, b9, b10, b11], [c0, c1, c2, c3, c4, c5, c6, c7, c8, c9], s, rfl, rfl⟩).toArray 7).run Tryz.prog w = .ok (.agg (bC [b0, b1, b2, b3, b4, b5, b6, b7, b8, b9, b10, b11])) w := by kernel_rfl
theorem partRO8 (m0 m1 m2 m3 m4 m5 m6 : Int) (b0 b1 b2 b3 b4 b5 b6 b7 b8 b9 b10 b11 c0 c1 c2 c3 c4 c5 c6 c7 c8 c9 : UInt8) (s : ByteArray) (w : World) : (part 40 (opC ⟨m0, m1, m2, m3, m4, m5, m6, [b0, b1, b2, b3, b4, b5, b6, b7, b8, b9, b10, b11], [c0, c1, c2, c3, c4, c5, c6, c7, c8, c9], s, rfl, rfl⟩).toArray 19).run Tryz.prog w = .ok (.agg (bC [c0, c1, c2, c3, c4, c5, c6, c7, c8, c9])) w := by kernel_rfl
theorem partRO9 (m0 m1 m2 m3 m4 m5 m6 : Int) (b0 b1 b2 b3 b4 b5 b6 b7 b8 b9 b10 b11 c0 c1 c2 c3 c4 c5 c6 c7 c8 c9 : UInt8) (s : ByteArray) (w : World) : (part 9 (opC ⟨m0, m1, m2, m3, m4, m5, m6, [b0, b1, b2, b3, b4, b5, b6, b7, b8, b9, b10, b11], [c0, c1, c2, c3, c4, c5, c6, c7, c8, c9], s, rfl, rfl⟩).toArray 29).run Tryz.prog w = .ok (.string s) w := by kernel_rfl
theorem selfRO (w : World) (n : Nat) (o : OpD) : (Op.equalIn (n + 4) 42 (.agg (opC o).toArray) (.agg (opC o).toArray)).run Tryz.prog w = .ok true w := by
  obtain ⟨m0, m1, m2, m3, m4, m5, m6, na, ta, s, hn, ht⟩ := o
  obtain ⟨b0, b1, b2, b3, b4, b5, b6, b7, b8, b9, b10, b11, rfl⟩ := twelve na hn
  obtain ⟨c0, c1, c2, c3, c4, c5, c6, c7, c8, c9, rfl⟩ := ten ta ht
  rw [run_equalIn_struct w (n + 3) 42 _ _ (by kernel_rfl) (by kernel_rfl)]
  have q0 := run_equalIn_int (P := Tryz.prog) w (n + 2) 3 .i64 .i64 m0 m0 Tryz.underlying3
  have q1 := run_equalIn_int (P := Tryz.prog) w (n + 2) 3 .i64 .i64 m1 m1 Tryz.underlying3
  have q2 := run_equalIn_int (P := Tryz.prog) w (n + 2) 3 .i64 .i64 m2 m2 Tryz.underlying3
  have q3 := run_equalIn_int (P := Tryz.prog) w (n + 2) 3 .i64 .i64 m3 m3 Tryz.underlying3
  have q4 := run_equalIn_int (P := Tryz.prog) w (n + 2) 3 .i64 .i64 m4 m4 Tryz.underlying3
  have q5 := run_equalIn_int (P := Tryz.prog) w (n + 2) 3 .i64 .i64 m5 m5 Tryz.underlying3
  have q6 := run_equalIn_int (P := Tryz.prog) w (n + 2) 3 .i64 .i64 m6 m6 Tryz.underlying3
  have q7 := Kx.run_eqIn w 23 12 (n + 1) Tryz.underlying23 [b0, b1, b2, b3, b4, b5, b6, b7, b8, b9, b10, b11] [b0, b1, b2, b3, b4, b5, b6, b7, b8, b9, b10, b11] rfl rfl
  have q8 := Kx.run_eqIn w 40 10 (n + 1) Tryz.underlying40 [c0, c1, c2, c3, c4, c5, c6, c7, c8, c9] [c0, c1, c2, c3, c4, c5, c6, c7, c8, c9] rfl rfl
  have q9 := run_equalIn_string (P := Tryz.prog) w (n + 2) 9 s s Tryz.underlying9
  simp only [beq_self_eq_true] at q0 q1 q2 q3 q4 q5 q6 q7 q8 q9
  simp only [Program.fieldsOf, Tryz.underlying42, Op.eqFields]
  simp [partRO0, partRO1, partRO2, partRO3, partRO4, partRO5, partRO6, partRO7, partRO8, partRO9, q0, q1, q2, q3, q4, q5, q6, q7, q8, q9]
theorem partRQ0 (v0 v1 v2 v3 : Int) (m0 m1 m2 m3 m4 m5 m6 : Int) (b0 b1 b2 b3 b4 b5 b6 b7 b8 b9 b10 b11 c0 c1 c2 c3 c4 c5 c6 c7 c8 c9 : UInt8) (s : ByteArray) (a0 a1 a2 a3 a4 a5 a6 a7 a8 a9 a10 a11 a12 a13 a14 a15 a16 a17 a18 a19 a20 a21 a22 a23 a24 : UInt8) (w : World) : (part 3 (docC ⟨v0, v1, v2, ⟨m0, m1, m2, m3, m4, m5, m6, [b0, b1, b2, b3, b4, b5, b6, b7, b8, b9, b10, b11], [c0, c1, c2, c3, c4, c5, c6, c7, c8, c9], s, rfl, rfl⟩, [a0, a1, a2, a3, a4, a5, a6, a7, a8, a9, a10, a11, a12, a13, a14, a15, a16, a17, a18, a19, a20, a21, a22, a23, a24], v3, rfl⟩).toArray 0).run Tryz.prog w = .ok (.int .i64 v0) w := by kernel_rfl
theorem partRQ1 (v0 v1 v2 v3 : Int) (m0 m1 m2 m3 m4 m5 m6 : Int) (b0 b1 b2 b3 b4 b5 b6 b7 b8 b9 b10 b11 c0 c1 c2 c3 c4 c5 c6 c7 c8 c9 : UInt8) (s : ByteArray) (a0 a1 a2 a3 a4 a5 a6 a7 a8 a9 a10 a11 a12 a13 a14 a15 a16 a17 a18 a19 a20 a21 a22 a23 a24 : UInt8) (w : World) : (part 3 (docC ⟨v0, v1, v2, ⟨m0, m1, m2, m3, m4, m5, m6, [b0, b1, b2, b3, b4, b5, b6, b7, b8, b9, b10, b11], [c0, c1, c2, c3, c4, c5, c6, c7, c8, c9], s, rfl, rfl⟩, [a0, a1, a2, a3, a4, a5, a6, a7, a8, a9, a10, a11, a12, a13, a14, a15, a16, a17, a18, a19, a20, a21, a22, a23, a24], v3, rfl⟩).toArray 1).run Tryz.prog w = .ok (.int .i64 v1) w := by kernel_rfl
theorem partRQ2 (v0 v1 v2 v3 : Int) (m0 m1 m2 m3 m4 m5 m6 : Int) (b0 b1 b2 b3 b4 b5 b6 b7 b8 b9 b10 b11 c0 c1 c2 c3 c4 c5 c6 c7 c8 c9 : UInt8) (s : ByteArray) (a0 a1 a2 a3 a4 a5 a6 a7 a8 a9 a10 a11 a12 a13 a14 a15 a16 a17 a18 a19 a20 a21 a22 a23 a24 : UInt8) (w : World) : (part 3 (docC ⟨v0, v1, v2, ⟨m0, m1, m2, m3, m4, m5, m6, [b0, b1, b2, b3, b4, b5, b6, b7, b8, b9, b10, b11], [c0, c1, c2, c3, c4, c5, c6, c7, c8, c9], s, rfl, rfl⟩, [a0, a1, a2, a3, a4, a5, a6, a7, a8, a9, a10, a11, a12, a13, a14, a15, a16, a17, a18, a19, a20, a21, a22, a23, a24], v3, rfl⟩).toArray 2).run Tryz.prog w = .ok (.int .i64 v2) w := by kernel_rfl
theorem partRQ3 (v0 v1 v2 v3 : Int) (m0 m1 m2 m3 m4 m5 m6 : Int) (b0 b1 b2 b3 b4 b5 b6 b7 b8 b9 b10 b11 c0 c1 c2 c3 c4 c5 c6 c7 c8 c9 : UInt8) (s : ByteArray) (a0 a1 a2 a3 a4 a5 a6 a7 a8 a9 a10 a11 a12 a13 a14 a15 a16 a17 a18 a19 a20 a21 a22 a23 a24 : UInt8) (w : World) : (part 42 (docC ⟨v0, v1, v2, ⟨m0, m1, m2, m3, m4, m5, m6, [b0, b1, b2, b3, b4, b5, b6, b7, b8, b9, b10, b11], [c0, c1, c2, c3, c4, c5, c6, c7, c8, c9], s, rfl, rfl⟩, [a0, a1, a2, a3, a4, a5, a6, a7, a8, a9, a10, a11, a12, a13, a14, a15, a16, a17, a18, a19, a20, a21, a22, a23, a24], v3, rfl⟩).toArray 3).run Tryz.prog w = .ok (.agg (opC ⟨m0, m1, m2, m3, m4, m5, m6, [b0, b1, b2, b3, b4, b5, b6, b7, b8, b9, b10, b11], [c0, c1, c2, c3, c4, c5, c6, c7, c8, c9], s, rfl, rfl⟩).toArray) w := by kernel_rfl
theorem partRQ4 (v0 v1 v2 v3 : Int) (m0 m1 m2 m3 m4 m5 m6 : Int) (b0 b1 b2 b3 b4 b5 b6 b7 b8 b9 b10 b11 c0 c1 c2 c3 c4 c5 c6 c7 c8 c9 : UInt8) (s : ByteArray) (a0 a1 a2 a3 a4 a5 a6 a7 a8 a9 a10 a11 a12 a13 a14 a15 a16 a17 a18 a19 a20 a21 a22 a23 a24 : UInt8) (w : World) : (part 44 (docC ⟨v0, v1, v2, ⟨m0, m1, m2, m3, m4, m5, m6, [b0, b1, b2, b3, b4, b5, b6, b7, b8, b9, b10, b11], [c0, c1, c2, c3, c4, c5, c6, c7, c8, c9], s, rfl, rfl⟩, [a0, a1, a2, a3, a4, a5, a6, a7, a8, a9, a10, a11, a12, a13, a14, a15, a16, a17, a18, a19, a20, a21, a22, a23, a24], v3, rfl⟩).toArray 33).run Tryz.prog w = .ok (.agg (rkR [a0, a1, a2, a3, a4, a5, a6, a7, a8, a9, a10, a11, a12, a13, a14, a15, a16, a17, a18, a19, a20, a21, a22, a23, a24]).toArray) w := by kernel_rfl
theorem partRQ5 (v0 v1 v2 v3 : Int) (m0 m1 m2 m3 m4 m5 m6 : Int) (b0 b1 b2 b3 b4 b5 b6 b7 b8 b9 b10 b11 c0 c1 c2 c3 c4 c5 c6 c7 c8 c9 : UInt8) (s : ByteArray) (a0 a1 a2 a3 a4 a5 a6 a7 a8 a9 a10 a11 a12 a13 a14 a15 a16 a17 a18 a19 a20 a21 a22 a23 a24 : UInt8) (w : World) : (part 3 (docC ⟨v0, v1, v2, ⟨m0, m1, m2, m3, m4, m5, m6, [b0, b1, b2, b3, b4, b5, b6, b7, b8, b9, b10, b11], [c0, c1, c2, c3, c4, c5, c6, c7, c8, c9], s, rfl, rfl⟩, [a0, a1, a2, a3, a4, a5, a6, a7, a8, a9, a10, a11, a12, a13, a14, a15, a16, a17, a18, a19, a20, a21, a22, a23, a24], v3, rfl⟩).toArray 58).run Tryz.prog w = .ok (.int .i64 v3) w := by kernel_rfl
theorem selfRQ (w : World) (r : RqD) : (Op.equalIn 10000 46 (.agg (docC r).toArray) (.agg (docC r).toArray)).run Tryz.prog w = .ok true w := by
  obtain ⟨v0, v1, v2, o, k, v3, hk⟩ := r
  obtain ⟨m0, m1, m2, m3, m4, m5, m6, na, ta, s, hn, ht⟩ := o
  obtain ⟨a0, a1, a2, a3, a4, a5, a6, a7, a8, a9, a10, a11, a12, a13, a14, a15, a16, a17, a18, a19, a20, a21, a22, a23, a24, rfl⟩ := Kx.list25 k hk
  obtain ⟨b0, b1, b2, b3, b4, b5, b6, b7, b8, b9, b10, b11, rfl⟩ := twelve na hn
  obtain ⟨c0, c1, c2, c3, c4, c5, c6, c7, c8, c9, rfl⟩ := ten ta ht
  rw [show (10000 : Nat) = 9999 + 1 from rfl, run_equalIn_struct w 9999 46 _ _ (by kernel_rfl) (by kernel_rfl)]
  have q0 := run_equalIn_int (P := Tryz.prog) w 9998 3 .i64 .i64 v0 v0 Tryz.underlying3
  have q1 := run_equalIn_int (P := Tryz.prog) w 9998 3 .i64 .i64 v1 v1 Tryz.underlying3
  have q2 := run_equalIn_int (P := Tryz.prog) w 9998 3 .i64 .i64 v2 v2 Tryz.underlying3
  have q5 := run_equalIn_int (P := Tryz.prog) w 9998 3 .i64 .i64 v3 v3 Tryz.underlying3
  have q3 := selfRO w 9995 ⟨m0, m1, m2, m3, m4, m5, m6, [b0, b1, b2, b3, b4, b5, b6, b7, b8, b9, b10, b11], [c0, c1, c2, c3, c4, c5, c6, c7, c8, c9], s, rfl, rfl⟩
  have q4 := selfRK w 9995 [a0, a1, a2, a3, a4, a5, a6, a7, a8, a9, a10, a11, a12, a13, a14, a15, a16, a17, a18, a19, a20, a21, a22, a23, a24] rfl
  simp only [beq_self_eq_true] at q0 q1 q2 q5
  simp only [Program.fieldsOf, Tryz.underlying46, Op.eqFields]
  simp [partRQ0, partRQ1, partRQ2, partRQ3, partRQ4, partRQ5, q0, q1, q2, q3, q4, q5]
theorem neqDoc (w : World) (r : RqD) : (binOp .neq 46 (.agg (docC r).toArray) (.agg (docC r).toArray)).run Tryz.prog w = .ok (.bool false) w := by
  rw [run_neq_struct, selfRQ]; rfl
theorem neqZ59 (w : World) : (binOp .neq 36 (.agg z59.toArray) (.agg z59.toArray)).run Tryz.prog w = .ok (.bool false) w := by kernel_rfl
end Go.Proofs.YtbfefdedjcppaaaGreatDoor

/- The law's Of: a request as the document's. -/
namespace Go.Proofs.YtbfefdedjcppaaaGreatDoor
open Go.RowKit

theorem docC_len (r : RqD) : (docC r).length = 59 := by simp [docC, opC_len, rkR_len _ r.lk]
theorem docC_one (r : RqD) : (docC r).all (·.oneCell') = true := by
  simp only [docC, List.all_append, List.all_cons, List.all_nil, opC_one, rkR_one, Bool.and_true]
  rfl
theorem sizRD : (Tryz.prog.info? 46).map (·.size) = some 59 := by kernel_rfl
theorem builtDoc (r : RqD) : Tryz.prog.built 46 [(0, .int .i64 r.verb), (1, .int .i64 r.slot), (2, .int .i64 r.n), (3, .agg (opC r.op).toArray), (4, .agg (rkR r.key).toArray), (5, .int .i64 r.depth)] = some (docC r).toArray := by
  obtain ⟨v0, v1, v2, o, k, v3, hk⟩ := r
  obtain ⟨m0, m1, m2, m3, m4, m5, m6, na, ta, s, hn, ht⟩ := o
  obtain ⟨a0, a1, a2, a3, a4, a5, a6, a7, a8, a9, a10, a11, a12, a13, a14, a15, a16, a17, a18, a19, a20, a21, a22, a23, a24, rfl⟩ := Kx.list25 k hk
  obtain ⟨b0, b1, b2, b3, b4, b5, b6, b7, b8, b9, b10, b11, rfl⟩ := twelve na hn
  obtain ⟨c0, c1, c2, c3, c4, c5, c6, c7, c8, c9, rfl⟩ := ten ta ht
  kernel_rfl
theorem of06_key (k : List UInt8) (w : World) (hk : k.length = 25) : Calls Tryz.prog 38 #[.agg (bC k)] w fun e w' => e = .returned (.agg (rkR k).toArray) ∧ Below w.heap.size w w' := by
  obtain ⟨a0, a1, a2, a3, a4, a5, a6, a7, a8, a9, a10, a11, a12, a13, a14, a15, a16, a17, a18, a19, a20, a21, a22, a23, a24, rfl⟩ := Kx.list25 k hk
  exact of06_any ⟨a0, a1, a2, [a3, a4, a5, a6, a7, a8, a9, a10, a11, a12, a13, a14], [a15, a16, a17, a18, a19, a20, a21, a22, a23, a24]⟩ w ⟨rfl, rfl⟩
theorem doc_key (r : RqD) : ∀ {w : World} {b : Nat}, w.rangeAt b 0 (rqC r) → w.rangeAt b 33 (bC r.key).toList := by
  intro w b h
  have h2 := rq_pre h
  unfold Kx.pC at h2
  exact range_app_left h2
set_option maxRecDepth 100000 in
set_option maxHeartbeats 8000000 in
theorem of26_any (r : RqD) (w : World) : Calls Tryz.prog 9 #[.agg (rqC r).toArray] w fun e w' => e = .returned (.agg (docC r).toArray) ∧ Below w.heap.size w w' := by
  have HG0 : Hid (((w.alloc (.cells (rqC r).toArray 36)).alloc (.cells rdZ.toArray 46)).heap[w.heap.size]? = some (.cells (rqC r).toArray 36 (0, 0))) := heap_alloc2_old _ _ _
  have HG1 : Hid (((w.alloc (.cells (rqC r).toArray 36)).alloc (.cells rdZ.toArray 46)).heap[w.heap.size + 1]? = some (.cells rdZ.toArray 46 (0, 0))) := heap_alloc2_new _ _ _
  have HB1 : Hid (Below w.heap.size w ((w.alloc (.cells (rqC r).toArray 36)).alloc (.cells rdZ.toArray 46))) := below_alloc2 _ _ _
  have KO : Hid (∀ W, Calls Tryz.prog 37 #[.agg (opC r.op).toArray] W fun e w' => e = .returned (.agg (opC r.op).toArray) ∧ Below W.heap.size W w') := fun W => of25_any r.op W
  have KK : Hid (∀ W, Calls Tryz.prog 38 #[.agg (bC r.key)] W fun e w' => e = .returned (.agg (rkR r.key).toArray) ∧ Below W.heap.size W w') := fun W => of06_key r.key W r.lk
  go_enter Tryz.func9, Tryz.ntmps9
  go_upto_region 1 with fail
  rw [show (Obj.cells #[Value.int IntKind.i64 0, Value.int IntKind.i64 0, Value.int IntKind.i64 0, Value.int IntKind.i64 0, Value.int IntKind.i64 0, Value.int IntKind.i64 0, Value.int IntKind.i64 0, Value.int IntKind.i64 0, Value.int IntKind.i64 0, Value.int IntKind.i64 0, Value.int IntKind.u8 0, Value.int IntKind.u8 0, Value.int IntKind.u8 0, Value.int IntKind.u8 0, Value.int IntKind.u8 0, Value.int IntKind.u8 0, Value.int IntKind.u8 0, Value.int IntKind.u8 0, Value.int IntKind.u8 0, Value.int IntKind.u8 0, Value.int IntKind.u8 0, Value.int IntKind.u8 0, Value.int IntKind.u8 0, Value.int IntKind.u8 0, Value.int IntKind.u8 0, Value.int IntKind.u8 0, Value.int IntKind.u8 0, Value.int IntKind.u8 0, Value.int IntKind.u8 0, Value.int IntKind.u8 0, Value.int IntKind.u8 0, Value.int IntKind.u8 0, Value.string ⟨#[]⟩, Value.int IntKind.i64 0, Value.int IntKind.i64 0, Value.int IntKind.i64 0, Value.int IntKind.u8 0, Value.int IntKind.u8 0, Value.int IntKind.u8 0, Value.int IntKind.u8 0, Value.int IntKind.u8 0, Value.int IntKind.u8 0, Value.int IntKind.u8 0, Value.int IntKind.u8 0, Value.int IntKind.u8 0, Value.int IntKind.u8 0, Value.int IntKind.u8 0, Value.int IntKind.u8 0, Value.int IntKind.u8 0, Value.int IntKind.u8 0, Value.int IntKind.u8 0, Value.int IntKind.u8 0, Value.int IntKind.u8 0, Value.int IntKind.u8 0, Value.int IntKind.u8 0, Value.int IntKind.u8 0, Value.int IntKind.u8 0, Value.int IntKind.u8 0, Value.int IntKind.i64 0] 46) = Obj.cells rdZ.toArray 46 from rfl]
  generalize (w.alloc (.cells (rqC r).toArray 36)).alloc (.cells rdZ.toArray 46) = W1 at *
  have hlt := lt_heap HG0.out
  have c0 : W1.cell? ⟨w.heap.size, 0, none⟩ = some (.int .i64 r.verb) := by rw [cell_blk HG0.out]; rfl
  have c1 : W1.cell? ⟨w.heap.size, 1, none⟩ = some (.int .i64 r.slot) := by rw [cell_blk HG0.out]; rfl
  have c2 : W1.cell? ⟨w.heap.size, 2, none⟩ = some (.int .i64 r.n) := by rw [cell_blk HG0.out]; rfl
  have c58 : W1.cell? ⟨w.heap.size, 58, none⟩ = some (.int .i64 r.depth) := by rw [cell_blk HG0.out, List.getElem?_toArray]; exact rqC_depth r
  have HRo := Lib.hid (rq_op (range_whole HG0.out))
  have HRk := Lib.hid (doc_key r (range_whole HG0.out))
  refine wp_region_below_tail 17 (by kernel_rfl) (by kernel_rfl) ?_
  simp only [List.take_succ_cons, List.take_zero, List.drop_succ_cons, List.drop_zero]
  repeat (first
    | (refine wq_ldr rfl 30 (.tmp 9) rfl w.heap.size 3 (opC r.op) _ Tryz.underlying30 rfl (by rw [sizOp, opC_len]) rfl HRo.out hlt ?_; simp only [Act.put, List.setIfInBounds_toArray, List.set_cons_zero, List.set_cons_succ])
    | (refine wq_ldr rfl 32 (.tmp 13) rfl w.heap.size 33 (bC r.key).toList _ Tryz.underlying32 rfl (by rw [sizKey]; simp [bC, r.lk]) rfl HRk.out hlt ?_; simp only [Act.put, List.setIfInBounds_toArray, List.set_cons_zero, List.set_cons_succ])
    | (refine wq_one rfl 3 (.tmp 3) rfl w.heap.size 0 (.int .i64 r.verb) ag3 rfl c0 hlt ?_; simp only [Act.put, List.setIfInBounds_toArray, List.set_cons_zero, List.set_cons_succ])
    | (refine wq_one rfl 3 (.tmp 5) rfl w.heap.size 1 (.int .i64 r.slot) ag3 rfl c1 hlt ?_; simp only [Act.put, List.setIfInBounds_toArray, List.set_cons_zero, List.set_cons_succ])
    | (refine wq_one rfl 3 (.tmp 7) rfl w.heap.size 2 (.int .i64 r.n) ag3 rfl c2 hlt ?_; simp only [Act.put, List.setIfInBounds_toArray, List.set_cons_zero, List.set_cons_succ])
    | (refine wq_one rfl 3 (.tmp 17) rfl w.heap.size 58 (.int .i64 r.depth) ag3 rfl c58 hlt ?_; simp only [Act.put, List.setIfInBounds_toArray, List.set_cons_zero, List.set_cons_succ])
    | (refine wq_bd _ rfl 46 [(0, .tmp 4), (1, .tmp 6), (2, .tmp 8), (3, .tmp 11), (4, .tmp 15), (5, .tmp 18)] rfl [(0, .int .i64 r.verb), (1, .int .i64 r.slot), (2, .int .i64 r.n), (3, .agg (opC r.op).toArray), (4, .agg (rkR r.key).toArray), (5, .int .i64 r.depth)] rfl (docC r).toArray (builtDoc r) ?_; simp only [Act.put, List.setIfInBounds_toArray, List.set_cons_zero, List.set_cons_succ])
    | go_big_quiet_step (first | with_reducible exact rg_call KO.out _ _ | with_reducible exact rg_call KK.out _ _))
  refine wpQuiet_nil ?_
  rintro _ ⟨⟨dq, osq⟩, rfl⟩
  have hbr := below_regrown W1 dq osq
  have HG2 := Lib.hid ((hbr.block _ (lt_heap HG1.out)).trans HG1.out)
  have HB2 := Lib.hid (HB1.out.trans (hbr.mono HB1.out.size))
  clear hbr c0 c1 c2 c58
  generalize Sort.grow (redrawn W1 dq) osq = W2 at *
  go_wp2_with (first
    | ((with_reducible refine gate_st 46 _ _ rfl ?_); refine wl_strG rfl 46 _ _ rfl (w.heap.size + 1) (docC r).toArray rdZ.toArray 46 (by rw [sizRD, List.size_toArray, docC_len]) (by rw [List.size_toArray, docC_len]; rfl) (by rw [← Array.all_toList]; exact docC_one r) rfl rfl HG2.out (fun W3 h1 h2 => ?_); have HG3 := Lib.hid h1; have HB3 := Lib.hid (HB2.out.trans (h2.below (B := w.heap.size) (fun k hk => by simp at hk; omega) HB2.out.size)); clear h1 h2))
  refine bodyPost_ret (res_rowc (P := Tryz.prog) (T := 46) (T' := 46) rfl _ _ (w.heap.size + 1) (docC r).toArray (0, 0) rfl HG3.out Tryz.underlying46 rfl (by rw [sizRD, List.size_toArray, docC_len])) rfl ⟨rfl, HB3.out⟩
end Go.Proofs.YtbfefdedjcppaaaGreatDoor
