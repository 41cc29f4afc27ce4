/- Lines and acts, there and back: plain. -/
import Derived.Test.YtmbbhnbfgcmkgaaDoorP4
namespace Go.Proofs.YtmbbhnbfgcmkgaaDoor
open Go.RowKit

theorem arg_w (a : D4) {n : Int} (h0 : 0 ≤ n) (h1 : n ≤ 7) : argL a 119 (decL n) = ({ a with who := n }, 0) := by unfold argL; rw [if_pos rfl, num_dec (Or.inl rfl) h0 h1]
theorem arg_n (a : D4) {n : Int} (h0 : 0 ≤ n) (h1 : n ≤ 300) : argL a 110 (decL n) = ({ a with n := n }, 0) := by unfold argL; rw [if_neg (by decide), if_pos rfl, num_dec (Or.inr rfl) h0 h1]
theorem arg_b (a : D4) {b : List UInt8} (h : b.length ≤ 1300) : argL a 98 (hexD b) = ({ a with b := b }, 0) := by unfold argL; rw [if_neg (by decide), if_neg (by decide), bytes_hex b h]
theorem args_cons {a a' : D4} {c : UInt8} {p : List UInt8} {u : List UInt8} {r : List (List UInt8)} (h : argL a c p = (a', 0)) : argsL a (c :: u) (p :: r) = argsL a' u r := by rw [argsL, h]; simp
theorem args_err {a : D4} {c : UInt8} {p : List UInt8} {u : List UInt8} {r : List (List UInt8)} (h : (argL a c p).2 ≠ 0) : argsL a (c :: u) (p :: r) = (d40, (argL a c p).2) := by rw [argsL, if_pos h]
theorem args_nil {a : D4} {r : List (List UInt8)} : argsL a [] r = (a, 0) := by unfold argsL; rfl
theorem lineW_cons (p : List UInt8) (r : List (List UInt8)) : lineW (p :: r) = if kindL p = 0 then (d40, 16) else if r.length ≠ (usesL (kindL p)).length then (d40, 3) else argsL ⟨kindL p, 0, 0, []⟩ (usesL (kindL p)) r := rfl
theorem lineW_args {k : Int} (h1 : 1 ≤ k) (h2 : k ≤ 6) {r : List (List UInt8)} (hr : r.length = (usesL k).length) : lineW (wordL k :: r) = argsL ⟨k, 0, 0, []⟩ (usesL k) r := by
  rw [lineW_cons, kind_word k h1 h2, if_neg (by omega), if_neg (fun h => h hr)]
theorem bare_bare (x : D4) : bareD (bareD x) = bareD x := by
  unfold bareD
  simp only
  congr 1
  · split <;> simp_all
  · split <;> simp_all
  · split <;> simp_all
theorem flat1 (x : D4) : ([119, 98] : List UInt8).flatMap (fun c => 32 :: partD x c) = 32 :: (decL x.who ++ 32 :: hexD x.b) := by simp [partD]
theorem flat2 (x : D4) : ([119] : List UInt8).flatMap (fun c => 32 :: partD x c) = 32 :: decL x.who := by simp [partD]
theorem flat3 (x : D4) : ([110] : List UInt8).flatMap (fun c => 32 :: partD x c) = 32 :: decL x.n := by simp [partD]
/-- What is printed is read as it was. -/
theorem line_back {y : D4} (h : errD y = 0) (hb : bareD y = y) : lineL (lineR y).1 = (y, 0) := by
  obtain ⟨h1, h2, h3, h4, h5, h6, h7⟩ := err_ok h
  rw [lineR_ok h]
  unfold lineL
  obtain ⟨k, wh, n, b⟩ := y
  simp only at h1 h2 h3 h4 h5 h6 h7 ⊢
  have w32 := fun c hc => (word_no k c hc).1
  rcases (show k = 1 ∨ (k = 2 ∨ k = 3) ∨ (k = 4 ∨ k = 6) ∨ k = 5 by omega) with rfl | hk | hk | rfl
  · have hu : usesL 1 = [119, 98] := rfl
    have hn : n = 0 := by have := congrArg D4.n hb; simpa [bareD] using this.symm
    subst hn
    rw [hu, flat1, spl_app _ w32, spl_app _ (fun c hc => (dec_no wh h3 (by omega) c hc).1), spl_one (fun c hc => (hexD_no b c hc).1), lineW_args (by decide) (by decide) rfl, hu, args_cons (arg_w _ h3 h4), args_cons (arg_b _ h7), args_nil]
  · have hu : usesL k = [119] := by unfold usesL; rw [if_neg (by omega), if_pos hk]
    have hn : n = 0 := by have := congrArg D4.n hb; simp only [bareD] at this; rw [if_neg (by omega)] at this; exact this.symm
    have hb0 : b = [] := by have := congrArg D4.b hb; simp only [bareD] at this; rw [if_neg (by omega)] at this; exact this.symm
    subst hn hb0
    rw [hu, flat2, spl_app _ w32, spl_one (fun c hc => (dec_no wh h3 (by omega) c hc).1), lineW_args h1 h2 (by rw [hu]; rfl), hu, args_cons (arg_w _ h3 h4), args_nil]
  · have hu : usesL k = [110] := by unfold usesL; rw [if_neg (by omega), if_neg (by omega), if_pos hk]
    have hn : wh = 0 := by have := congrArg D4.who hb; simp only [bareD] at this; rw [if_neg (by omega)] at this; exact this.symm
    have hb0 : b = [] := by have := congrArg D4.b hb; simp only [bareD] at this; rw [if_neg (by omega)] at this; exact this.symm
    subst hn hb0
    rw [hu, flat3, spl_app _ w32, spl_one (fun c hc => (dec_no n h5 h6 c hc).1), lineW_args h1 h2 (by rw [hu]; rfl), hu, args_cons (arg_n _ h5 h6), args_nil]
  · have hu : usesL 5 = [] := rfl
    have hn : n = 0 := by have := congrArg D4.n hb; simpa [bareD] using this.symm
    have hw : wh = 0 := by have := congrArg D4.who hb; simpa [bareD] using this.symm
    have hb0 : b = [] := by have := congrArg D4.b hb; simpa [bareD] using this.symm
    subst hn hw hb0
    rw [hu, List.flatMap_nil, List.append_nil, spl_one w32, lineW_args (by decide) (by decide) rfl, hu, args_nil]
/-- What is read prints as it was. -/
theorem words_forth {ws : List (List UInt8)} (h : (lineW ws).2 = 0) : errD (lineW ws).1 = 0 ∧ bareD (lineW ws).1 = (lineW ws).1 ∧ (lineR (lineW ws).1).1 = joinD 32 ws := by
  cases ws with
  | nil => exact absurd h (by unfold lineW; decide)
  | cons p r =>
    by_cases hk0 : kindL p = 0
    · rw [lineW_cons, if_pos hk0] at h; exact absurd h (by decide)
    obtain ⟨hw, h1, h2⟩ := word_kind hk0
    by_cases hr : r.length = (usesL (kindL p)).length
    · generalize kindL p = k at *
      subst hw
      rw [lineW_args h1 h2 hr] at h ⊢
      rcases (show k = 1 ∨ (k = 2 ∨ k = 3) ∨ (k = 4 ∨ k = 6) ∨ k = 5 by omega) with rfl | hk | hk | rfl
      · have hu : usesL 1 = [119, 98] := rfl
        rw [hu] at h hr ⊢
        match r, hr with
        | [p1, p2], _ =>
          by_cases e1 : (numL p1 7).2 = 0
          · have d1 := dec_num (by decide) e1
            have a1 : argL ⟨1, 0, 0, []⟩ 119 p1 = (⟨1, (numL p1 7).1, 0, []⟩, 0) := by unfold argL; rw [if_pos rfl, e1]
            rw [args_cons a1] at h ⊢
            by_cases e2 : (bytesL p2).2 = 0
            · have d2 := hex_bytes e2
              have a2 : argL ⟨1, (numL p1 7).1, 0, []⟩ 98 p2 = (⟨1, (numL p1 7).1, 0, (bytesL p2).1⟩, 0) := by unfold argL; rw [if_neg (by decide), if_neg (by decide), e2]
              rw [args_cons a2, args_nil]
              simp only
              have he : errD ⟨1, (numL p1 7).1, 0, (bytesL p2).1⟩ = 0 := err_0 (by simp) (by simp) (by simp only; omega) (by simp only; omega) (by simp) (by simp) (by simp only; omega)
              refine ⟨he, by simp [bareD], ?_⟩
              rw [lineR_ok he]
              simp only
              rw [hu, flat1]
              simp only
              rw [d1.1, d2.1]
              rfl
            · have a2 : (argL ⟨1, (numL p1 7).1, 0, []⟩ 98 p2).2 ≠ 0 := by unfold argL; rw [if_neg (by decide), if_neg (by decide)]; exact e2
              rw [args_err a2] at h; exact absurd h a2
          · have a1 : (argL ⟨1, 0, 0, []⟩ 119 p1).2 ≠ 0 := by unfold argL; rw [if_pos rfl]; exact e1
            rw [args_err a1] at h; exact absurd h a1
      · have hu : usesL k = [119] := by unfold usesL; rw [if_neg (by omega), if_pos hk]
        rw [hu] at h hr ⊢
        match r, hr with
        | [p1], _ =>
          by_cases e1 : (numL p1 7).2 = 0
          · have d1 := dec_num (by decide) e1
            have a1 : argL ⟨k, 0, 0, []⟩ 119 p1 = (⟨k, (numL p1 7).1, 0, []⟩, 0) := by unfold argL; rw [if_pos rfl, e1]
            rw [args_cons a1, args_nil]
            simp only
            have he : errD ⟨k, (numL p1 7).1, 0, []⟩ = 0 := err_0 (by simp only; omega) (by simp only; omega) (by simp only; omega) (by simp only; omega) (by simp) (by simp) (by simp)
            refine ⟨he, by unfold bareD; simp only; rw [if_pos (by omega), if_neg (by omega), if_neg (by omega)], ?_⟩
            rw [lineR_ok he]
            simp only
            rw [hu, flat2]
            simp only
            rw [d1.1]
            rfl
          · have a1 : (argL ⟨k, 0, 0, []⟩ 119 p1).2 ≠ 0 := by unfold argL; rw [if_pos rfl]; exact e1
            rw [args_err a1] at h; exact absurd h a1
      · have hu : usesL k = [110] := by unfold usesL; rw [if_neg (by omega), if_neg (by omega), if_pos hk]
        rw [hu] at h hr ⊢
        match r, hr with
        | [p1], _ =>
          by_cases e1 : (numL p1 300).2 = 0
          · have d1 := dec_num (by decide) e1
            have a1 : argL ⟨k, 0, 0, []⟩ 110 p1 = (⟨k, 0, (numL p1 300).1, []⟩, 0) := by unfold argL; rw [if_neg (by decide), if_pos rfl, e1]
            rw [args_cons a1, args_nil]
            simp only
            have he : errD ⟨k, 0, (numL p1 300).1, []⟩ = 0 := err_0 (by simp only; omega) (by simp only; omega) (by simp) (by simp) (by simp only; omega) (by simp only; omega) (by simp)
            refine ⟨he, by unfold bareD; simp only; rw [if_neg (by omega), if_pos (by omega), if_neg (by omega)], ?_⟩
            rw [lineR_ok he]
            simp only
            rw [hu, flat3]
            simp only
            rw [d1.1]
            rfl
          · have a1 : (argL ⟨k, 0, 0, []⟩ 110 p1).2 ≠ 0 := by unfold argL; rw [if_neg (by decide), if_pos rfl]; exact e1
            rw [args_err a1] at h; exact absurd h a1
      · have hu : usesL 5 = [] := rfl
        rw [hu] at h hr ⊢
        match r, hr with
        | [], _ => rw [args_nil]; decide
    · rw [lineW_cons, if_neg hk0, if_pos hr] at h; exact absurd h (by decide)
theorem line_forth {p : List UInt8} (h : (lineL p).2 = 0) : errD (lineL p).1 = 0 ∧ bareD (lineL p).1 = (lineL p).1 ∧ (lineR (lineL p).1).1 = p := by
  have := words_forth (ws := spl 32 p) h
  rw [join_spl] at this
  exact this
theorem parseP_cons (out : List D4) (p : List UInt8) {r : List (List UInt8)} (h : r ≠ []) : parseP out (p :: r) = if 200 ≤ out.length then ([], out.length, 2) else if (lineL p).2 ≠ 0 then ([], out.length, (lineL p).2) else parseP (out ++ [(lineL p).1]) r := by
  cases r with
  | nil => exact absurd rfl h
  | cons q r => rfl
/-- Acts that were parsed print as the text was. -/
theorem parse_forth : ∀ (ps : List (List UInt8)) (out : List D4), ps ≠ [] → (parseP out ps).2.2 = 0 → ∃ ys, parseP out ps = (out ++ ys, 0, 0) ∧ ∀ acc, printF out.length acc ys = (acc ++ joinD 10 ps, 0)
  | [], _, h, _ => absurd rfl h
  | [r], out, _, h => by
    unfold parseP at h ⊢
    by_cases hr : r = []
    · subst hr
      exact ⟨[], by simp, fun acc => by simp [printF, joinD]⟩
    · rw [if_neg hr] at h; exact absurd h (by simp)
  | p :: q :: ps, out, _, h => by
    rw [parseP_cons out p (List.cons_ne_nil q ps)] at h ⊢
    by_cases h2 : 200 ≤ out.length
    · rw [if_pos h2] at h; exact absurd h (by simp)
    rw [if_neg h2] at h ⊢
    by_cases he : (lineL p).2 = 0
    · rw [if_neg (fun h' => h' he)] at h ⊢
      obtain ⟨ys, g1, g2⟩ := parse_forth (q :: ps) _ (List.cons_ne_nil q ps) h
      obtain ⟨f1, f2, f3⟩ := line_forth he
      refine ⟨(lineL p).1 :: ys, by rw [g1]; simp, fun acc => ?_⟩
      rw [printF, if_neg h2, f2, f1, if_neg (by simp)]
      have := g2 (acc ++ lineD (lineL p).1)
      rw [List.length_append, List.length_singleton] at this
      rw [this, joinD_cons _ _ (List.cons_ne_nil q ps), ← (lineR_line _ f1).1, f3]
      simp
    · rw [if_pos he] at h; exact absurd h he
theorem parse_print {s : List UInt8} {xs : List D4} {n : Nat} (h : parseL s = (xs, n, 0)) : n = 0 ∧ printF 0 [] xs = (s, 0) := by
  unfold parseL at h
  obtain ⟨ys, g1, g2⟩ := parse_forth (spl 10 s) [] (spl_ne 10 s) (by rw [h])
  rw [g1] at h
  simp only [List.nil_append, Prod.mk.injEq] at h
  obtain ⟨rfl, rfl, _⟩ := h
  have := g2 []
  rw [join_spl] at this
  exact ⟨rfl, by simpa using this⟩
theorem line_no10 (y : D4) (h : errD y = 0) : ∀ c ∈ (lineR y).1, c ≠ 10 := by
  obtain ⟨h1, h2, h3, h4, h5, h6, h7⟩ := err_ok h
  rw [lineR_ok h]
  intro c hc
  simp only [List.mem_append, List.mem_flatMap] at hc
  rcases hc with hc | ⟨d, hd, hc⟩
  · exact (word_no _ c hc).2
  · rcases List.mem_cons.1 hc with rfl | hc
    · decide
    · unfold partD at hc
      split at hc
      · exact (dec_no _ h3 (by omega) c hc).2
      · split at hc
        · exact (dec_no _ h5 h6 c hc).2
        · exact (hexD_no _ c hc).2
/-- What was printed is parsed as it was. -/
theorem print_back : ∀ (xs : List D4) (k : Nat) (acc : List UInt8), (printF k acc xs).2 = 0 → ∃ t, printF k acc xs = (acc ++ t, 0) ∧ ∀ out : List D4, out.length = k → parseP out (spl 10 t) = (out ++ xs.map bareD, 0, 0)
  | [], k, acc, _ => ⟨[], by simp [printF], fun out _ => by simp [spl, parseP]⟩
  | x :: xs, k, acc, h => by
    rw [printF] at h ⊢
    by_cases h2 : 200 ≤ k
    · rw [if_pos h2] at h; exact absurd h (by simp)
    rw [if_neg h2] at h ⊢
    by_cases he : errD (bareD x) = 0
    · rw [if_neg (fun h' => h' he)] at h ⊢
      obtain ⟨t, g1, g2⟩ := print_back xs (k + 1) _ h
      have hl := lineR_line _ he
      refine ⟨lineD (bareD x) ++ t, by rw [g1]; simp, fun out ho => ?_⟩
      rw [← hl.1, List.append_assoc, List.singleton_append, spl_app _ (line_no10 _ he), parseP_cons _ _ (spl_ne 10 t), if_neg (by omega), line_back he (bare_bare x), if_neg (by simp)]
      simp only
      rw [g2 _ (by rw [List.length_append, List.length_singleton, ho])]
      simp
    · rw [if_pos he] at h; exact absurd h he
theorem back_parse {xs : List D4} (h : (printF 0 [] xs).2 = 0) : parseL (printF 0 [] xs).1 = (xs.map bareD, 0, 0) := by
  obtain ⟨t, g1, g2⟩ := print_back xs 0 [] h
  rw [g1]
  have := g2 [] rfl
  simpa [parseL] using this
theorem print_err : ∀ (xs : List D4) (k : Nat) (acc : List UInt8), (printF k acc xs).2 ≠ 0 → (printF k acc xs).1 = []
  | [], k, acc, h => absurd rfl h
  | x :: xs, k, acc, h => by
    rw [printF] at h ⊢
    split
    · rfl
    · rename_i h2
      rw [if_neg h2] at h
      split
      · rfl
      · rename_i h3
        rw [if_neg h3] at h
        exact print_err xs _ _ h
theorem print_len : ∀ (xs : List D4) (k : Nat) (acc : List UInt8), k ≤ 200 → acc.length ≤ k * 6000 → (printF k acc xs).1.length ≤ 1200000
  | [], k, acc, hk, h => by rw [printF]; simp only; have : k * 6000 ≤ 200 * 6000 := Nat.mul_le_mul_right _ hk; omega
  | x :: xs, k, acc, hk, h => by
    rw [printF]
    split
    · simp
    · rename_i h2
      split
      · simp
      · rename_i h3
        have he : errD (bareD x) = 0 := Decidable.not_not.1 h3
        have := lineD_len (err_ok he).2.2.2.2.2.2
        exact print_len xs (k + 1) _ (by omega) (by rw [List.length_append]; omega)
end Go.Proofs.YtmbbhnbfgcmkgaaDoor
