/- A stable sort of places: insertion sort, and the merge of two runs in place, over the order that breaks ties by place. No program. -/
import Derived.Sort.LotA
namespace Go.Proofs.Ythimpgnagjgmdaa
open Go.Sort

/-- Ties are broken by place. -/
def lt2 (lt : Int → Int → Bool) (x y : Int) : Bool := lt x y || (!lt y x && decide (x < y))
theorem lt2_swo {lt : Int → Int → Bool} (h : SWO lt) : SWO (lt2 lt) where
  irrefl x := by simp [lt2, h.irrefl]
  trans x y z := by
    unfold lt2
    intro h1 h2
    simp only [Bool.or_eq_true, Bool.and_eq_true, Bool.not_eq_true', decide_eq_true_eq] at h1 h2 ⊢
    rcases h1 with h1 | ⟨h1, h1'⟩ <;> rcases h2 with h2 | ⟨h2, h2'⟩
    · exact Or.inl (h.trans _ _ _ h1 h2)
    · left
      cases hxz : lt x z with
      | true => rfl
      | false =>
        have := h.ntrans x z y hxz h2
        rw [h1] at this; cases this
    · left
      cases hxz : lt x z with
      | true => rfl
      | false =>
        have := h.ntrans y x z h1 hxz
        rw [h2] at this; cases this
    · right
      exact ⟨h.ntrans z y x h2 h1, by omega⟩
  ntrans x y z := by
    unfold lt2
    intro h1 h2
    simp only [Bool.or_eq_false_iff, Bool.and_eq_false_iff, Bool.not_eq_false', decide_eq_false_iff_not] at h1 h2 ⊢
    obtain ⟨a1, a2⟩ := h1
    obtain ⟨b1, b2⟩ := h2
    refine ⟨h.ntrans _ _ _ a1 b1, ?_⟩
    by_cases hzx : lt z x = true
    · exact Or.inl hzx
    · right
      have hzx : lt z x = false := by simpa using hzx
      rcases a2 with a2 | a2
      · exfalso
        have h3 : lt y x = false := by
          have := h.ntrans y z x b1
          cases hh : lt y z with
          | false => exact h.ntrans y z x hh hzx
          | true => rw [hh] at b1; cases b1
        rw [a2] at h3; cases h3
      · rcases b2 with b2 | b2
        · exfalso
          have h3 : lt z y = false := h.ntrans z x y hzx a1
          rw [b2] at h3; cases h3
        · omega
theorem lt2_total {lt : Int → Int → Bool} {x y : Int} (h1 : lt2 lt x y = false) (h2 : lt2 lt y x = false) : x = y := by
  unfold lt2 at h1 h2
  simp only [Bool.or_eq_false_iff, Bool.and_eq_false_iff, Bool.not_eq_false', decide_eq_false_iff_not] at h1 h2
  obtain ⟨a1, a2⟩ := h1
  obtain ⟨b1, b2⟩ := h2
  rcases a2 with a2 | a2
  · rw [a2] at b1; cases b1
  · rcases b2 with b2 | b2
    · rw [b2] at a1; cases a1
    · omega
/-- Of a later place and an earlier one both orders say the same. -/
theorem lt2_late {lt : Int → Int → Bool} {x y : Int} (h : y < x) : lt2 lt x y = lt x y := by
  have : ¬ x < y := by omega
  simp [lt2, this]
theorem inner_lt2 (lt : Int → Int → Bool) (a : Nat) : ∀ (j : Nat) (d : Array Int), j < d.size → (∀ k, a ≤ k → k < j → d[k]! < d[j]!) → insInner lt a j d = insInner (lt2 lt) a j d
  | 0, d, _, _ => rfl
  | j + 1, d, hj, h => by
    unfold insInner
    by_cases ha : a < j + 1
    · have h1 : d[j]! < d[j + 1]! := h j (by omega) (by omega)
      rw [lt2_late h1]
      split
      · refine inner_lt2 lt a j _ (by rw [swp_size]; omega) fun k hk hkj => ?_
        have g := swp_get d hj (show j < d.size by omega)
        rw [g, g]
        rw [if_neg (by omega), if_neg (by omega)]
        simp only [if_true]
        have := h k hk (by omega)
        by_cases e : j = j + 1
        · omega
        · simpa [e] using this
      · rfl
    · have : ¬ (j + 1 > a) := by omega
      simp [this]
theorem inner_perm (lt : Int → Int → Bool) (a i : Nat) : ∀ (j : Nat) (d : Array Int), a ≤ j → j ≤ i → i < d.size → PermIn a (i + 1) d (insInner lt a j d)
  | 0, d, _, _, _ => permIn_refl d _ _
  | j + 1, d, ha, hj, hi => by
    unfold insInner
    split
    · rename_i hc
      simp only [Bool.and_eq_true, decide_eq_true_eq] at hc
      exact permIn_trans _ _ _ _ _ (swp_permIn d a (i + 1) (j + 1) j ha (by omega) (by omega) (by omega) (by omega)) (inner_perm lt a i j _ (by omega) (by omega) (by rw [swp_size]; exact hi))
    · exact permIn_refl d _ _
/-- Of places in ascending order the insertion sort is stable. -/
theorem outer_lt2 (lt : Int → Int → Bool) (a b : Nat) : ∀ (n i : Nat) (d : Array Int), b - i = n → a ≤ i → b ≤ d.size → (∀ q, i ≤ q → q < b → ∀ k, a ≤ k → k < q → d[k]! < d[q]!) → insOuter lt a b i d = insOuter (lt2 lt) a b i d
  | 0, i, d, hn, _, _, _ => by
    have e1 : insOuter lt a b i d = d := by rw [insOuter, if_neg (by omega)]
    have e2 : insOuter (lt2 lt) a b i d = d := by rw [insOuter, if_neg (by omega)]
    rw [e1, e2]
  | n + 1, i, d, hn, ha, hb, h => by
    have e1 : insOuter lt a b i d = insOuter lt a b (i + 1) (insInner lt a i d) := by rw [insOuter, if_pos (by omega)]
    have e2 : insOuter (lt2 lt) a b i d = insOuter (lt2 lt) a b (i + 1) (insInner (lt2 lt) a i d) := by rw [insOuter, if_pos (by omega)]
    rw [e1, e2, inner_lt2 lt a i d (by omega) (h i (Nat.le_refl _) (by omega))]
    have hp := inner_perm (lt2 lt) a i i d ha (Nat.le_refl _) (by omega)
    refine outer_lt2 lt a b n (i + 1) _ (by omega) (by omega) (by rw [hp.1]; exact hb) fun q hq hqb k hk hkq => ?_
    rw [hp.2.1 q (Or.inr (by omega))]
    by_cases hki : k < i + 1
    · exact permIn_all d _ a (i + 1) (fun v => v < d[q]!) (by omega) hp (fun k' h1 h2 => h q (by omega) hqb k' h1 (by omega)) k hk hki
    · rw [hp.2.1 k (Or.inr (by omega))]
      exact h q (by omega) hqb k hk hkq
theorem ins_stable {lt : Int → Int → Bool} (hS : SWO lt) (d : Array Int) (a b : Nat) (hab : a ≤ b) (hb : b ≤ d.size) (h : ∀ q, a ≤ q → q < b → ∀ k, a ≤ k → k < q → d[k]! < d[q]!) :
    PermIn a b d (insertionSort lt d a b) ∧ SortedIn (lt2 lt) a b (insertionSort lt d a b) := by
  have e : insertionSort lt d a b = insertionSort (lt2 lt) d a b := outer_lt2 lt a b (b - (a + 1)) (a + 1) d rfl (by omega) hb fun q hq hqb k hk hkq => h q (by omega) hqb k hk hkq
  rw [e]
  exact insertionSort_holds (lt2_swo hS) d a b hab hb
/-- n places from a on exchanged with n from b on. -/
def SwR (a b n : Nat) (d d' : Array Int) : Prop := d'.size = d.size ∧ ∀ k, d'[k]! = if a ≤ k ∧ k < a + n then d[b + (k - a)]! else if b ≤ k ∧ k < b + n then d[a + (k - b)]! else d[k]!
theorem SwR.refl (a b : Nat) (d : Array Int) : SwR a b 0 d d := ⟨rfl, fun k => by rw [if_neg (by omega), if_neg (by omega)]⟩
theorem SwR.step {a b n : Nat} {d d' : Array Int} (h : SwR a b n d d') (hab : a + n < b) (hb : b + n < d.size) : SwR a b (n + 1) d (swp d' (a + n) (b + n)) := by
  refine ⟨by rw [swp_size]; exact h.1, fun k => ?_⟩
  have hs := h.1
  rw [swp_get d' (by omega) (by omega) k]
  by_cases h1 : k = b + n
  · subst h1
    rw [if_pos rfl, h.2 (a + n), if_neg (by omega), if_neg (by omega), if_neg (by omega), if_pos (by omega)]
    congr 1; omega
  · rw [if_neg h1]
    by_cases h2 : k = a + n
    · subst h2
      rw [if_pos rfl, h.2 (b + n), if_neg (by omega), if_neg (by omega), if_pos (by omega)]
      congr 1; omega
    · rw [if_neg h2, h.2 k]
      by_cases h3 : a ≤ k ∧ k < a + n
      · have c : a ≤ k ∧ k < a + (n + 1) := by omega
        rw [if_pos h3, if_pos c]
      · have c : ¬ (a ≤ k ∧ k < a + (n + 1)) := by omega
        rw [if_neg h3, if_neg c]
        by_cases h4 : b ≤ k ∧ k < b + n
        · have c2 : b ≤ k ∧ k < b + (n + 1) := by omega
          rw [if_pos h4, if_pos c2]
        · have c2 : ¬ (b ≤ k ∧ k < b + (n + 1)) := by omega
          rw [if_neg h4, if_neg c2]
/-- The two parts of [s, e) exchanged, the second from m on. -/
def rotF (s m e : Nat) (d : Array Int) (k : Nat) : Int := if s ≤ k ∧ k < s + (e - m) then d[m + (k - s)]! else if s + (e - m) ≤ k ∧ k < e then d[s + (k - (s + (e - m)))]! else d[k]!
theorem rot_left {m i j : Nat} {d d' : Array Int} (hij : j < i) (him : i ≤ m) (h : SwR (m - i) m j d d') (k : Nat) : rotF (m - (i - j)) m (m + j) d' k = rotF (m - i) m (m + j) d k := by
  unfold rotF
  have e1 : m + j - m = j := by omega
  rw [e1]
  by_cases c1 : m - i ≤ k ∧ k < m - i + j
  · rw [if_neg (by omega), if_neg (by omega), h.2 k, if_pos c1, if_pos c1]
  · rw [if_neg c1]
    by_cases c2 : m - (i - j) ≤ k ∧ k < m - (i - j) + j
    · rw [if_pos c2, h.2, if_neg (by omega), if_pos (by omega), if_pos (by omega)]
      congr 1; omega
    · rw [if_neg c2]
      by_cases c3 : m - (i - j) + j ≤ k ∧ k < m + j
      · rw [if_pos c3, if_pos (by omega), h.2, if_neg (by omega), if_neg (by omega)]
        congr 1; omega
      · rw [if_neg c3, if_neg (by omega), h.2, if_neg c1, if_neg (by omega)]
theorem rot_right {m i j : Nat} {d d' : Array Int} (hij : i < j) (him : i ≤ m) (h : SwR (m - i) (m + j - i) i d d') (k : Nat) : rotF (m - i) m (m + (j - i)) d' k = rotF (m - i) m (m + j) d k := by
  unfold rotF
  have e1 : m + j - m = j := by omega
  have e2 : m + (j - i) - m = j - i := by omega
  rw [e1, e2]
  by_cases c1 : m - i ≤ k ∧ k < m - i + (j - i)
  · rw [if_pos c1, if_pos (by omega), h.2]
    by_cases c2 : m + (k - (m - i)) < m + j - i
    · rw [if_neg (by omega), if_neg (by omega)]
    · omega
  · rw [if_neg c1]
    by_cases c2 : m - i + (j - i) ≤ k ∧ k < m + (j - i)
    · rw [if_pos c2, if_pos (by omega), h.2, if_pos (by omega)]
      congr 1; omega
    · rw [if_neg c2, h.2]
      by_cases c3 : m + j - i ≤ k ∧ k < m + j - i + i
      · rw [if_neg (by omega), if_pos c3]
        by_cases c4 : m - i ≤ k ∧ k < m - i + j
        · omega
        · rw [if_neg c4, if_pos (by omega)]
          congr 1; omega
      · rw [if_neg (by omega), if_neg c3, if_neg (by omega), if_neg (by omega)]
theorem rot_even {m i : Nat} {d d' : Array Int} (him : i ≤ m) (h : SwR (m - i) m i d d') (k : Nat) : d'[k]! = rotF (m - i) m (m + i) d k := by
  unfold rotF
  have e1 : m + i - m = i := by omega
  rw [e1, h.2]
  by_cases c1 : m - i ≤ k ∧ k < m - i + i
  · rw [if_pos c1, if_pos c1]
  · rw [if_neg c1, if_neg c1]
    by_cases c2 : m ≤ k ∧ k < m + i
    · rw [if_pos c2, if_pos (by omega)]
      congr 1; omega
    · rw [if_neg c2, if_neg (by omega)]
/-- Two sorted halves, all of the first not behind all of the second. -/
theorem glue {L : Int → Int → Bool} {a mid b : Nat} {d : Array Int} (h1 : SortedIn L a mid d) (h2 : SortedIn L mid b d) (h : ∀ p q, a ≤ p → p < mid → mid ≤ q → q < b → L d[q]! d[p]! = false) : SortedIn L a b d := fun p q hp hpq hq => by
  by_cases c1 : q < mid
  · exact h1 p q hp hpq c1
  · by_cases c2 : mid ≤ p
    · exact h2 p q c2 hpq hq
    · exact h p q hp (by omega) (by omega) hq
/-- What the rotation of symMerge leaves: four sorted parts, the first two not behind the last two. -/
theorem sym_parts {L : Int → Int → Bool} (hS : SWO L) {a m b s e : Nat} {d d2 : Array Int} (h1 : SortedIn L a m d) (h2 : SortedIn L m b d) (has : a ≤ s) (hsm : s ≤ m) (hme : m ≤ e) (heb : e ≤ b)
    (hx : a < s → e < b → L d[e]! d[s - 1]! = false) (hy : s < m → m < e → L d[s]! d[e - 1]! = false) (hr : ∀ k, d2[k]! = rotF s m e d k) :
    SortedIn L a s d2 ∧ SortedIn L s (s + (e - m)) d2 ∧ SortedIn L (s + (e - m)) e d2 ∧ SortedIn L e b d2 ∧ ∀ p q, a ≤ p → p < s + (e - m) → s + (e - m) ≤ q → q < b → L d2[q]! d2[p]! = false := by
  have r1 : ∀ k, k < s → d2[k]! = d[k]! := fun k hk => by rw [hr, rotF, if_neg (by omega), if_neg (by omega)]
  have r2 : ∀ k, s ≤ k → k < s + (e - m) → d2[k]! = d[m + (k - s)]! := fun k h h' => by rw [hr, rotF, if_pos ⟨h, h'⟩]
  have r3 : ∀ k, s + (e - m) ≤ k → k < e → d2[k]! = d[s + (k - (s + (e - m)))]! := fun k h h' => by rw [hr, rotF, if_neg (by omega), if_pos ⟨h, h'⟩]
  have r4 : ∀ k, e ≤ k → d2[k]! = d[k]! := fun k hk => by rw [hr, rotF, if_neg (by omega), if_neg (by omega)]
  have le1 : ∀ p q, a ≤ p → p ≤ q → q < m → L d[q]! d[p]! = false := fun p q h h' h'' => by
    rcases Nat.lt_or_eq_of_le h' with h3 | rfl
    · exact h1 p q h h3 h''
    · exact hS.irrefl _
  have le2 : ∀ p q, m ≤ p → p ≤ q → q < b → L d[q]! d[p]! = false := fun p q h h' h'' => by
    rcases Nat.lt_or_eq_of_le h' with h3 | rfl
    · exact h2 p q h h3 h''
    · exact hS.irrefl _
  refine ⟨fun p q hp hpq hq => ?_, fun p q hp hpq hq => ?_, fun p q hp hpq hq => ?_, fun p q hp hpq hq => ?_, fun p q hp hpm hqm hq => ?_⟩
  · rw [r1 p (by omega), r1 q hq]; exact le1 p q hp (by omega) (by omega)
  · rw [r2 p hp (by omega), r2 q (by omega) hq]; exact le2 _ _ (by omega) (by omega) (by omega)
  · rw [r3 p hp (by omega), r3 q (by omega) hq]; exact le1 _ _ (by omega) (by omega) (by omega)
  · rw [r4 p hp, r4 q (by omega)]; exact le2 _ _ (by omega) (by omega) hq
  · by_cases c1 : p < s
    · rw [r1 p c1]
      by_cases c2 : q < e
      · rw [r3 q hqm c2]; exact le1 _ _ hp (by omega) (by omega)
      · rw [r4 q (by omega)]
        exact hS.ntrans _ _ _ (le2 e q (by omega) (by omega) hq) (hS.ntrans _ _ _ (hx (by omega) (by omega)) (le1 p (s - 1) hp (by omega) (by omega)))
    · rw [r2 p (by omega) hpm]
      by_cases c2 : q < e
      · rw [r3 q hqm c2]
        exact hS.ntrans _ _ _ (le1 s _ has (by omega) (by omega)) (hS.ntrans _ _ _ (hy (by omega) (by omega)) (le2 _ (e - 1) (by omega) (by omega) (by omega)))
      · rw [r4 q (by omega)]; exact le2 _ _ (by omega) (by omega) hq
/-- The parts sorted each, the whole is. -/
theorem sym_done {L : Int → Int → Bool} {a mid b : Nat} {d d3 d4 : Array Int} (h : ∀ p q, a ≤ p → p < mid → mid ≤ q → q < b → L d[q]! d[p]! = false) (ham : a ≤ mid) (hmb : mid ≤ b) (hb : b ≤ d.size)
    (p1 : PermIn a mid d d3) (s1 : SortedIn L a mid d3) (p2 : PermIn mid b d3 d4) (s2 : SortedIn L mid b d4) : PermIn a b d d4 ∧ SortedIn L a b d4 := by
  have hb3 : b ≤ d3.size := by rw [p1.1]; exact hb
  refine ⟨permIn_trans _ _ _ _ _ (permIn_mono _ _ a mid a b (Nat.le_refl _) hmb hb p1) (permIn_mono _ _ mid b a b ham (Nat.le_refl _) hb3 p2), glue (fun p q hp hpq hq => ?_) s2 fun p q hp hpm hqm hq => ?_⟩
  · rw [p2.2.1 p (Or.inl (by omega)), p2.2.1 q (Or.inl hq)]
    exact s1 p q hp hpq hq
  · rw [p2.2.1 p (Or.inl hpm)]
    refine permIn_all d3 d4 mid b (fun v => L v d3[p]! = false) hb3 p2 (fun q' h1 h2 => ?_) q hqm hq
    rw [p1.2.1 q' (Or.inr h1)]
    exact permIn_all d d3 a mid (fun v => L d[q']! v = false) (by omega) p1 (fun p' h3 h4 => h p' q' h3 h4 h1 h2) p hp hpm
theorem rot_nil (s m : Nat) (d : Array Int) (_ : s ≤ m) (k : Nat) : d[k]! = rotF s m m d k := by
  unfold rotF
  rw [if_neg (by omega)]
  by_cases c : s + (m - m) ≤ k ∧ k < m
  · rw [if_pos c]; congr 1; omega
  · rw [if_neg c]
/-- One place carried up by exchanges. -/
theorem bub_up {a t : Nat} {d d' : Array Int} (hs : d'.size = d.size) (hb : a + t + 1 < d.size) (h : ∀ k, d'[k]! = rotF a (a + 1) (a + 1 + t) d k) (k : Nat) : (swp d' (a + t) (a + t + 1))[k]! = rotF a (a + 1) (a + 1 + (t + 1)) d k := by
  rw [swp_get d' (by omega) (by omega) k]
  unfold rotF at h ⊢
  have e1 : a + 1 + t - (a + 1) = t := by omega
  have e2 : a + 1 + (t + 1) - (a + 1) = t + 1 := by omega
  rw [e1] at h
  rw [e2]
  by_cases c1 : k = a + t + 1
  · subst c1
    rw [if_pos rfl, h]
    have d1 : ¬ (a ≤ a + t ∧ a + t < a + t) := by omega
    have d2 : a + t ≤ a + t ∧ a + t < a + 1 + t := by omega
    have d3 : ¬ (a ≤ a + t + 1 ∧ a + t + 1 < a + (t + 1)) := by omega
    have d4 : a + (t + 1) ≤ a + t + 1 ∧ a + t + 1 < a + 1 + (t + 1) := by omega
    rw [if_neg d1, if_pos d2, if_neg d3, if_pos d4]
    congr 1; omega
  · rw [if_neg c1]
    by_cases c2 : k = a + t
    · subst c2
      rw [if_pos rfl, h]
      have d1 : ¬ (a ≤ a + t + 1 ∧ a + t + 1 < a + t) := by omega
      have d2 : ¬ (a + t ≤ a + t + 1 ∧ a + t + 1 < a + 1 + t) := by omega
      have d3 : a ≤ a + t ∧ a + t < a + (t + 1) := by omega
      rw [if_neg d1, if_neg d2, if_pos d3]
      congr 1; omega
    · rw [if_neg c2, h]
      by_cases c3 : a ≤ k ∧ k < a + t
      · have d3 : a ≤ k ∧ k < a + (t + 1) := by omega
        rw [if_pos c3, if_pos d3]
      · have d3 : ¬ (a ≤ k ∧ k < a + (t + 1)) := by omega
        have d4 : ¬ (a + t ≤ k ∧ k < a + 1 + t) := by omega
        have d5 : ¬ (a + (t + 1) ≤ k ∧ k < a + 1 + (t + 1)) := by omega
        rw [if_neg c3, if_neg d3, if_neg d4, if_neg d5]
/-- One place carried down by exchanges. -/
theorem bub_down {m t : Nat} {d d' : Array Int} (hs : d'.size = d.size) (ht : t < m) (hb : m < d.size) (h : ∀ k, d'[k]! = rotF (m - t) m (m + 1) d k) (k : Nat) : (swp d' (m - t) (m - t - 1))[k]! = rotF (m - (t + 1)) m (m + 1) d k := by
  rw [swp_get d' (by omega) (by omega) k]
  unfold rotF at h ⊢
  have e1 : m + 1 - m = 1 := by omega
  rw [e1] at h ⊢
  by_cases c1 : k = m - t - 1
  · subst c1
    rw [if_pos rfl, h]
    have d1 : m - t ≤ m - t ∧ m - t < m - t + 1 := by omega
    have d2 : m - (t + 1) ≤ m - t - 1 ∧ m - t - 1 < m - (t + 1) + 1 := by omega
    rw [if_pos d1, if_pos d2]
    congr 1; omega
  · rw [if_neg c1]
    by_cases c2 : k = m - t
    · subst c2
      rw [if_pos rfl, h]
      have d1 : ¬ (m - t ≤ m - t - 1 ∧ m - t - 1 < m - t + 1) := by omega
      have d2 : ¬ (m - t + 1 ≤ m - t - 1 ∧ m - t - 1 < m + 1) := by omega
      have d3 : ¬ (m - (t + 1) ≤ m - t ∧ m - t < m - (t + 1) + 1) := by omega
      have d4 : m - (t + 1) + 1 ≤ m - t ∧ m - t < m + 1 := by omega
      rw [if_neg d1, if_neg d2, if_neg d3, if_pos d4]
      congr 1; omega
    · rw [if_neg c2, h]
      by_cases c3 : m - t ≤ k ∧ k < m - t + 1
      · omega
      · have d3 : ¬ (m - (t + 1) ≤ k ∧ k < m - (t + 1) + 1) := by omega
        rw [if_neg c3, if_neg d3]
        by_cases c4 : m - t + 1 ≤ k ∧ k < m + 1
        · have d4 : m - (t + 1) + 1 ≤ k ∧ k < m + 1 := by omega
          rw [if_pos c4, if_pos d4]
          congr 1; omega
        · have d4 : ¬ (m - (t + 1) + 1 ≤ k ∧ k < m + 1) := by omega
          rw [if_neg c4, if_neg d4]
/-- A single place ahead of a sorted part, carried to where it belongs. -/
theorem up_sorted {L : Int → Int → Bool} (hS : SWO L) {a b i : Nat} {d d2 : Array Int} (h2 : SortedIn L (a + 1) b d) (hi : a + 1 ≤ i) (hib : i ≤ b) (hlt : ∀ q, a + 1 ≤ q → q < i → L d[q]! d[a]! = true) (hge : i < b → L d[i]! d[a]! = false) (hr : ∀ k, d2[k]! = rotF a (a + 1) i d k) : SortedIn L a b d2 := by
  have r2 : ∀ k, a ≤ k → k < i - 1 → d2[k]! = d[k + 1]! := fun k h h' => by
    rw [hr, rotF, if_pos (by omega)]; congr 1; omega
  have r3 : d2[i - 1]! = d[a]! := by
    rw [hr, rotF, if_neg (by omega), if_pos (by omega)]; congr 1; omega
  have r4 : ∀ k, i ≤ k → d2[k]! = d[k]! := fun k hk => by rw [hr, rotF, if_neg (by omega), if_neg (by omega)]
  intro p q hp hpq hq
  by_cases c1 : q < i - 1
  · rw [r2 p hp (by omega), r2 q (by omega) c1]; exact h2 _ _ (by omega) (by omega) (by omega)
  · by_cases c2 : q = i - 1
    · subst c2
      rw [r3, r2 p hp (by omega)]
      cases hh : L d[a]! d[p + 1]! with
      | false => rfl
      | true =>
        have := hS.trans _ _ _ hh (hlt (p + 1) (by omega) (by omega))
        rw [hS.irrefl] at this; cases this
    · have hqa : L d[q]! d[a]! = false := by
        rcases Nat.lt_or_eq_of_le (show i ≤ q by omega) with h3 | rfl
        · exact hS.ntrans _ _ _ (h2 i q hi h3 hq) (hge (by omega))
        · exact hge hq
      rw [r4 q (by omega)]
      by_cases c3 : p < i - 1
      · rw [r2 p hp c3]; exact h2 _ _ (by omega) (by omega) hq
      · by_cases c4 : p = i - 1
        · subst c4; rw [r3]; exact hqa
        · rw [r4 p (by omega)]; exact h2 _ _ (by omega) hpq hq
/-- A single place behind a sorted part, carried to where it belongs. -/
theorem down_sorted {L : Int → Int → Bool} (hS : SWO L) {a m i : Nat} {d d2 : Array Int} (h1 : SortedIn L a m d) (hi : a ≤ i) (him : i ≤ m) (hge : ∀ q, a ≤ q → q < i → L d[m]! d[q]! = false) (hlt : ∀ q, i ≤ q → q < m → L d[m]! d[q]! = true) (hr : ∀ k, d2[k]! = rotF i m (m + 1) d k) : SortedIn L a (m + 1) d2 := by
  have r1 : ∀ k, k < i → d2[k]! = d[k]! := fun k hk => by rw [hr, rotF, if_neg (by omega), if_neg (by omega)]
  have r2 : d2[i]! = d[m]! := by
    rw [hr, rotF, if_pos (by omega)]; congr 1; omega
  have r3 : ∀ k, i < k → k ≤ m → d2[k]! = d[k - 1]! := fun k h h' => by
    rw [hr, rotF, if_neg (by omega), if_pos (by omega)]; congr 1; omega
  intro p q hp hpq hq
  by_cases c1 : q < i
  · rw [r1 p (by omega), r1 q c1]; exact h1 p q hp hpq (by omega)
  · by_cases c2 : q = i
    · subst c2; rw [r2, r1 p hpq]; exact hge p hp hpq
    · rw [r3 q (by omega) (by omega)]
      by_cases c3 : p < i
      · rw [r1 p c3]; exact h1 _ _ hp (by omega) (by omega)
      · by_cases c4 : p = i
        · subst c4
          rw [r2]
          cases hh : L d[q - 1]! d[m]! with
          | false => rfl
          | true =>
            have := hS.trans _ _ _ hh (hlt (q - 1) (by omega) (by omega))
            rw [hS.irrefl] at this; cases this
        · rw [r3 p (by omega) (by omega)]; exact h1 _ _ (by omega) (by omega) (by omega)
end Go.Proofs.Ythimpgnagjgmdaa
