/- Sheets over one another, changes: plain Lean. -/
import Derived.Test.YtpnmficlebnajaaF13
import Derived.Test.YtpnmficlebnajaaH2
namespace Go.Proofs.Ytpnmficlebnajaa

theorem Ent.same {x y : Ent} (h1 : x.n = y.n) (h2 : x.t = y.t) : x = y := by
  cases x; cases y; simp only at h1 h2; subst h1; subst h2; rfl
theorem getR_nil (n : List UInt8) : getR [] n = none := rfl
theorem getR_cons (x : Ent) (l : List Ent) (n : List UInt8) : getR (x :: l) n = if x.n = n then some x.t else getR l n := by
  unfold getR
  rw [List.find?_cons]
  by_cases h : x.n = n
  · simp [h]
  · have : (x.n == n) = false := by simpa using h
    rw [this, if_neg h]
theorem getR_mem {l : List Ent} {n : List UInt8} {t : ByteArray} (h : getR l n = some t) : ∃ e ∈ l, e.n = n ∧ e.t = t := by
  unfold getR at h
  rw [Option.map_eq_some_iff] at h
  obtain ⟨e, he, rfl⟩ := h
  exact ⟨e, List.mem_of_find?_eq_some he, by simpa using List.find?_some he, rfl⟩
theorem getR_no {l : List Ent} {n : List UInt8} (h : ∀ e ∈ l, e.n ≠ n) : getR l n = none := by
  cases hg : getR l n with
  | none => rfl
  | some t => obtain ⟨e, he, h1, _⟩ := getR_mem hg; exact absurd h1 (h e he)
/-- Rising names, all right. -/
structure UpR (y : List Ent) : Prop where
  up : y.Pairwise fun a b => lessR a.n b.n = true
  right : ∀ e ∈ y, rightB e.n = true
theorem UpR.nil : UpR [] := ⟨.nil, fun _ h => by cases h⟩
theorem Good.upR {x : List Ent} (h : Good x) : UpR x := ⟨h.up, fun e he => (h.each e he).1⟩
theorem UpR.tail {x : Ent} {l : List Ent} (h : UpR (x :: l)) : UpR l := ⟨(List.pairwise_cons.1 h.up).2, fun e he => h.right e (List.mem_cons_of_mem _ he)⟩
theorem UpR.head {x : Ent} {l : List Ent} (h : UpR (x :: l)) : ∀ e ∈ l, lessR x.n e.n = true := (List.pairwise_cons.1 h.up).1
theorem less_ne {a b : List UInt8} (h : lessR a b = true) : a ≠ b := fun e => by rw [e, lessR_irrefl] at h; cases h
theorem Ent.tr {x y z : Ent} (h1 : lessR x.n y.n = true) (h2 : lessR y.n z.n = true) : lessR x.n z.n = true := lessR_trans _ _ _ (x.hn.trans y.hn.symm) (y.hn.trans z.hn.symm) h1 h2
theorem UpR.not_below {x : Ent} {l : List Ent} (h : UpR (x :: l)) {n : List UInt8} (h12 : n.length = 12) (hn : lessR n x.n = true) : getR (x :: l) n = none := by
  refine getR_no fun e he => ?_
  rcases List.mem_cons.1 he with rfl | he
  · exact (less_ne hn).symm
  · exact (less_ne (lessR_trans _ _ _ (h12.trans x.hn.symm) (x.hn.trans e.hn.symm) hn (h.head e he))).symm
theorem UpR.not_again {x : Ent} {l : List Ent} (h : UpR (x :: l)) : getR l x.n = none := getR_no fun e he => (less_ne (h.head e he)).symm
theorem UpR.get {l : List Ent} (h : UpR l) : ∀ e ∈ l, getR l e.n = some e.t := by
  induction l with
  | nil => intro e he; cases he
  | cons x l ih =>
    intro e he
    rw [getR_cons]
    rcases List.mem_cons.1 he with rfl | he
    · rw [if_pos rfl]
    · rw [if_neg (less_ne (h.head e he)), ih h.tail e he]
/-- Two that rise are one list if they tell the same texts. -/
theorem UpR.ext : ∀ {y z : List Ent}, UpR y → UpR z → (∀ n, n.length = 12 → getR y n = getR z n) → y = z
  | [], [], _, _, _ => rfl
  | [], f :: z, _, _, h => by have := h f.n f.hn; rw [getR_cons, if_pos rfl] at this; cases this
  | e :: y, [], _, _, h => by have := h e.n e.hn; rw [getR_cons, if_pos rfl] at this; cases this
  | e :: y, f :: z, hy, hz, h => by
    have h1 := h e.n e.hn
    have h2 := h f.n f.hn
    have hef : e.n = f.n := by
      cases l1 : lessR e.n f.n
      · cases l2 : lessR f.n e.n
        · exact lessR_total _ _ (e.hn.trans f.hn.symm) l1 l2
        · rw [hy.not_below f.hn l2, getR_cons, if_pos rfl] at h2; cases h2
      · rw [hz.not_below e.hn l1, getR_cons, if_pos rfl] at h1; cases h1
    have ht : e.t = f.t := by
      rw [getR_cons, if_pos rfl, getR_cons, if_pos hef.symm] at h1
      exact Option.some.inj h1
    obtain rfl := Ent.same hef ht
    rw [UpR.ext hy.tail hz.tail fun n hn => ?_]
    by_cases hne : e.n = n
    · subst hne; rw [hy.not_again, hz.not_again]
    · have := h n hn
      rw [getR_cons, if_neg hne, getR_cons, if_neg hne] at this
      exact this
/-- One over another one. -/
def overL : List Ent → List Ent → List Ent
  | [], b => b
  | x :: a, [] => x :: a
  | x :: a, y :: b => if lessR x.n y.n then x :: overL a (y :: b) else if x.n = y.n then y :: overL a b else y :: overL (x :: a) b
termination_by a b => a.length + b.length
theorem over_nil (a : List Ent) : overL a [] = a := by cases a <;> simp [overL]
theorem nil_over (b : List Ent) : overL [] b = b := by simp [overL]
theorem over_less {x y : Ent} {a b : List Ent} (h : lessR x.n y.n = true) : overL (x :: a) (y :: b) = x :: overL a (y :: b) := by rw [overL, if_pos h]
theorem over_same {x y : Ent} {a b : List Ent} (h : x.n = y.n) : overL (x :: a) (y :: b) = y :: overL a b := by
  rw [overL, if_neg (by rw [h, lessR_irrefl]; exact Bool.false_ne_true), if_pos h]
theorem over_more {x y : Ent} {a b : List Ent} (h : lessR x.n y.n = false) (hn : x.n ≠ y.n) : overL (x :: a) (y :: b) = y :: overL (x :: a) b := by
  rw [overL, if_neg (by rw [h]; exact Bool.false_ne_true), if_neg hn]
theorem over_mem {a b : List Ent} : ∀ e ∈ overL a b, e ∈ a ∨ e ∈ b := by
  induction a, b using overL.induct with
  | case1 b => intro e he; rw [nil_over] at he; exact .inr he
  | case2 x a => intro e he; rw [over_nil] at he; exact .inl he
  | case3 x a y b h ih =>
    intro e he
    rw [over_less h] at he
    rcases List.mem_cons.1 he with rfl | he
    · exact .inl (by simp)
    · rcases ih e he with h | h
      · exact .inl (List.mem_cons_of_mem _ h)
      · exact .inr h
  | case4 x a y b h h2 ih =>
    intro e he
    rw [over_same h2] at he
    rcases List.mem_cons.1 he with rfl | he
    · exact .inr (by simp)
    · rcases ih e he with h | h
      · exact .inl (List.mem_cons_of_mem _ h)
      · exact .inr (List.mem_cons_of_mem _ h)
  | case5 x a y b h h2 ih =>
    intro e he
    rw [over_more (by simpa using h) h2] at he
    rcases List.mem_cons.1 he with rfl | he
    · exact .inr (by simp)
    · rcases ih e he with h | h
      · exact .inl h
      · exact .inr (List.mem_cons_of_mem _ h)
theorem turned {x y : Ent} (h : ¬ lessR x.n y.n = true) (hn : ¬ x.n = y.n) : lessR y.n x.n = true := by
  cases l2 : lessR y.n x.n
  · exact absurd (lessR_total _ _ (x.hn.trans y.hn.symm) (by simpa using h) l2) hn
  · rfl
theorem over_up {a b : List Ent} (ha : UpR a) (hb : UpR b) : UpR (overL a b) := by
  refine ⟨?_, fun e he => (over_mem e he).elim (ha.right e) (hb.right e)⟩
  induction a, b using overL.induct with
  | case1 b => rw [nil_over]; exact hb.up
  | case2 x a => rw [over_nil]; exact ha.up
  | case3 x a y b h ih =>
    rw [over_less h, List.pairwise_cons]
    refine ⟨fun e he => ?_, ih ha.tail hb⟩
    rcases over_mem e he with he | he
    · exact ha.head e he
    · rcases List.mem_cons.1 he with rfl | he
      · exact h
      · exact Ent.tr h (hb.head e he)
  | case4 x a y b h h2 ih =>
    rw [over_same h2, List.pairwise_cons]
    refine ⟨fun e he => ?_, ih ha.tail hb.tail⟩
    rcases over_mem e he with he | he
    · rw [← h2]; exact ha.head e he
    · exact hb.head e he
  | case5 x a y b h h2 ih =>
    have ht := turned h h2
    rw [over_more (by simpa using h) h2, List.pairwise_cons]
    refine ⟨fun e he => ?_, ih ha hb.tail⟩
    rcases over_mem e he with he | he
    · rcases List.mem_cons.1 he with rfl | he
      · exact ht
      · exact Ent.tr ht (ha.head e he)
    · exact hb.head e he
theorem getR_over {a b : List Ent} (ha : UpR a) (hb : UpR b) (n : List UInt8) (hn : n.length = 12) : getR (overL a b) n = (getR b n).or (getR a n) := by
  induction a, b using overL.induct with
  | case1 b => rw [nil_over]; simp [getR_nil]
  | case2 x a => rw [over_nil]; simp [getR_nil]
  | case3 x a y b h ih =>
    rw [over_less h, getR_cons, ih ha.tail hb]
    by_cases e : x.n = n
    · subst e
      rw [if_pos rfl, hb.not_below x.hn h, getR_cons x, if_pos rfl]; rfl
    · rw [if_neg e, getR_cons x, if_neg e]
  | case4 x a y b h h2 ih =>
    rw [over_same h2, getR_cons, ih ha.tail hb.tail, getR_cons y, getR_cons x]
    by_cases e : y.n = n
    · rw [if_pos e, if_pos e]; rfl
    · rw [if_neg e, if_neg e, if_neg (h2 ▸ e)]
  | case5 x a y b h h2 ih =>
    rw [over_more (by simpa using h) h2, getR_cons, ih ha hb.tail, getR_cons y]
    by_cases e : y.n = n
    · rw [if_pos e, if_pos e]; rfl
    · rw [if_neg e, if_neg e]
theorem over_len {a b : List Ent} (ha : UpR a) (hb : UpR b) : (overL a b).length = b.length + (a.filter fun e => (getR b e.n).isNone).length := by
  induction a, b using overL.induct with
  | case1 b => rw [nil_over]; simp
  | case2 x a => rw [over_nil, (List.filter_eq_self (l := x :: a) (p := fun e => (getR [] e.n).isNone)).2 (fun _ _ => rfl), List.length_nil, Nat.zero_add]
  | case3 x a y b h ih =>
    rw [over_less h, List.filter_cons_of_pos (by rw [hb.not_below x.hn h]; rfl), List.length_cons, ih ha.tail hb]
    simp only [List.length_cons]
    omega
  | case4 x a y b h h2 ih =>
    have e : a.filter (fun e => (getR (y :: b) e.n).isNone) = a.filter fun e => (getR b e.n).isNone := List.filter_congr fun e he => by
      rw [getR_cons, if_neg (by rw [← h2]; exact less_ne (ha.head e he))]
    rw [over_same h2, List.filter_cons_of_neg (by rw [h2, getR_cons, if_pos rfl]; simp), List.length_cons, ih ha.tail hb.tail, e]
    simp only [List.length_cons]
    omega
  | case5 x a y b h h2 ih =>
    have ht := turned h h2
    have e : (x :: a).filter (fun e => (getR (y :: b) e.n).isNone) = (x :: a).filter fun e => (getR b e.n).isNone := List.filter_congr fun e he => by
      have : lessR y.n e.n = true := by
        rcases List.mem_cons.1 he with rfl | he
        · exact ht
        · exact Ent.tr ht (ha.head e he)
      rw [getR_cons, if_neg (less_ne this)]
    rw [over_more (by simpa using h) h2, List.length_cons, ih ha hb.tail, e]
    simp only [List.length_cons]
    omega
theorem over_le (a b : List Ent) : (overL a b).length ≤ a.length + b.length := by
  induction a, b using overL.induct with
  | case1 b => rw [nil_over]; simp
  | case2 x a => rw [over_nil]; simp
  | case3 x a y b h ih => rw [over_less h]; simp only [List.length_cons] at *; omega
  | case4 x a y b h h2 ih => rw [over_same h2]; simp only [List.length_cons] at *; omega
  | case5 x a y b h h2 ih => rw [over_more (by simpa using h) h2]; simp only [List.length_cons] at *; omega
/-- A change. -/
structure Ch where
  n : List UInt8
  hn : n.length = 12
  k : Int
  was : ByteArray
  is : ByteArray
def chOf (a b : List Ent) (x : Ent) : Option Ch :=
  match getR a x.n, getR b x.n with
  | none, t => some ⟨x.n, x.hn, 1, ⟨#[]⟩, t.getD ⟨#[]⟩⟩
  | some s, none => some ⟨x.n, x.hn, 2, s, ⟨#[]⟩⟩
  | some s, some t => if s = t then none else some ⟨x.n, x.hn, 3, s, t⟩
def diffL (a b : List Ent) : List Ch := (overL a b).filterMap (chOf a b)
def wipe (l : List Ent) (n : List UInt8) : List Ent := l.filter fun e => !(e.n == n)
theorem UpR.wipe {l : List Ent} (h : UpR l) (n : List UInt8) : UpR (wipe l n) := ⟨h.up.sublist List.filter_sublist, fun e he => h.right e (List.mem_filter.1 he).1⟩
theorem getR_wipe (l : List Ent) (n m : List UInt8) : getR (wipe l n) m = if m = n then none else getR l m := by
  induction l with
  | nil => simp [wipe, getR_nil]
  | cons x l ih =>
    unfold Go.Proofs.Ytpnmficlebnajaa.wipe at ih ⊢
    by_cases h : x.n = n
    · rw [List.filter_cons_of_neg (by simp [h]), ih]
      by_cases e : m = n
      · rw [if_pos e, if_pos e]
      · rw [if_neg e, if_neg e, getR_cons, if_neg (fun h2 => e (h2.symm.trans h))]
    · rw [List.filter_cons_of_pos (by simp [h]), getR_cons, ih, getR_cons]
      by_cases e : m = n
      · rw [if_pos e, if_neg (fun h2 => h (h2.trans e))]; simp [e]
      · rw [if_neg e, if_neg e]
def put1 (l : List Ent) (n : List UInt8) (hn : n.length = 12) (t : ByteArray) : List Ent := overL (wipe l n) [⟨n, hn, t⟩]
theorem UpR.one {e : Ent} (h : rightB e.n = true) : UpR [e] := ⟨List.pairwise_singleton _ _, fun x hx => by rw [List.mem_singleton] at hx; rw [hx]; exact h⟩
theorem UpR.put1 {l : List Ent} (h : UpR l) {n : List UInt8} (hn : n.length = 12) (t : ByteArray) (hr : rightB n = true) : UpR (put1 l n hn t) := over_up (h.wipe n) (UpR.one hr)
theorem getR_put1 {l : List Ent} (h : UpR l) {n : List UInt8} (hn : n.length = 12) (t : ByteArray) (hr : rightB n = true) (m : List UInt8) (hm : m.length = 12) : getR (put1 l n hn t) m = if m = n then some t else getR l m := by
  unfold Go.Proofs.Ytpnmficlebnajaa.put1
  rw [getR_over (h.wipe n) (UpR.one hr) m hm, getR_cons, getR_nil, getR_wipe]
  by_cases e : n = m
  · subst e; rw [if_pos rfl]; simp
  · rw [if_neg e, if_neg (Ne.symm e), if_neg (Ne.symm e)]; rfl
def errA (l : List Ent) (c : Ch) : Nat :=
  if (c.k = 2 ∨ c.k = 3) ∧ getR l c.n ≠ some c.was then 7 else if c.k = 1 ∧ (getR l c.n).isSome = true then 8 else if c.k < 1 ∨ 3 < c.k then 16 else 0
def nextA (l : List Ent) (c : Ch) : List Ent := if c.k = 2 then wipe l c.n else put1 l c.n c.hn c.is
def applyE : List Ent → List Ch → Nat
  | _, [] => 0
  | l, c :: cs => if errA l c = 0 then applyE (nextA l c) cs else errA l c
def applyL : List Ent → List Ch → List Ent
  | l, [] => l
  | l, c :: cs => if errA l c = 0 then applyL (nextA l c) cs else []
theorem UpR.next {l : List Ent} (h : UpR l) {c : Ch} (hr : rightB c.n = true) : UpR (nextA l c) := by
  unfold nextA
  split
  · exact h.wipe _
  · exact h.put1 _ _ hr
theorem next_le (l : List Ent) (c : Ch) : (nextA l c).length ≤ l.length + 1 := by
  have h1 : (wipe l c.n).length ≤ l.length := List.length_filter_le _ _
  unfold nextA
  split
  · omega
  · unfold put1
    have := over_le (wipe l c.n) [⟨c.n, c.hn, c.is⟩]
    simp only [List.length_singleton] at this
    omega
theorem getR_next {l : List Ent} (h : UpR l) {c : Ch} (hr : rightB c.n = true) (m : List UInt8) (hm : m.length = 12) : getR (nextA l c) m = if m = c.n then (if c.k = 2 then none else some c.is) else getR l m := by
  unfold nextA
  split
  · rw [getR_wipe]
  · rw [getR_put1 h _ _ hr m hm]
theorem over_get {a b : List Ent} (ha : UpR a) (hb : UpR b) {e : Ent} (he : e ∈ overL a b) : getR a e.n ≠ none ∨ getR b e.n ≠ none := by
  rcases over_mem e he with h | h
  · exact .inl (by rw [ha.get e h]; exact Option.some_ne_none _)
  · exact .inr (by rw [hb.get e h]; exact Option.some_ne_none _)
/-- What a list tells behind some changes. -/
theorem apply_tail {x y : List Ent} (hx : UpR x) (hy : UpR y) : ∀ (z p l : List Ent), p ++ z = overL x y → UpR l → (∀ m, m.length = 12 → getR l m = if m ∈ p.map Ent.n then getR y m else getR x m) →
    applyE l (z.filterMap (chOf x y)) = 0 ∧ applyL l (z.filterMap (chOf x y)) = y
  | [], p, l, hp, hl, h => by
    refine ⟨rfl, UpR.ext hl hy fun m hm => ?_⟩
    show getR l m = getR y m
    rw [h m hm]
    split
    · rfl
    · rename_i hc
      have hg : getR (overL x y) m = none := getR_no fun e he hn => hc (by rw [List.append_nil] at hp; rw [hp]; exact List.mem_map.2 ⟨e, he, hn⟩)
      rw [getR_over hx hy m hm] at hg
      cases h1 : getR y m with
      | none => rw [h1] at hg; exact hg
      | some t => rw [h1] at hg; cases hg
  | e :: z, p, l, hp, hl, h => by
    have hu := over_up hx hy
    have hmem : e ∈ overL x y := by rw [← hp]; simp
    have hr : rightB e.n = true := hu.right e hmem
    have hnp : e.n ∉ p.map Ent.n := fun hc => by
      obtain ⟨f, hf, hfe⟩ := List.mem_map.1 hc
      have h1 := hu.up
      rw [← hp, List.pairwise_append] at h1
      exact less_ne (h1.2.2 f hf e (by simp)) hfe
    have hle : getR l e.n = getR x e.n := by rw [h e.n e.hn, if_neg hnp]
    have hp' : (p ++ [e]) ++ z = overL x y := by rw [← hp]; simp
    have hin : ∀ m, m ∈ (p ++ [e]).map Ent.n ↔ m ∈ p.map Ent.n ∨ m = e.n := fun m => by simp
    have go : ∀ (c : Ch), c.n = e.n → errA l c = 0 → (if c.k = 2 then none else some c.is) = getR y e.n → applyE l ((some c).toList ++ z.filterMap (chOf x y)) = 0 ∧ applyL l ((some c).toList ++ z.filterMap (chOf x y)) = y := fun c hc he hv => by
      have hcr : rightB c.n = true := by rw [hc]; exact hr
      have ih := apply_tail hx hy z (p ++ [e]) (nextA l c) hp' (hl.next hcr) fun m hm => by
        rw [getR_next hl hcr m hm, hc, hv]
        by_cases hm2 : m = e.n
        · rw [if_pos hm2, if_pos ((hin m).2 (.inr hm2)), hm2]
        · rw [if_neg hm2, h m hm]
          by_cases hmp : m ∈ p.map Ent.n
          · rw [if_pos hmp, if_pos ((hin m).2 (.inl hmp))]
          · rw [if_neg hmp, if_neg (fun hc => ((hin m).1 hc).elim hmp hm2)]
      show (if errA l c = 0 then _ else _) = 0 ∧ (if errA l c = 0 then _ else _) = y
      rw [if_pos he, if_pos he]
      exact ih
    have hcons : (e :: z).filterMap (chOf x y) = (chOf x y e).toList ++ z.filterMap (chOf x y) := by
      rw [List.filterMap_cons]; cases chOf x y e <;> rfl
    rw [hcons]
    have hor := over_get hx hy hmem
    cases h1 : getR x e.n with
    | none =>
      cases h2 : getR y e.n with
      | none => rw [h1, h2] at hor; simp at hor
      | some t =>
        have hch : chOf x y e = some ⟨e.n, e.hn, 1, ⟨#[]⟩, t⟩ := by unfold chOf; rw [h1, h2]; rfl
        rw [hch]
        exact go _ rfl (by simp [errA, hle, h1]) (by simp [h2])
    | some s =>
      cases h2 : getR y e.n with
      | none =>
        have hch : chOf x y e = some ⟨e.n, e.hn, 2, s, ⟨#[]⟩⟩ := by unfold chOf; rw [h1, h2]
        rw [hch]
        exact go _ rfl (by simp [errA, hle, h1]) (by simp [h2])
      | some t =>
        by_cases hst : s = t
        · have hch : chOf x y e = none := by unfold chOf; rw [h1, h2]; simp [hst]
          rw [hch]
          refine apply_tail hx hy z (p ++ [e]) l hp' hl fun m hm => ?_
          rw [h m hm]
          by_cases hm2 : m = e.n
          · subst hm2
            rw [if_neg hnp, if_pos ((hin _).2 (.inr rfl)), h1, h2, hst]
          · by_cases hmp : m ∈ p.map Ent.n
            · rw [if_pos hmp, if_pos ((hin m).2 (.inl hmp))]
            · rw [if_neg hmp, if_neg (fun hc => ((hin m).1 hc).elim hmp hm2)]
        · have hch : chOf x y e = some ⟨e.n, e.hn, 3, s, t⟩ := by unfold chOf; rw [h1, h2]; simp [hst]
          rw [hch]
          exact go _ rfl (by simp [errA, hle, h1]) (by simp [h2])
theorem apply_diff {x y : List Ent} (hx : UpR x) (hy : UpR y) : applyE x (diffL x y) = 0 ∧ applyL x (diffL x y) = y :=
  apply_tail hx hy (overL x y) [] x rfl hx fun m _ => by simp
theorem diff_same (x : List Ent) : diffL x x = [] := by
  unfold diffL
  rw [List.filterMap_eq_nil_iff]
  intro e he
  have hm : e ∈ x := (over_mem e he).elim id id
  unfold chOf
  cases h : getR x e.n with
  | none =>
    exfalso
    have : ∀ {l : List Ent}, e ∈ l → getR l e.n ≠ none := fun {l} hl hn => by
      unfold getR at hn
      rw [Option.map_eq_none_iff, List.find?_eq_none] at hn
      exact hn e hl (by simp)
    exact this hm h
  | some s => simp
theorem diff_right {x y : List Ent} (hx : UpR x) (hy : UpR y) : ∀ c ∈ diffL x y, rightB c.n = true := fun c hc => by
  unfold diffL at hc
  obtain ⟨e, he, h⟩ := List.mem_filterMap.1 hc
  have hr := (over_up hx hy).right e he
  unfold chOf at h
  split at h
  · rw [← Option.some.inj h]; exact hr
  · rw [← Option.some.inj h]; exact hr
  · split at h
    · cases h
    · rw [← Option.some.inj h]; exact hr
/-- Maps and lists. -/
theorem getM_nil (k : List UInt8) : getM [] k = none := rfl
theorem getM_cons (x : List UInt8 × ByteArray) (m : TM) (k : List UInt8) : getM (x :: m) k = if x.1 = k then some x.2 else getM m k := by
  unfold getM
  rw [List.find?_cons]
  by_cases h : x.1 = k
  · simp [h]
  · have : (x.1 == k) = false := by simpa using h
    rw [this, if_neg h]
theorem getM_put : ∀ (m : TM) (k : List UInt8) (v : ByteArray) (j : List UInt8), getM (putM m k v) j = if j = k then some v else getM m j
  | [], k, v, j => by
    rw [putM, getM_cons, getM_nil]
    by_cases h : k = j
    · rw [if_pos h, if_pos h.symm]
    · rw [if_neg h, if_neg (Ne.symm h)]
  | x :: m, k, v, j => by
    rw [putM]
    by_cases h : x.1 = k
    · rw [if_pos h, getM_cons, getM_cons]
      by_cases e : j = k
      · rw [if_pos e, if_pos e.symm]
      · rw [if_neg e, if_neg (Ne.symm e), if_neg (fun h2 => e (h2.symm.trans h))]
    · rw [if_neg h, getM_cons, getM_put m k v j, getM_cons]
      by_cases e : x.1 = j
      · rw [if_pos e, if_neg (fun h2 => h (e.trans h2)), if_pos e]
      · rw [if_neg e, if_neg e]
theorem getM_del : ∀ (m : TM) (k j : List UInt8), getM (delM m k) j = if j = k then none else getM m j
  | [], k, j => by simp [delM, getM_nil]
  | x :: m, k, j => by
    have ih := getM_del m k j
    unfold delM at ih ⊢
    by_cases h : x.1 = k
    · rw [List.filter_cons_of_neg (by simp [h]), ih, getM_cons]
      by_cases e : j = k
      · rw [if_pos e, if_pos e]
      · rw [if_neg e, if_neg e, if_neg (fun h2 => e (h2.symm.trans h))]
    · rw [List.filter_cons_of_pos (by simp [h]), getM_cons, ih, getM_cons]
      by_cases e : x.1 = j
      · rw [if_pos e, if_pos e, if_neg (fun h2 => h (e.trans h2))]
      · rw [if_neg e, if_neg e]
/-- A map that tells what a list tells. -/
def Tells (m : TM) (l : List Ent) : Prop := ∀ n, n.length = 12 → getM m n = getR l n
theorem getM_putE : ∀ (l : List Ent) (m : TM), UpR l → ∀ n, getM (l.foldl (fun m x => putM m x.n x.t) m) n = (getR l n).or (getM m n)
  | [], m, _, n => by simp [getR_nil]
  | x :: l, m, h, n => by
    rw [List.foldl_cons, getM_putE l _ h.tail n, getM_put, getR_cons]
    by_cases e : x.n = n
    · subst e; rw [if_pos rfl, if_pos rfl, h.not_again]; rfl
    · rw [if_neg e, if_neg (Ne.symm e)]
theorem Tells.next {m : TM} {l : List Ent} (h : Tells m l) (hl : UpR l) {c : Ch} (hr : rightB c.n = true) : Tells (if c.k = 2 then delM m c.n else putM m c.n c.is) (nextA l c) := fun n hn => by
  rw [getR_next hl hr n hn]
  split
  · rw [getM_del, h n hn]
  · rw [getM_put, h n hn]
end Go.Proofs.Ytpnmficlebnajaa
