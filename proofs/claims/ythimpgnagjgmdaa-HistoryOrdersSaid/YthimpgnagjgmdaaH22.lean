/- The order of calls: a strict one, and which rows of places are the order. No walk. -/
import Derived.Test.YthimpgnagjgmdaaH11
import Derived.Test.YthimpgnagjgmdaaSM
import Derived.Test.YthimpgnagjgmdaaH3
namespace Go.Proofs.Ythimpgnagjgmdaa
open Go.RowKit Go.Sort

theorem first_two (x : Ca) : firstI x = 0 ∨ firstI x = 1 := by unfold firstI; split <;> simp
theorem first_pub (x y : Ca) : firstI x = firstI y ↔ x.pub = y.pub := by
  unfold firstI; cases x.pub <;> cases y.pub <;> simp
def Lex (a b : Ca) : Prop := a.at_ < b.at_ ∨ (a.at_ = b.at_ ∧ (firstI a < firstI b ∨ (firstI a = firstI b ∧ a.po < b.po)))
theorem cmp_lex (a b : Ca) : cmpC a b < 0 ↔ Lex a b := by
  unfold cmpC Lex
  generalize firstI a = p
  generalize firstI b = q
  simp only [orI, cmpI]
  repeat' split
  all_goals simp_all
  all_goals omega
def aheadB (a b : Ca) : Bool := if a.at_ = b.at_ then (if a.pub = b.pub then decide (a.po < b.po) else a.pub) else decide (a.at_ < b.at_)
theorem ahead_lex (a b : Ca) : aheadB a b = true ↔ Lex a b := by
  have h1 := first_pub a b
  unfold aheadB Lex
  by_cases c1 : a.at_ = b.at_
  · rw [if_pos c1]
    by_cases c2 : a.pub = b.pub
    · have := h1.2 c2
      rw [if_pos c2]
      simp only [decide_eq_true_eq]
      omega
    · rw [if_neg c2]
      have h2 : ¬ firstI a = firstI b := fun h => c2 (h1.1 h)
      unfold firstI at h2 ⊢
      cases ha : a.pub <;> cases hb : b.pub <;> simp_all
  · rw [if_neg c1]
    simp only [decide_eq_true_eq]
    omega
theorem ltF_ahead (xs : List Ca) (i j : Int) : ltF (cF xs) i j = aheadB (caAt xs i) (caAt xs j) := by
  have h1 := cmp_lex (caAt xs i) (caAt xs j)
  have h2 := ahead_lex (caAt xs i) (caAt xs j)
  have h3 : ltF (cF xs) i j = decide (cmpC (caAt xs i) (caAt xs j) < 0) := rfl
  rw [h3]
  cases hh : aheadB (caAt xs i) (caAt xs j) with
  | true => exact decide_eq_true (h1.2 (h2.1 hh))
  | false => refine decide_eq_false fun h => ?_; rw [h2.2 (h1.1 h)] at hh; cases hh
theorem cF_swo (xs : List Ca) : SWO (ltF (cF xs)) where
  irrefl x := by
    refine decide_eq_false fun h => ?_
    have := (cmp_lex _ _).1 h
    unfold Lex at this
    omega
  trans x y z h1 h2 := by
    have h1 : Lex (caAt xs x) (caAt xs y) := (cmp_lex _ _).1 (of_decide_eq_true h1)
    have h2 : Lex (caAt xs y) (caAt xs z) := (cmp_lex _ _).1 (of_decide_eq_true h2)
    refine decide_eq_true ((cmp_lex _ _).2 ?_)
    unfold Lex at h1 h2 ⊢
    omega
  ntrans x y z h1 h2 := by
    have h1 : ¬ Lex (caAt xs x) (caAt xs y) := fun h => of_decide_eq_false h1 ((cmp_lex _ _).2 h)
    have h2 : ¬ Lex (caAt xs y) (caAt xs z) := fun h => of_decide_eq_false h2 ((cmp_lex _ _).2 h)
    refine decide_eq_false fun h => ?_
    have h3 : Lex (caAt xs x) (caAt xs z) := (cmp_lex _ _).1 h
    unfold Lex at h1 h2 h3
    omega
/-- A row of places that is the order. -/
def OrdK (xs : List Ca) (k : Nat) (l : List Int) : Prop := l.Perm (idx xs k) ∧ l.Pairwise fun x y => lt2 (ltF (cF xs)) y x = false
def IsOrd (xs : List Ca) (l : List Int) : Prop := OrdK xs xs.length l
theorem IsOrd.uniq {xs : List Ca} {l m : List Int} (h : IsOrd xs l) (k : IsOrd xs m) : l = m :=
  List.Perm.eq_of_pairwise (le := fun x y => lt2 (ltF (cF xs)) y x = false) (fun _ _ _ _ h1 h2 => lt2_total h2 h1) h.2 k.2 (h.1.trans k.1.symm)
theorem OrdK.len {xs : List Ca} {k : Nat} {l : List Int} (h : OrdK xs k l) : l.length ≤ k := by
  rw [h.1.length_eq]; exact idx_len xs k
theorem OrdK.lt {xs : List Ca} {k : Nat} {l : List Int} (h : OrdK xs k l) : ∀ v ∈ l, 0 ≤ v ∧ v < k := fun v hv => idx_lt xs k v (h.1.mem_iff.1 hv)
theorem ord_of {xs : List Ca} {k n : Nat} {d' : Array Int} (hn : (idx xs k).length = n) (hp : PermIn 0 n (idx xs k).toArray d') (hs : SortedIn (lt2 (ltF (cF xs))) 0 n d') : OrdK xs k d'.toList := by
  have hz : d'.size = n := by rw [hp.1]; simpa using hn
  constructor
  · have h := hp.2.2
    rw [show d'.extract 0 n = d' by rw [← hz]; simp, show (idx xs k).toArray.extract 0 n = (idx xs k).toArray by rw [← hn]; simp] at h
    simpa using h
  · rw [List.pairwise_iff_getElem]
    intro i j hi hj hij
    have hi' : i < d'.size := by simpa using hi
    have hj' : j < d'.size := by simpa using hj
    have := hs i j (Nat.zero_le _) hij (by omega)
    rw [getElem!_pos d' i hi', getElem!_pos d' j hj'] at this
    simpa using this
theorem idx_asc (xs : List Ca) : ∀ k, (idx xs k).Pairwise (· < ·)
  | 0 => by simp [idx]
  | k + 1 => by
    rw [idx_succ xs k _ rfl]
    split
    · rw [List.pairwise_append]
      refine ⟨idx_asc xs k, by simp, fun a ha b hb => ?_⟩
      simp only [List.mem_singleton] at hb
      subst hb
      exact (idx_lt xs k a ha).2
    · exact idx_asc xs k
theorem idx_Asc (xs : List Ca) (k n : Nat) (hn : (idx xs k).length = n) : ∀ q, q < n → ∀ p, p < q → (idx xs k).toArray[p]! < (idx xs k).toArray[q]! := fun q hq p hp => by
  have h := List.pairwise_iff_getElem.1 (idx_asc xs k) p q (by omega) (by omega) hp
  rw [getElem!_pos _ p (by simpa using (by omega : p < (idx xs k).length)), getElem!_pos _ q (by simpa using (by omega : q < (idx xs k).length))]
  simpa using h
theorem OrdK.nil (xs : List Ca) : OrdK xs 0 [] := ⟨by simp [idx], List.Pairwise.nil⟩
/-- What the document's Order does with one more. -/
theorem OrdK.skip {xs : List Ca} {k : Nat} {l : List Int} (h : OrdK xs k l) (hc : countB (xs.getD k ca0) = false) : OrdK xs (k + 1) l := by
  refine ⟨?_, h.2⟩
  rw [idx_succ xs k _ hc]
  exact h.1
theorem OrdK.ins {xs : List Ca} {k : Nat} {l : List Int} (h : OrdK xs k l) (hc : countB (xs.getD k ca0) = true) (at_ : Nat) (ha : at_ ≤ l.length)
    (h1 : ∀ p (hp : p < l.length), at_ ≤ p → ltF (cF xs) k l[p] = true) (h2 : ∀ m (hm : m < l.length), at_ = m + 1 → ltF (cF xs) k l[m] = false) : OrdK xs (k + 1) (l.take at_ ++ [(k : Int)] ++ l.drop at_) := by
  have hS := cF_swo xs
  constructor
  · rw [idx_succ xs k _ hc, if_pos rfl]
    have : (l.take at_ ++ [(k : Int)] ++ l.drop at_).Perm (l.take at_ ++ l.drop at_ ++ [(k : Int)]) := by
      rw [List.append_assoc, List.append_assoc]
      exact List.Perm.append_left _ List.perm_append_comm
    rw [List.take_append_drop] at this
    exact this.trans (h.1.append_right _)
  · have hp := List.pairwise_iff_getElem.1 h.2
    rw [List.append_assoc, List.pairwise_append]
    have hsp : (l.take at_ ++ l.drop at_).Pairwise fun x y => lt2 (ltF (cF xs)) y x = false := by rw [List.take_append_drop]; exact h.2
    rw [List.pairwise_append] at hsp
    have hlt := h.lt
    have hleft : ∀ a ∈ l.take at_, lt2 (ltF (cF xs)) (k : Int) a = false := fun a ha' => by
      obtain ⟨p, hp', rfl⟩ := List.getElem_of_mem ha'
      have hpl : p < at_ := by rw [List.length_take] at hp'; omega
      rw [List.getElem_take]
      have hpl2 : p < l.length := by omega
      rw [lt2_late (hlt l[p] (List.getElem_mem hpl2)).2]
      obtain ⟨m, rfl⟩ : ∃ m, at_ = m + 1 := ⟨at_ - 1, by omega⟩
      have h3 := h2 m (by omega) rfl
      by_cases c : p = m
      · subst c; exact h3
      · have h4 := hp p m hpl2 (by omega) (by omega)
        unfold lt2 at h4
        rw [Bool.or_eq_false_iff] at h4
        exact hS.ntrans _ _ _ h3 h4.1
    have hright : ∀ b ∈ l.drop at_, lt2 (ltF (cF xs)) b (k : Int) = false := fun b hb => by
      obtain ⟨p, hp', rfl⟩ := List.getElem_of_mem hb
      rw [List.length_drop] at hp'
      rw [List.getElem_drop]
      have h3 := h1 (at_ + p) (by omega) (by omega)
      unfold lt2
      rw [h3]
      cases hh : ltF (cF xs) l[at_ + p] (k : Int) with
      | false => rfl
      | true => have := hS.trans _ _ _ h3 hh; rw [hS.irrefl] at this; cases this
    refine ⟨hsp.1, ?_, fun a ha' b hb => ?_⟩
    · rw [List.singleton_append, List.pairwise_cons]
      exact ⟨hright, hsp.2.1⟩
    · rw [List.singleton_append, List.mem_cons] at hb
      rcases hb with rfl | hb
      · exact hleft a ha'
      · exact hsp.2.2 a ha' b hb
theorem core_at {xs ys : List Ca} (h : ys.map core = xs.map core) (i : Nat) : core (ys.getD i ca0) = core (xs.getD i ca0) := by
  have e : ∀ zs : List Ca, core (zs.getD i ca0) = (zs.map core).getD i (core ca0) := fun zs => by
    rw [List.getD_eq_getElem?_getD, List.getD_eq_getElem?_getD, List.getElem?_map]
    cases zs[i]? <;> rfl
  rw [e, e, h]
theorem core_idx {xs ys : List Ca} (h : ys.map core = xs.map core) (k : Nat) : idx ys k = idx xs k := by
  unfold idx
  congr 1
  refine List.filter_congr fun i _ => ?_
  have := core_at h i
  show countB (core (ys.getD i ca0)) = countB (core (xs.getD i ca0))
  rw [this]
theorem core_cF {xs ys : List Ca} (h : ys.map core = xs.map core) : cF ys = cF xs := by
  funext i j
  show cmpC (core (ys.getD i.toNat ca0)) (core (ys.getD j.toNat ca0)) = cmpC (core (xs.getD i.toNat ca0)) (core (xs.getD j.toNat ca0))
  rw [core_at h, core_at h]
theorem core_ord {xs ys : List Ca} (h : ys.map core = xs.map core) {l : List Int} (hl : IsOrd ys l) : IsOrd xs l := by
  have hn : ys.length = xs.length := by have := congrArg List.length h; simpa using this
  unfold IsOrd OrdK at hl ⊢
  rw [core_idx h, core_cF h, hn] at hl
  exact hl
end Go.Proofs.Ythimpgnagjgmdaa
