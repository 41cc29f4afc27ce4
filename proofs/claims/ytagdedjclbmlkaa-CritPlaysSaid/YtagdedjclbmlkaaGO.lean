/- A drawn region whose turning operations wait for one another in a chain, with values that are known only at their operation: as many as there are; a drawn region that lays one variable and stores it last. Over any program. -/
import Derived.Test.YtagdedjclbmlkaaGC
namespace Go.Proofs.Ytagdedjclbmlkaa
open Go.RowKit

section
variable {P : Program} {Q : Exit → Act → World → Prop}
theorem wpOp_wp {ops : Array Oper} {i : Nat} {o : Oper} {a : Act} {w : World} {K : Act → World → Prop} (hi : ops[i]? = some o) (hg : o.guard = none) (h : o.wp P a w K Q) : wpOp P ops Q i K a w := by
  unfold wpOp
  simp only [hi]
  rw [if_pos (by unfold Region.wanted; rw [hg])]
  left
  exact h
theorem wpOp_as {ops : Array Oper} {i : Nat} {o : Oper} {a : Act} {w : World} {K : Act → World → Prop} (hi : ops[i]? = some o) (hg : o.guard = none) (x : Operand) (ho : o.op = .assign x) (v : Value) (hx : a.eval x = v) (h : K (a.put o.dst v) w) : wpOp P ops Q i K a w := by
  refine wpOp_val hi hg ?_ h
  unfold execOp
  simp only [ho, hx, Sem.run_pure]
theorem wp_region_chainG {γ : Type} {id : Nat} {a0 : Act} {W0 : World} {l : List Oper} (C : Nat → γ → World → Prop) (DV : γ → List (Option (Nat × Value))) (E : List Nat) (g0 : γ)
    (hm : P.follows .mixedOrders = true) (ho : ordB .any l.toArray = true) (hlen : ∀ v, (DV v).length = l.length)
    (hdd : ∀ v v', ((DV v').filterMap _root_.id).map (·.1) = ((DV v).filterMap _root_.id).map (·.1))
    (hn : (((DV g0).filterMap _root_.id).map (·.1)).Nodup) (hbd : ∀ k ∈ ((DV g0).filterMap _root_.id).map (·.1), k < a0.tmps.size)
    (hEn : E.Nodup) (hEb : ∀ r ∈ E, r < l.length)
    (hch : ∀ r (h : r + 1 < E.length), waitsB .any l.toArray E[r + 1] (E[r]'(by omega)) = true)
    (h0 : C 0 g0 { W0 with drawn := W0.drawn + 1 })
    (hq : ∀ i, i < l.length → i ∉ E → ∀ (gv : γ) (a : Act) (w : World) (k : Nat), Fr a0 (((DV g0).filterMap _root_.id).map (·.1)) a → (∀ j, waitsB .any l.toArray i j = true → Held (DV gv) a j) → C k gv w → (∀ r (h : r < E.length), r < k → waitsB .any l.toArray E[r] i = false) →
      ∀ K : Act → World → Prop, K (putO a ((DV gv)[i]?.getD none)) w → wpOp P l.toArray Q i K a w)
    (he : ∀ r (h : r < E.length) (gv : γ) (a : Act) (w : World), Fr a0 (((DV g0).filterMap _root_.id).map (·.1)) a → (∀ j, waitsB .any l.toArray E[r] j = true → Held (DV gv) a j) → C r gv w →
      ∀ K : Act → World → Prop, (∀ gv' w', (∀ i, i ≠ E[r] → waitsB .any l.toArray i E[r] = false → (DV gv')[i]? = (DV gv)[i]?) → C (r + 1) gv' w' → K (putO a ((DV gv')[E[r]]?.getD none)) w') → wpOp P l.toArray Q E[r] K a w)
    (hend : ∀ (gv : γ) (w : World), C E.length gv w → Q .normal ⟨puts a0.tmps ((DV gv).filterMap _root_.id), a0.defers⟩ w) :
    (Code.region id l.toArray true).wp P Q a0 W0 := by
  have hsz : l.toArray.size = l.length := by simp
  refine wp_region_any hm (wpAny_inv (fun listed a w => ∃ gv, BaseInv .any l.toArray a0 (DV gv) listed a ∧ ∃ k, k ≤ E.length ∧ C k gv w ∧ ∀ r (h : r < E.length), (listed.getD E[r] false = true ↔ r < k)) ho ?_ ?_ _ _ _ _ (by simp) ?_ ?_)
  · rintro listed a w hz ⟨gv, I, k, hk, hC, hkl⟩ i hi
    obtain ⟨hun, oi, hoi, _⟩ := mem_ready.1 hi
    have hisz : i < l.length := by rw [← hsz]; exact (Array.getElem?_eq_some_iff.1 hoi).1
    have hunf : listed.getD i false = false := by
      have h1 : i < listed.size := by rw [hz, hsz]; exact hisz
      simpa [Array.getD_eq_getD_getElem?, Array.getElem?_eq_getElem h1] using hun
    have hset : (listed.setIfInBounds i true).getD i false = true := by
      have h1 : i < listed.size := by rw [hz, hsz]; exact hisz
      simp [Array.getD_eq_getD_getElem?, h1]
    have hstep : ∀ gv' (w' : World) k', BaseInv .any l.toArray a0 (DV gv') listed a → (k' ≤ E.length ∧ C k' gv' w' ∧ ∀ r (h : r < E.length), ((listed.setIfInBounds i true).getD E[r] false = true ↔ r < k')) →
        ∃ gv, BaseInv .any l.toArray a0 (DV gv) (listed.setIfInBounds i true) (putO a ((DV gv')[i]?.getD none)) ∧ ∃ k, k ≤ E.length ∧ C k gv w' ∧ ∀ r (h : r < E.length), ((listed.setIfInBounds i true).getD E[r] false = true ↔ r < k) := by
      intro gv' w' k' I' h'
      have J : ChainInv .any l.toArray (fun _ _ => True) a0 (DV gv') [] (listed.setIfInBounds i true) (putO a ((DV gv')[i]?.getD none)) w' :=
        ChainInv.step (w := w') ⟨I'.fr, I'.val, I'.down, 0, Nat.zero_le _, trivial, fun r hr => absurd hr (by simp)⟩ (by rw [hlen]; simp) (by rw [hdd g0]; exact hn) (by rw [hdd g0]; exact hbd) hi ⟨0, Nat.zero_le _, trivial, fun r hr => absurd hr (by simp)⟩
      exact ⟨gv', ⟨J.fr, J.val, J.down⟩, k', h'⟩
    by_cases hE : i ∈ E
    · obtain ⟨r, hr, rfl⟩ := List.getElem_of_mem hE
      have hrk : r = k := by
        have h1 : ¬ r < k := fun h => by rw [(hkl r hr).2 h] at hunf; cases hunf
        cases r with
        | zero => omega
        | succ r =>
          have := (hkl r (by omega)).1 (ready_waits hi (hch r hr))
          omega
      subst hrk
      refine he r hr gv a w (by rw [← hdd g0 gv]; exact I.fr) (fun j hw => I.val j (ready_waits hi hw)) hC _ fun gv' w' hg hw' => ?_
      have I' : BaseInv .any l.toArray a0 (DV gv') listed a := ⟨by rw [hdd gv gv']; exact I.fr, fun i hl => by
        have hne : i ≠ E[r] := fun e => by rw [e, hunf] at hl; cases hl
        have hwf : waitsB .any l.toArray i E[r] = false := by
          cases hw : waitsB .any l.toArray i E[r] with
          | false => rfl
          | true =>
            have := I.down _ _ hl hw
            rw [hunf] at this; cases this
        intro d v h
        rw [hg i hne hwf] at h
        exact I.val i hl d v h, I.down⟩
      refine hstep gv' w' (r + 1) I' ⟨hr, hw', fun s hs => ?_⟩
      by_cases hsr : s = r
      · subst hsr; simp [hset]
      · have hne : E[r] ≠ E[s] := fun e => hsr (nodup_inj hEn hr hs e).symm
        rw [set_ne hne, hkl s hs]; omega
    · refine hq i hisz hE gv a w k (by rw [← hdd g0 gv]; exact I.fr) (fun j hw => I.val j (ready_waits hi hw)) hC (fun r hr hrk => ?_) _ ?_
      · cases hw : waitsB .any l.toArray E[r] i with
        | false => rfl
        | true =>
          have := I.down _ _ ((hkl r hr).2 hrk) hw
          rw [hunf] at this; cases this
      · refine hstep gv w k I ⟨hk, hC, fun s hs => ?_⟩
        have hne : i ≠ E[s] := fun e => hE (e ▸ List.getElem_mem hs)
        rw [set_ne hne]; exact hkl s hs
  · rintro listed a w hz hall ⟨gv, I, k, hk, hC, hkl⟩
    have hkE : k = E.length := by
      rcases Nat.lt_or_ge k E.length with h | h
      · have := (hkl k h).1 (hall _ (by rw [hsz]; exact hEb _ (List.getElem_mem h)))
        omega
      · omega
    subst hkE
    rw [I.fr.eq (by rw [hdd g0]; exact hn) (fun x hx => hbd _ (by rw [← hdd g0 gv]; exact List.mem_map.2 ⟨x, hx, rfl⟩)) (fun x hx => ?_)]
    · exact hend gv w hC
    · obtain ⟨y, hy, hyx⟩ := List.mem_filterMap.1 hx
      obtain ⟨i, hi, hiy⟩ := List.getElem_of_mem hy
      simp only [_root_.id] at hyx
      refine I.val i (hall i (by rw [hsz, ← hlen gv]; omega)) x.1 x.2 ?_
      rw [List.getElem?_eq_getElem hi, hiy, hyx]
  · simp
  · refine ⟨g0, ⟨⟨rfl, rfl, fun _ _ => rfl⟩, fun i hl => ?_, fun i j hl => ?_⟩, 0, Nat.zero_le _, h0, fun r hr => ?_⟩
    · rw [gd_rep] at hl; cases hl
    · rw [gd_rep] at hl; cases hl
    · rw [gd_rep]; simp
/-- What holds between the operations of a region that lays one variable and stores it last. -/
structure OneInv (W0 : World) (a0 : Act) (DV : List (Nat × Value)) (p : Nat) (z1 c1 : Array Value) (T1 : TypeId) (listed : Array Bool) (a : Act) (w : World) : Prop where
  fr : Fr a0 (DV.map (·.1) ++ [p]) a
  bel : Below W0.heap.size W0 w
  val : ∀ i (h : i < DV.length), listed.getD i false = true → a.tmps.getD (DV[i]).1 undef = (DV[i]).2
  one : listed.getD DV.length false = true → LaidV W0 a w p (if listed.getD (DV.length + 1) false then c1 else z1) T1
  o3 : listed.getD (DV.length + 1) false = true → listed.getD DV.length false = true
theorem wp_region_onevar {id : Nat} {a0 : Act} {W0 : World} {l : List Oper} (DV : List (Nat × Value)) (p : Nat) (z1 c1 : Array Value) (T1 : TypeId)
    (hm : P.follows .mixedOrders = true) (ho : ordB .any l.toArray = true) (hlen : l.length = DV.length + 2)
    (hn : (DV.map (·.1) ++ [p]).Nodup) (hbd : ∀ k ∈ DV.map (·.1) ++ [p], k < a0.tmps.size)
    (o1 o3 : Oper) (g1 : l[DV.length]? = some o1) (g3 : l[DV.length + 1]? = some o3)
    (e1 : o1.dst = some p ∧ o1.guard = none ∧ ∀ (a : Act) (w : World), (execOp a.eval o1).run P w = .ok (.value (.pointer (some ⟨w.heap.size, 0, none⟩))) (w.alloc (.cells z1 T1)))
    (e3 : o3.dst = none ∧ o3.guard = none ∧ ∀ (a : Act) (w : World) (g : Nat), (∀ j, (h : j < DV.length) → waitsB .any l.toArray (DV.length + 1) j = true → a.tmps.getD (DV[j]).1 undef = (DV[j]).2) → a.tmps.getD p undef = .pointer (some ⟨g, 0, none⟩) → w.heap[g]? = some (.cells z1 T1 (0, 0)) → (execOp a.eval o3).run P w = .ok .skip (w.setRow g c1))
    (w31 : waitsB .any l.toArray (DV.length + 1) DV.length = true)
    (hq : ∀ i (h : i < DV.length) (a : Act) (w : World), Fr a0 (DV.map (·.1) ++ [p]) a → (∀ j, (hj : j < DV.length) → waitsB .any l.toArray i j = true → a.tmps.getD (DV[j]).1 undef = (DV[j]).2) → Below W0.heap.size W0 w →
      ∀ K : Act → World → Prop, (∀ w', Below w.heap.size w w' → K (a.put (some (DV[i]).1) (DV[i]).2) w') → wpOp P l.toArray Q i K a w)
    (hend : ∀ (w : World) (g : Nat), W0.heap.size ≤ g → Below W0.heap.size W0 w → w.heap[g]? = some (.cells c1 T1 (0, 0)) →
      Q .normal ⟨puts a0.tmps (DV ++ [(p, .pointer (some ⟨g, 0, none⟩))]), a0.defers⟩ w) :
    (Code.region id l.toArray true).wp P Q a0 W0 := by
  have hsz : l.toArray.size = DV.length + 2 := by simpa using hlen
  have hDp : ∀ i (h : i < DV.length), (DV[i]).1 ≠ p := fun i h => by
    have h3 := (List.nodup_append.1 hn).2.2
    have hmem : (DV[i]).1 ∈ DV.map (·.1) := List.mem_map.2 ⟨DV[i], List.getElem_mem h, rfl⟩
    exact h3 _ hmem p (by simp)
  have hDi : ∀ i j (h : i < DV.length) (h' : j < DV.length), i ≠ j → (DV[i]).1 ≠ (DV[j]).1 := fun i j h h' hne => by
    have h1 := List.pairwise_iff_getElem.1 (List.nodup_append.1 hn).1
    rcases Nat.lt_or_gt_of_ne hne with hlt | hlt
    · have := h1 i j (by simpa using h) (by simpa using h') hlt
      simpa using this
    · have := h1 j i (by simpa using h') (by simpa using h) hlt
      simpa using this.symm
  refine wp_region_any hm (wpAny_inv (OneInv W0 a0 DV p z1 c1 T1) ho ?_ ?_ _ _ _ _ (by simp) ?_ ?_)
  · intro listed a w hz I i hi
    obtain ⟨hun, oi, hoi, _⟩ := mem_ready.1 hi
    have hisz : i < DV.length + 2 := by rw [← hsz]; exact (Array.getElem?_eq_some_iff.1 hoi).1
    have hunf : listed.getD i false = false := by
      have h1 : i < listed.size := by rw [hz, hsz]; exact hisz
      simpa [Array.getD_eq_getD_getElem?, Array.getElem?_eq_getElem h1] using hun
    have hlt : ∀ k, listed.getD k false = true → k ≠ i := fun k hk e => by rw [e, hunf] at hk; cases hk
    have hset : (listed.setIfInBounds i true).getD i false = true := by
      have h1 : i < listed.size := by rw [hz, hsz]; exact hisz
      simp [Array.getD_eq_getD_getElem?, h1]
    rcases (by omega : i < DV.length ∨ i = DV.length ∨ i = DV.length + 1) with h | rfl | rfl
    · refine hq i h a w I.fr (fun j hj hw => I.val j hj (ready_waits hi hw)) I.bel _ (fun w' hb => ?_)
      have s2 : (listed.setIfInBounds i true).getD (DV.length + 1) false = listed.getD (DV.length + 1) false := set_ne (by omega)
      have s0 : (listed.setIfInBounds i true).getD DV.length false = listed.getD DV.length false := set_ne (by omega)
      refine ⟨I.fr.put _ _ (by simp only [List.mem_append]; exact Or.inl (List.mem_map.2 ⟨DV[i], List.getElem_mem h, rfl⟩)), I.bel.trans (hb.mono I.bel.size), fun j hj hl => ?_, fun hl => ?_, fun hl => ?_⟩
      · by_cases e : j = i
        · subst e
          exact put_same _ _ _ (by rw [I.fr.size]; exact hbd _ (by simp only [List.mem_append]; exact Or.inl (List.mem_map.2 ⟨DV[j], List.getElem_mem h, rfl⟩)))
        · rw [put_other _ _ _ _ (hDi i j h hj (Ne.symm e))]
          exact I.val j hj ((listed_set hl).resolve_left e)
      · rw [s2]; rw [s0] at hl
        exact (I.one hl).below (put_other _ _ _ _ (hDp i h)) hb
      · rw [s2] at hl; rw [s0]; exact I.o3 hl
    · refine wpOp_val (o := o1) (by simpa using g1) e1.2.1 (e1.2.2 a w) ?_
      rw [e1.1]
      have hb := below_alloc1 w (.cells z1 T1)
      have hf2 : listed.getD (DV.length + 1) false = false := by
        cases h : listed.getD (DV.length + 1) false with
        | false => rfl
        | true => exact absurd rfl (hlt _ (I.o3 h))
      have s2 : (listed.setIfInBounds DV.length true).getD (DV.length + 1) false = false := (set_ne (by omega)).trans hf2
      have hps : p < a.tmps.size := by rw [I.fr.size]; exact hbd _ (by simp)
      refine ⟨I.fr.put _ _ (by simp), I.bel.trans (hb.mono I.bel.size), fun j hj hl => ?_, fun hl => ?_, fun hl => ?_⟩
      · rw [put_other _ _ _ _ (Ne.symm (hDp j hj))]
        exact I.val j hj ((listed_set hl).resolve_left (by omega))
      · rw [s2]; exact ⟨w.heap.size, put_same _ _ _ hps, I.bel.size, heap_alloc_new _ _⟩
      · rw [s2] at hl; cases hl
    · have hl0 := ready_waits hi w31
      obtain ⟨g, hg1, hg2, hg3⟩ := I.one hl0
      rw [hunf] at hg3
      refine wpOp_skip (o := o3) (by simpa using g3) e3.2.1 (e3.2.2 a w g (fun j hj hw => I.val j hj (ready_waits hi hw)) hg1 hg3) ?_
      rw [e3.1]
      refine ⟨I.fr, setRow_below I.bel hg2 c1, fun j hj hl => I.val j hj ((listed_set hl).resolve_left (by omega)), fun _ => ?_, fun _ => listed_of hl0⟩
      rw [hset]; exact ⟨g, hg1, hg2, setRow_at hg3⟩
  · intro listed a w hz hall I
    have hA : ∀ i, i < DV.length + 2 → listed.getD i false = true := fun i hi => hall i (by rw [hsz]; exact hi)
    obtain ⟨g, hg1, hg2, hg3⟩ := I.one (hA _ (by omega))
    rw [hA _ (by omega)] at hg3
    have hmap : (DV ++ [(p, Value.pointer (some ⟨g, 0, none⟩))]).map (·.1) = DV.map (·.1) ++ [p] := by simp
    have e := Fr.eq (l := DV ++ [(p, Value.pointer (some ⟨g, 0, none⟩))]) (a0 := a0) (a := a) (by rw [hmap]; exact I.fr) (by rw [hmap]; exact hn)
      (fun x hx => hbd _ (by rw [← hmap]; exact List.mem_map.2 ⟨x, hx, rfl⟩)) (fun x hx => by
        rcases List.mem_append.1 hx with hx | hx
        · obtain ⟨i, hi, rfl⟩ := List.mem_iff_getElem.1 hx
          exact I.val i hi (hA i (by omega))
        · simp only [List.mem_cons, List.not_mem_nil, or_false] at hx
          subst hx
          exact hg1)
    rw [e]
    exact hend w g hg2 I.bel hg3
  · simp
  · have hf : ∀ i, (Array.replicate l.toArray.size false).getD i false = false := fun i => by
      rw [Array.getD_eq_getD_getElem?, Array.getElem?_replicate]
      split <;> rfl
    refine ⟨⟨rfl, rfl, fun _ _ => rfl⟩, ⟨rfl, rfl, rfl, Nat.le_refl _, fun _ _ => rfl⟩, fun i _ h => ?_, fun h => ?_, fun h => ?_⟩ <;> (rw [hf] at h; cases h)
end
end Go.Proofs.Ytagdedjclbmlkaa
