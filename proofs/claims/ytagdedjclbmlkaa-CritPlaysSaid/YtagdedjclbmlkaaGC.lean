/- A region that draws its order: operations that turn the world, each waiting for the one before; between them operations that read, in whatever order. Over any program. -/
import Derived.Test.YtagdedjclbmlkaaGI
namespace Go.Proofs.Ytagdedjclbmlkaa
open Go.RowKit

section
variable {P : Program} {Q : Exit → Act → World → Prop}
def putO (a : Act) : Option (Nat × Value) → Act
  | some (d, v) => a.put (some d) v
  | none => a
/-- What such a region's frame holds of the operations that have run. -/
def Held (DV : List (Option (Nat × Value))) (a : Act) (i : Nat) : Prop := ∀ d v, DV[i]? = some (some (d, v)) → a.tmps.getD d undef = v
/-- What holds between the operations. -/
structure ChainInv (md : Region.Mode) (ops : Array Oper) (C : Nat → World → Prop) (a0 : Act) (DV : List (Option (Nat × Value))) (E : List Nat) (listed : Array Bool) (a : Act) (w : World) : Prop where
  fr : Fr a0 ((DV.filterMap id).map (·.1)) a
  val : ∀ i, listed.getD i false = true → Held DV a i
  down : ∀ i j, listed.getD i false = true → waitsB md ops i j = true → listed.getD j false = true
  at_ : ∃ k, k ≤ E.length ∧ C k w ∧ ∀ r (h : r < E.length), (listed.getD E[r] false = true ↔ r < k)
theorem DV_mem {DV : List (Option (Nat × Value))} {i d : Nat} {v : Value} (h : DV[i]? = some (some (d, v))) : (d, v) ∈ DV.filterMap id := by
  refine List.mem_filterMap.2 ⟨some (d, v), List.mem_of_getElem? h, rfl⟩
theorem DV_ne : ∀ {DV : List (Option (Nat × Value))} {i j d e : Nat} {v u : Value}, ((DV.filterMap id).map (·.1)).Nodup → i ≠ j → DV[i]? = some (some (d, v)) → DV[j]? = some (some (e, u)) → d ≠ e
  | [], _, _, _, _, _, _, _, _, h, _ => by simp at h
  | x :: r, i, j, d, e, v, u, hn, hij, hi, hj => by
    cases x with
    | none =>
      cases i with
      | zero => simp at hi
      | succ i =>
        cases j with
        | zero => simp at hj
        | succ j => exact DV_ne (DV := r) (i := i) (j := j) (by simpa using hn) (by omega) (by simpa using hi) (by simpa using hj)
    | some y =>
      simp only [List.filterMap_cons, id_eq, List.map_cons, List.nodup_cons] at hn
      cases i with
      | zero =>
        cases j with
        | zero => omega
        | succ j =>
          simp only [List.getElem?_cons_zero, Option.some.injEq] at hi
          simp only [List.getElem?_cons_succ] at hj
          rintro rfl
          subst hi
          exact hn.1 (List.mem_map.2 ⟨_, DV_mem hj, rfl⟩)
      | succ i =>
        cases j with
        | zero =>
          simp only [List.getElem?_cons_zero, Option.some.injEq] at hj
          simp only [List.getElem?_cons_succ] at hi
          rintro rfl
          subst hj
          exact hn.1 (List.mem_map.2 ⟨_, DV_mem hi, rfl⟩)
        | succ j => exact DV_ne (DV := r) (i := i) (j := j) hn.2 (by omega) (by simpa using hi) (by simpa using hj)
theorem gd_rep (m j : Nat) : (Array.replicate m false).getD j false = false := by
  rw [Array.getD_eq_getD_getElem?, Array.getElem?_replicate]
  split <;> rfl
theorem nodup_inj {E : List Nat} (h : E.Nodup) {r s : Nat} (hr : r < E.length) (hs : s < E.length) (e : E[r] = E[s]) : r = s := by
  have h1 := List.pairwise_iff_getElem.1 h
  rcases Nat.lt_trichotomy r s with hlt | he | hlt
  · exact absurd e (h1 r s hr hs hlt)
  · exact he
  · exact absurd e.symm (h1 s r hs hr hlt)
theorem ChainInv.step {md : Region.Mode} {ops : Array Oper} {C : Nat → World → Prop} {a0 : Act} {DV : List (Option (Nat × Value))} {E : List Nat} {listed : Array Bool} {a : Act} {w w' : World} {i : Nat}
    (I : ChainInv md ops C a0 DV E listed a w) (hlen : DV.length = ops.size) (hn : ((DV.filterMap id).map (·.1)).Nodup) (hbd : ∀ k ∈ (DV.filterMap id).map (·.1), k < a0.tmps.size)
    (hi : i ∈ Region.ready md ops listed)
    (hat : ∃ k, k ≤ E.length ∧ C k w' ∧ ∀ r (h : r < E.length), ((listed.setIfInBounds i true).getD E[r] false = true ↔ r < k)) :
    ChainInv md ops C a0 DV E (listed.setIfInBounds i true) (putO a (DV[i]?.getD none)) w' := by
  obtain ⟨hun, oi, hoi, _⟩ := mem_ready.1 hi
  have hisz : i < ops.size := (Array.getElem?_eq_some_iff.1 hoi).1
  have hdi : ∃ x, DV[i]? = some x := ⟨DV[i]'(by omega), List.getElem?_eq_getElem (by omega)⟩
  obtain ⟨x, hx⟩ := hdi
  rw [hx]
  simp only [Option.getD_some]
  have hdown : ∀ i' j, (listed.setIfInBounds i true).getD i' false = true → waitsB md ops i' j = true → (listed.setIfInBounds i true).getD j false = true := by
    intro i' j hl hw
    rcases listed_set hl with rfl | hl
    · exact listed_of (ready_waits hi hw)
    · exact listed_of (I.down i' j hl hw)
  cases x with
  | none =>
    refine ⟨I.fr, fun j hl => ?_, hdown, hat⟩
    rcases listed_set hl with rfl | hl
    · intro d v hd; rw [hx] at hd; simp at hd
    · exact I.val j hl
  | some y =>
    obtain ⟨d, v⟩ := y
    have hm : d ∈ (DV.filterMap id).map (·.1) := List.mem_map.2 ⟨_, DV_mem hx, rfl⟩
    refine ⟨I.fr.put _ _ hm, fun j hl => ?_, hdown, hat⟩
    intro e u he
    by_cases hji : j = i
    · subst hji
      rw [hx] at he
      simp only [Option.some.injEq, Prod.mk.injEq] at he
      obtain ⟨rfl, rfl⟩ := he
      exact put_same _ _ _ (by rw [I.fr.size]; exact hbd _ hm)
    · show (a.put (some d) v).tmps.getD e undef = u
      rw [put_other _ _ _ _ (DV_ne hn (Ne.symm hji) hx he)]
      exact I.val j ((listed_set hl).resolve_left hji) e u he
theorem wp_region_chain {id : Nat} {a0 : Act} {W0 : World} {l : List Oper} (C : Nat → World → Prop) (DV : List (Option (Nat × Value))) (E : List Nat)
    (hm : P.follows .mixedOrders = true) (ho : ordB .any l.toArray = true) (hlen : DV.length = l.length)
    (hn : ((DV.filterMap _root_.id).map (·.1)).Nodup) (hbd : ∀ k ∈ (DV.filterMap _root_.id).map (·.1), k < a0.tmps.size)
    (hEn : E.Nodup) (hEb : ∀ r ∈ E, r < l.length)
    (hch : ∀ r (h : r + 1 < E.length), waitsB .any l.toArray E[r + 1] (E[r]'(by omega)) = true)
    (h0 : C 0 { W0 with drawn := W0.drawn + 1 })
    (hq : ∀ i, i < l.length → i ∉ E → ∀ (a : Act) (w : World) (k : Nat), Fr a0 ((DV.filterMap _root_.id).map (·.1)) a → (∀ j, waitsB .any l.toArray i j = true → Held DV a j) → C k w → (∀ r (h : r < E.length), r < k → waitsB .any l.toArray E[r] i = false) →
      ∀ K : Act → World → Prop, K (putO a (DV[i]?.getD none)) w → wpOp P l.toArray Q i K a w)
    (he : ∀ r (h : r < E.length) (a : Act) (w : World), Fr a0 ((DV.filterMap _root_.id).map (·.1)) a → (∀ j, waitsB .any l.toArray E[r] j = true → Held DV a j) → C r w →
      ∀ K : Act → World → Prop, (∀ w', C (r + 1) w' → K (putO a (DV[E[r]]?.getD none)) w') → wpOp P l.toArray Q E[r] K a w)
    (hend : ∀ (w : World), C E.length w → Q .normal ⟨puts a0.tmps (DV.filterMap _root_.id), a0.defers⟩ w) :
    (Code.region id l.toArray true).wp P Q a0 W0 := by
  have hsz : l.toArray.size = l.length := by simp
  refine wp_region_any hm (wpAny_inv (ChainInv .any l.toArray C a0 DV E) ho ?_ ?_ _ _ _ _ (by simp) ?_ ?_)
  · intro listed a w hz I i hi
    obtain ⟨hun, oi, hoi, _⟩ := mem_ready.1 hi
    have hisz : i < l.length := by rw [← hsz]; exact (Array.getElem?_eq_some_iff.1 hoi).1
    have hunf : listed.getD i false = false := by
      have h1 : i < listed.size := by rw [hz, hsz]; exact hisz
      simpa [Array.getD_eq_getD_getElem?, Array.getElem?_eq_getElem h1] using hun
    have hset : (listed.setIfInBounds i true).getD i false = true := by
      have h1 : i < listed.size := by rw [hz, hsz]; exact hisz
      simp [Array.getD_eq_getD_getElem?, h1]
    obtain ⟨k, hk, hC, hkl⟩ := I.at_
    by_cases hE : i ∈ E
    · obtain ⟨r, hr, rfl⟩ := List.getElem_of_mem hE
      have hrk : r = k := by
        have h1 : ¬ r < k := fun h => by rw [(hkl r hr).2 h] at hunf; cases hunf
        cases r with
        | zero => omega
        | succ r =>
          have := (hkl r (by omega)).1 (ready_waits hi (hch r hr))
          omega
      subst hrk
      refine he r hr a w I.fr (fun j hw => I.val j (ready_waits hi hw)) hC _ fun w' hw' => ?_
      refine I.step (by simpa using hlen) hn hbd hi ⟨r + 1, hr, hw', fun s hs => ?_⟩
      by_cases hsr : s = r
      · subst hsr; simp [hset]
      · have hne : E[r] ≠ E[s] := fun e => hsr (nodup_inj hEn hr hs e).symm
        rw [set_ne hne, hkl s hs]; omega
    · refine hq i hisz hE a w k I.fr (fun j hw => I.val j (ready_waits hi hw)) hC (fun r hr hrk => ?_) _ ?_
      · cases hw : waitsB .any l.toArray E[r] i with
        | false => rfl
        | true =>
          have := I.down _ _ ((hkl r hr).2 hrk) hw
          rw [hunf] at this; cases this
      · refine I.step (by simpa using hlen) hn hbd hi ⟨k, hk, hC, fun s hs => ?_⟩
        have hne : i ≠ E[s] := fun e => hE (e ▸ List.getElem_mem hs)
        rw [set_ne hne]; exact hkl s hs
  · intro listed a w hz hall I
    obtain ⟨k, hk, hC, hkl⟩ := I.at_
    have hkE : k = E.length := by
      rcases Nat.lt_or_ge k E.length with h | h
      · have := (hkl k h).1 (hall _ (by rw [hsz]; exact hEb _ (List.getElem_mem h)))
        omega
      · omega
    subst hkE
    rw [I.fr.eq hn (fun x hx => hbd _ (List.mem_map.2 ⟨x, hx, rfl⟩)) (fun x hx => ?_)]
    · exact hend w hC
    · obtain ⟨y, hy, hyx⟩ := List.mem_filterMap.1 hx
      obtain ⟨i, hi, hiy⟩ := List.getElem_of_mem hy
      simp only [_root_.id] at hyx
      refine I.val i (hall i (by rw [hsz]; omega)) x.1 x.2 ?_
      rw [List.getElem?_eq_getElem hi, hiy, hyx]
  · simp
  · refine ⟨⟨rfl, rfl, fun _ _ => rfl⟩, fun i hl => ?_, fun i j hl => ?_, 0, Nat.zero_le _, h0, fun r hr => ?_⟩
    · rw [gd_rep] at hl; cases hl
    · rw [gd_rep] at hl; cases hl
    · rw [gd_rep]; simp
/-- The same with one value that is not known ahead (the result of append): it is chosen at its operation, ix. -/
structure BaseInv (md : Region.Mode) (ops : Array Oper) (a0 : Act) (DV : List (Option (Nat × Value))) (listed : Array Bool) (a : Act) : Prop where
  fr : Fr a0 ((DV.filterMap id).map (·.1)) a
  val : ∀ i, listed.getD i false = true → Held DV a i
  down : ∀ i j, listed.getD i false = true → waitsB md ops i j = true → listed.getD j false = true
theorem BaseInv.ghost {md : Region.Mode} {ops : Array Oper} {a0 : Act} {DV DV' : List (Option (Nat × Value))} {listed : Array Bool} {a : Act} (I : BaseInv md ops a0 DV listed a) (ix : Nat) (hx : listed.getD ix false = false)
    (hs : ∀ i, i ≠ ix → DV'[i]? = DV[i]?) (hd : (DV'.filterMap id).map (·.1) = (DV.filterMap id).map (·.1)) : BaseInv md ops a0 DV' listed a :=
  ⟨by rw [hd]; exact I.fr, fun i hl => by
    have hne : i ≠ ix := fun e => by rw [e, hx] at hl; cases hl
    intro d v h
    rw [hs i hne] at h
    exact I.val i hl d v h, I.down⟩
theorem wp_region_chainV {id : Nat} {a0 : Act} {W0 : World} {l : List Oper} (C : Nat → Value → World → Prop) (DV : Value → List (Option (Nat × Value))) (E : List Nat) (ix : Nat) (g0 : Value)
    (hm : P.follows .mixedOrders = true) (ho : ordB .any l.toArray = true) (hlen : ∀ v, (DV v).length = l.length)
    (hs : ∀ v v' i, i ≠ ix → (DV v')[i]? = (DV v)[i]?) (hdd : ∀ v v', ((DV v').filterMap _root_.id).map (·.1) = ((DV v).filterMap _root_.id).map (·.1))
    (hn : (((DV g0).filterMap _root_.id).map (·.1)).Nodup) (hbd : ∀ k ∈ ((DV g0).filterMap _root_.id).map (·.1), k < a0.tmps.size)
    (hEn : E.Nodup) (hEb : ∀ r ∈ E, r < l.length)
    (hch : ∀ r (h : r + 1 < E.length), waitsB .any l.toArray E[r + 1] (E[r]'(by omega)) = true)
    (h0 : C 0 g0 { W0 with drawn := W0.drawn + 1 })
    (hq : ∀ i, i < l.length → i ∉ E → ∀ (gv : Value) (a : Act) (w : World) (k : Nat), Fr a0 (((DV g0).filterMap _root_.id).map (·.1)) a → (∀ j, waitsB .any l.toArray i j = true → Held (DV gv) a j) → C k gv w → (∀ r (h : r < E.length), r < k → waitsB .any l.toArray E[r] i = false) →
      ∀ K : Act → World → Prop, K (putO a ((DV gv)[i]?.getD none)) w → wpOp P l.toArray Q i K a w)
    (he : ∀ r (h : r < E.length) (gv : Value) (a : Act) (w : World), Fr a0 (((DV g0).filterMap _root_.id).map (·.1)) a → (∀ j, waitsB .any l.toArray E[r] j = true → Held (DV gv) a j) → C r gv w →
      ∀ K : Act → World → Prop, (∀ gv' w', (E[r] ≠ ix → gv' = gv) → C (r + 1) gv' w' → K (putO a ((DV gv')[E[r]]?.getD none)) w') → wpOp P l.toArray Q E[r] K a w)
    (hend : ∀ (gv : Value) (w : World), C E.length gv w → Q .normal ⟨puts a0.tmps ((DV gv).filterMap _root_.id), a0.defers⟩ w) :
    (Code.region id l.toArray true).wp P Q a0 W0 := by
  have hsz : l.toArray.size = l.length := by simp
  refine wp_region_any hm (wpAny_inv (fun listed a w => ∃ gv, BaseInv .any l.toArray a0 (DV gv) listed a ∧ ∃ k, k ≤ E.length ∧ C k gv w ∧ ∀ r (h : r < E.length), (listed.getD E[r] false = true ↔ r < k)) ho ?_ ?_ _ _ _ _ (by simp) ?_ ?_)
  · rintro listed a w hz ⟨gv, I, k, hk, hC, hkl⟩ i hi
    obtain ⟨hun, oi, hoi, _⟩ := mem_ready.1 hi
    have hisz : i < l.length := by rw [← hsz]; exact (Array.getElem?_eq_some_iff.1 hoi).1
    have hunf : listed.getD i false = false := by
      have h1 : i < listed.size := by rw [hz, hsz]; exact hisz
      simpa [Array.getD_eq_getD_getElem?, Array.getElem?_eq_getElem h1] using hun
    have hset : (listed.setIfInBounds i true).getD i false = true := by
      have h1 : i < listed.size := by rw [hz, hsz]; exact hisz
      simp [Array.getD_eq_getD_getElem?, h1]
    have hstep : ∀ gv' (w' : World) k', BaseInv .any l.toArray a0 (DV gv') listed a → (k' ≤ E.length ∧ C k' gv' w' ∧ ∀ r (h : r < E.length), ((listed.setIfInBounds i true).getD E[r] false = true ↔ r < k')) →
        ∃ gv, BaseInv .any l.toArray a0 (DV gv) (listed.setIfInBounds i true) (putO a ((DV gv')[i]?.getD none)) ∧ ∃ k, k ≤ E.length ∧ C k gv w' ∧ ∀ r (h : r < E.length), ((listed.setIfInBounds i true).getD E[r] false = true ↔ r < k) := by
      intro gv' w' k' I' h'
      have J : ChainInv .any l.toArray (fun _ _ => True) a0 (DV gv') [] (listed.setIfInBounds i true) (putO a ((DV gv')[i]?.getD none)) w' :=
        ChainInv.step (w := w') ⟨I'.fr, I'.val, I'.down, 0, Nat.zero_le _, trivial, fun r hr => absurd hr (by simp)⟩ (by rw [hlen]; simp) (by rw [hdd g0]; exact hn) (by rw [hdd g0]; exact hbd) hi ⟨0, Nat.zero_le _, trivial, fun r hr => absurd hr (by simp)⟩
      exact ⟨gv', ⟨J.fr, J.val, J.down⟩, k', h'⟩
    by_cases hE : i ∈ E
    · obtain ⟨r, hr, rfl⟩ := List.getElem_of_mem hE
      have hrk : r = k := by
        have h1 : ¬ r < k := fun h => by rw [(hkl r hr).2 h] at hunf; cases hunf
        cases r with
        | zero => omega
        | succ r =>
          have := (hkl r (by omega)).1 (ready_waits hi (hch r hr))
          omega
      subst hrk
      refine he r hr gv a w (by rw [← hdd g0 gv]; exact I.fr) (fun j hw => I.val j (ready_waits hi hw)) hC _ fun gv' w' hg hw' => ?_
      have I' : BaseInv .any l.toArray a0 (DV gv') listed a := by
        by_cases hix : E[r] = ix
        · exact I.ghost ix (hix ▸ hunf) (fun i hne => hs gv gv' i hne) (hdd _ _)
        · rw [hg hix]; exact I
      refine hstep gv' w' (r + 1) I' ⟨hr, hw', fun s hs => ?_⟩
      by_cases hsr : s = r
      · subst hsr; simp [hset]
      · have hne : E[r] ≠ E[s] := fun e => hsr (nodup_inj hEn hr hs e).symm
        rw [set_ne hne, hkl s hs]; omega
    · refine hq i hisz hE gv a w k (by rw [← hdd g0 gv]; exact I.fr) (fun j hw => I.val j (ready_waits hi hw)) hC (fun r hr hrk => ?_) _ ?_
      · cases hw : waitsB .any l.toArray E[r] i with
        | false => rfl
        | true =>
          have := I.down _ _ ((hkl r hr).2 hrk) hw
          rw [hunf] at this; cases this
      · refine hstep gv w k I ⟨hk, hC, fun s hs => ?_⟩
        have hne : i ≠ E[s] := fun e => hE (e ▸ List.getElem_mem hs)
        rw [set_ne hne]; exact hkl s hs
  · rintro listed a w hz hall ⟨gv, I, k, hk, hC, hkl⟩
    have hkE : k = E.length := by
      rcases Nat.lt_or_ge k E.length with h | h
      · have := (hkl k h).1 (hall _ (by rw [hsz]; exact hEb _ (List.getElem_mem h)))
        omega
      · omega
    subst hkE
    rw [I.fr.eq (by rw [hdd g0]; exact hn) (fun x hx => hbd _ (by rw [← hdd g0 gv]; exact List.mem_map.2 ⟨x, hx, rfl⟩)) (fun x hx => ?_)]
    · exact hend gv w hC
    · obtain ⟨y, hy, hyx⟩ := List.mem_filterMap.1 hx
      obtain ⟨i, hi, hiy⟩ := List.getElem_of_mem hy
      simp only [_root_.id] at hyx
      refine I.val i (hall i (by rw [hsz, ← hlen gv]; omega)) x.1 x.2 ?_
      rw [List.getElem?_eq_getElem hi, hiy, hyx]
  · simp
  · refine ⟨g0, ⟨⟨rfl, rfl, fun _ _ => rfl⟩, fun i hl => ?_, fun i j hl => ?_⟩, 0, Nat.zero_le _, h0, fun r hr => ?_⟩
    · rw [gd_rep] at hl; cases hl
    · rw [gd_rep] at hl; cases hl
    · rw [gd_rep]; simp
end
end Go.Proofs.Ytagdedjclbmlkaa
