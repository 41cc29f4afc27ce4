/- A drawn region, by an invariant over the set of its operations that have run: each operation once, in whatever order they come. Over any program. -/
import Derived.Test.YtbfefdedjcppaaaGreatDoorGX
namespace Go.Proofs.YtbfefdedjcppaaaGreatDoor
open Go.RowKit
section
variable {P : Program} {Q : Exit → Act → World → Prop}
def ranI (L : Nat → Bool) (i : Nat) : Nat → Bool := fun j => if j = i then true else L j
theorem ranI_same (L : Nat → Bool) (i : Nat) : ranI L i i = true := if_pos rfl
theorem ranI_ne (L : Nat → Bool) {i j : Nat} (h : j ≠ i) : ranI L i j = L j := if_neg h
theorem wp_region_set {γ : Type} {id : Nat} {a0 : Act} {W0 : World} {l : List Oper} (C : (Nat → Bool) → γ → World → Prop) (DV : γ → List (Option (Nat × Value))) (g0 : γ)
   (hm : P.follows .mixedOrders = true) (ho : ordB .any l.toArray = true) (hlen : ∀ v, (DV v).length = l.length)
   (hdd : ∀ v v', ((DV v').filterMap _root_.id).map (·.1) = ((DV v).filterMap _root_.id).map (·.1))
   (hn : (((DV g0).filterMap _root_.id).map (·.1)).Nodup) (hbd : ∀ k ∈ ((DV g0).filterMap _root_.id).map (·.1), k < a0.tmps.size)
   (h0 : C (fun _ => false) g0 { W0 with drawn := W0.drawn + 1 })
   (hs : ∀ i, i < l.length → ∀ (L : Nat → Bool) (gv : γ) (a : Act) (w : World), Fr a0 (((DV g0).filterMap _root_.id).map (·.1)) a → L i = false → (∀ j, waitsB .any l.toArray i j = true → L j = true) → (∀ i' j, L i' = true → waitsB .any l.toArray i' j = true → L j = true) → (∀ j, L j = true → Held (DV gv) a j) → C L gv w →
     ∀ K : Act → World → Prop, (∀ gv' w', (∀ j, L j = true → (DV gv')[j]? = (DV gv)[j]?) → C (ranI L i) gv' w' → K (putO a ((DV gv')[i]?.getD none)) w') → wpOp P l.toArray Q i K a w)
   (hend : ∀ (L : Nat → Bool) (gv : γ) (w : World), (∀ i, i < l.length → L i = true) → C L gv w → Q .normal ⟨puts a0.tmps ((DV gv).filterMap _root_.id), a0.defers⟩ w) :
   (Code.region id l.toArray true).wp P Q a0 W0 := by
 have hsz : l.toArray.size = l.length := by simp
 refine wp_region_any hm (wpAny_inv (fun listed a w => ∃ gv, BaseInv .any l.toArray a0 (DV gv) listed a ∧ ∃ L : Nat → Bool, (∀ j, L j = listed.getD j false) ∧ C L gv w) ho ?_ ?_ _ _ _ _ (by simp) ?_ ?_)
 · rintro listed a w hz ⟨gv, I, L, hL, hC⟩ i hi
   obtain ⟨hun, oi, hoi, _⟩ := mem_ready.1 hi
   have hisz : i < l.length := by rw [← hsz]; exact (Array.getElem?_eq_some_iff.1 hoi).1
   have h1 : i < listed.size := by rw [hz, hsz]; exact hisz
   have hunf : listed.getD i false = false := by
     simpa [Array.getD_eq_getD_getElem?, Array.getElem?_eq_getElem h1] using hun
   have hset : (listed.setIfInBounds i true).getD i false = true := by
     simp [Array.getD_eq_getD_getElem?, h1]
   refine hs i hisz L gv a w (by rw [← hdd g0 gv]; exact I.fr) (by rw [hL]; exact hunf) (fun j hw => by rw [hL]; exact ready_waits hi hw) (fun i' j hl hw => by rw [hL] at hl ⊢; exact I.down i' j hl hw) (fun j hl => I.val j (by rw [← hL]; exact hl)) hC _ fun gv' w' hg hw' => ?_
   have I' : BaseInv .any l.toArray a0 (DV gv') listed a := ⟨by rw [hdd gv gv']; exact I.fr, fun j hl => by
     intro d v h
     rw [hg j (by rw [hL]; exact hl)] at h
     exact I.val j hl d v h, I.down⟩
   have J : ChainInv .any l.toArray (fun _ _ => True) a0 (DV gv') [] (listed.setIfInBounds i true) (putO a ((DV gv')[i]?.getD none)) w' :=
     ChainInv.step (w := w') ⟨I'.fr, I'.val, I'.down, 0, Nat.zero_le _, trivial, fun r hr => absurd hr (by simp)⟩ (by rw [hlen]; simp) (by rw [hdd g0]; exact hn) (by rw [hdd g0]; exact hbd) hi ⟨0, Nat.zero_le _, trivial, fun r hr => absurd hr (by simp)⟩
   refine ⟨gv', ⟨J.fr, J.val, J.down⟩, ranI L i, fun j => ?_, hw'⟩
   by_cases hj : j = i
   · subst hj; rw [ranI_same, hset]
   · rw [ranI_ne L hj, set_ne (Ne.symm hj), hL]
 · rintro listed a w hz hall ⟨gv, I, L, hL, hC⟩
   rw [I.fr.eq (by rw [hdd g0]; exact hn) (fun x hx => hbd _ (by rw [← hdd g0 gv]; exact List.mem_map.2 ⟨x, hx, rfl⟩)) (fun x hx => ?_)]
   · exact hend L gv w (fun i hi => by rw [hL]; exact hall i (by rw [hsz]; exact hi)) hC
   · obtain ⟨y, hy, hyx⟩ := List.mem_filterMap.1 hx
     obtain ⟨i, hi, hiy⟩ := List.getElem_of_mem hy
     simp only [_root_.id] at hyx
     refine I.val i (hall i (by rw [hsz, ← hlen gv]; omega)) x.1 x.2 ?_
     rw [List.getElem?_eq_getElem hi, hiy, hyx]
 · simp
 · refine ⟨g0, ⟨⟨rfl, rfl, fun _ _ => rfl⟩, fun i hl => ?_, fun i j hl => ?_⟩, fun _ => false, fun j => ?_, h0⟩
   · rw [gd_rep] at hl; cases hl
   · rw [gd_rep] at hl; cases hl
   · rw [gd_rep]
end
end Go.Proofs.YtbfefdedjcppaaaGreatDoor
