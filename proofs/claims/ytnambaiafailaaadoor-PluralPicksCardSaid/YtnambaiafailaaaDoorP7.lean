/- Pick; PluralPicks: the walk. -/
import Derived.Test.YtnambaiafailaaaDoorO7
import Derived.Test.YtnambaiafailaaaDoorG2
import Derived.Test.YtnambaiafailaaaDoorSh
namespace Go.Proofs.YtnambaiafailaaaDoor
open Go.ChangeShapes Go.WideShapes Go.ChangeAt Go.RowKit Go.Deep

def eI (x : Int) : List Value := [.int .i64 x]
theorem eI_len (x : Int) : (eI x).length = 1 := rfl
set_option maxRecDepth 100000 in
theorem open_ints7 {H : Type} {ench : TypeId × Value → H} {w : World} {base : Nat} {held : Bool} {v : Value} {d : DataW H} {p : List MemPlace} {r : Reach} {b0 : Nat}
    (hv : Value.okWide Tryd.prog w r b0 64 v) (h : DataW.Trod ench Tryd.prog w base (fun _ => true) held 64 v d p) :
    ∃ (q : Option Addr) (xs : List Int) (cap : Nat), v = .slice q xs.length cap ∧ xs.length ≤ cap ∧ cap ≤ maxLen ∧ SlAt eI 1 w q xs := by
  obtain ⟨q, xs, cap, h1, h2, h3, h4, _⟩ := open_rows (E := 3) (enc := eI) (k := 1) (φ := fun _ : Int => True) Tryd.underlying64 (by kernel_rfl) (by omega) (fun n cs y hy hl => by
    match cs, hl with
    | [c], _ =>
      obtain ⟨x, hx, _, _⟩ := DataW.trod_int Tryd.underlying3 hy
      exact ⟨x, hx, trivial⟩) hv h
  exact ⟨q, xs, cap, h1, h2, h3, h4⟩
theorem contains7 (q : Option Addr) (l : List Int) (n cap : Nat) (x : Int) (w : World) (hn : l.length = n) (hm : n ≤ maxLen) (hS : SlAt eI 1 w q l) :
    Calls Tryd.prog 59 #[.slice q n cap, .int .i64 x] w fun e w' => e = .returned (.bool (l.contains x)) ∧ w = w' := by
  subst hn
  cases l with
  | nil =>
    exact (Tryd.slices_Contains_int_empty q cap x w).mono fun e w' ⟨h1, h2⟩ => ⟨h1, h2.symm⟩
  | cons y l =>
    obtain ⟨b, o, rfl, _, _⟩ := hS 0 (by simp)
    have := Tryd.slices_Contains_int b o (y :: l).length cap (y :: l) x w (Nat.le_refl _) (by unfold maxLen at hm; omega) (fun j hj => by
      obtain ⟨b', o', h1, _, h3⟩ := hS j hj
      simp only [Option.some.injEq, Addr.mk.injEq] at h1
      obtain ⟨rfl, rfl, _⟩ := h1
      have := h3 0 _ rfl
      rw [Nat.mul_one, Nat.add_zero] at this
      rw [this, List.getD_eq_getElem?_getD, List.getElem?_eq_getElem hj]; rfl)
    rw [List.take_of_length_le (Nat.le_refl _)] at this
    exact this.mono fun e w' ⟨h1, h2⟩ => ⟨h1, h2.symm⟩
def pickC (c : Int) (l : List Int) : Int := if l.contains c then c else if l.contains 5 then 5 else 0
def pickB (c : Int) (l : List Int) : Bool := l.contains c || l.contains 5
set_option maxRecDepth 100000 in
set_option maxHeartbeats 4000000 in
theorem pick_any (b : List UInt8) (m : Int) (q : Option Addr) (l : List Int) (n cap : Nat) (w : World) (hb : b.length = 10) (hmx : MX w) (h0 : 0 ≤ m) (hn : l.length = n) (hml : n ≤ maxLen) (hS : SlAt eI 1 w q l) :
    Calls Tryd.prog 36 #[.agg (bC b), .int .u64 m, .slice q n cap] w fun e w' => e = .returned (.tuple #[.int .i64 (pickC (catI (grpL (langB b)) m) l), .bool (pickB (catI (grpL (langB b)) m) l)]) ∧ Below w.heap.size w w' := by
  have HG0 : Hid ((w.alloc (.cells (bC b) 29)).heap[w.heap.size]? = some (.cells (bC b) 29 (0, 0))) := heap_alloc_new _ _
  have HB0 : Hid (Below w.heap.size w (w.alloc (.cells (bC b) 29))) := below_alloc1 _ _
  have HOf : Hid (∀ W : World, Below w.heap.size w W → Calls Tryd.prog 29 #[.agg (bC b), .int .u64 m] W fun e w' => e = .returned (.int .i64 (catI (grpL (langB b)) m)) ∧ Below W.heap.size W w') := fun W hW => pluralOf_any b m W hb (hmx.below hW) h0
  have HCo : Hid (∀ (x : Int) (W : World), Below w.heap.size w W → Calls Tryd.prog 59 #[.slice q n cap, .int .i64 x] W fun e w' => e = .returned (.bool (l.contains x)) ∧ W = w') := fun x W hW => contains7 q l n cap x W hn hml (hS.below hW)
  have H10 := Lib.hid hb
  clear hb hmx hS hn
  generalize catI (grpL (langB b)) m = c at *
  have HC1 : Hid (pickC c l = if l.contains c then c else if l.contains 5 then 5 else 0) := rfl
  have HC2 : Hid (pickB c l = (l.contains c || l.contains 5)) := rfl
  have HCa : Hid (∀ W : World, Below w.heap.size w W → Calls Tryd.prog 59 #[.slice q n cap, .int .i64 c] W fun e w' => e = .returned (.bool (l.contains c)) ∧ W = w') := HCo.out c
  have HCb : Hid (∀ W : World, Below w.heap.size w W → Calls Tryd.prog 59 #[.slice q n cap, .int .i64 5] W fun e w' => e = .returned (.bool (l.contains 5)) ∧ W = w') := HCo.out 5
  clear HCo
  generalize l.contains c = t1 at *
  generalize l.contains 5 = t2 at *
  go_enter Tryd.func36, Tryd.ntmps36
  go_wp2_with (first
    | (with_reducible refine ld_T rfl _ rfl w.heap.size b H10.out rfl HG0.out ?_)
    | (go_at_call 29; (refine (HOf.out _ HB0.out).mono ?_); rintro e w1 ⟨rfl, hb1⟩; have HB1 := Lib.hid ((HB0.out.trans (hb1.mono HB0.out.size)).alloc (HB0.out.trans (hb1.mono HB0.out.size)).size (.cells #[.int .i64 c, .int .i64 5] 3)); clear hb1))
  have c0 : (w1.alloc (.cells #[.int .i64 c, .int .i64 5] 3)).cell? ⟨w1.heap.size, 0, none⟩ = some (.int .i64 c) := by rw [cell_blk (heap_alloc_new _ _)]; rfl
  have c1 : (w1.alloc (.cells #[.int .i64 c, .int .i64 5] 3)).cell? ⟨w1.heap.size, 1, none⟩ = some (.int .i64 5) := by rw [cell_blk (heap_alloc_new _ _)]; rfl
  generalize w1.alloc (.cells #[.int .i64 c, .int .i64 5] 3) = W2 at *
  clear HOf HG0 HB0
  go_loop [15] (fun i => ∃ k : Nat, k ≤ 2 ∧ i = .int .i64 k ∧ Hid ((1 ≤ k → t1 = false) ∧ (2 ≤ k → t2 = false))) (fun i => 2 - (intOf i).toNat)
  case atStart => exact ⟨0, by omega, rfl, by omega, by omega⟩
  case round =>
    obtain ⟨k, hk, rfl, HF⟩ := hrel
    rcases (show k = 0 ∨ k = 1 ∨ k = 2 by omega) with rfl | rfl | rfl
    · cases t1
      · go_wp2_with (go_at_call 59; (with_reducible refine (HCa.out _ HB1.out).mono ?_); rintro e w3 ⟨rfl, rfl⟩)
        go_round
        case rel => exact ⟨1, by omega, rfl, fun _ => by simp, by omega⟩
        case measure => simp [intOf]
      · go_wp2_with (go_at_call 59; (with_reducible refine (HCa.out _ HB1.out).mono ?_); rintro e w3 ⟨rfl, rfl⟩)
        go_ret2
        exact ⟨by rw [HC1.out, HC2.out]; rfl, HB1.out⟩
    · have ht1 := HF.out.1 (by omega)
      subst ht1
      cases t2
      · go_wp2_with (go_at_call 59; (with_reducible refine (HCb.out _ HB1.out).mono ?_); rintro e w3 ⟨rfl, rfl⟩)
        go_round
        case rel => exact ⟨2, by omega, rfl, fun _ => by simp, fun _ => by simp⟩
        case measure => simp [intOf]
      · go_wp2_with (go_at_call 59; (with_reducible refine (HCb.out _ HB1.out).mono ?_); rintro e w3 ⟨rfl, rfl⟩)
        go_ret2
        exact ⟨by rw [HC1.out, HC2.out]; rfl, HB1.out⟩
    · have ht1 := HF.out.1 (by omega)
      have ht2 := HF.out.2 (by omega)
      subst ht1 ht2
      go_wp2_with fail
      go_ret2
      exact ⟨by rw [HC1.out, HC2.out]; rfl, HB1.out⟩
end Go.Proofs.YtnambaiafailaaaDoor
