/- Count. -/
import Derived.Test.YtmbbhnbfgcmkgaaDoorLWh
import Derived.Maps.Own
import Derived.Maps.OwnOps
import Derived.Maps.OwnSet
import Derived.Maps.Views
namespace Go.Proofs.YtmbbhnbfgcmkgaaDoor
open Go.RowKit Go.Maps

theorem lawI : Keyed Tryd.prog 3 := int_keyed Tryd.underlying3
theorem zeroI (w : World) : (zeroValue 3).run Tryd.prog w = .ok (.int .i64 0) w := by kernel_rfl
def kk (k : Int) : Lit := .int .i64 k
theorem kk_ne {a b : Int} (h : a ≠ b) : kk a ≠ kk b := fun e => h (by simpa [kk] using e)
/-- How many acts are of a kind. -/
def cntK (xs : List A4) (k : Int) : Nat := xs.countP fun x => decide (x.kind = k)
theorem cnt_snoc (xs : List A4) (x : A4) (k : Int) : cntK (xs ++ [x]) k = cntK xs k + if x.kind = k then 1 else 0 := by
  unfold cntK
  rw [List.countP_append, List.countP_singleton]
  simp
theorem cnt_le (xs : List A4) (k : Int) : cntK xs k ≤ xs.length := List.countP_le_length
def one (n : Nat) : Nat := if 0 < n then 1 else 0
def kindsN (f : Int → Nat) : Nat := one (f 1) + one (f 2) + one (f 3) + one (f 4) + one (f 5) + one (f 6)
/-- A map that counts. -/
structure CntD (D : DataW Unit) (xs : List A4) : Prop where
  at_ : ∀ k : Int, 1 ≤ k → k ≤ 6 → D.atKey (kk k) (.lit (kk 0)) = .lit (kk (cntK xs k))
  has_ : ∀ k : Int, 1 ≤ k → k ≤ 6 → Maps.has D (kk k) = decide (0 < cntK xs k)
  size_ : Maps.size D = kindsN (cntK xs)
theorem CntD.nil : CntD (.map []) [] := ⟨fun _ _ _ => rfl, fun _ _ _ => rfl, rfl⟩
theorem CntD.skip {D : DataW Unit} {xs : List A4} {x : A4} (h : CntD D xs) (hk : x.kind < 1 ∨ 6 < x.kind) : CntD D (xs ++ [x]) := by
  have e : ∀ k : Int, 1 ≤ k → k ≤ 6 → cntK (xs ++ [x]) k = cntK xs k := fun k h1 h2 => by rw [cnt_snoc, if_neg (by omega)]; rfl
  refine ⟨fun k h1 h2 => by rw [e k h1 h2]; exact h.at_ k h1 h2, fun k h1 h2 => by rw [e k h1 h2]; exact h.has_ k h1 h2, ?_⟩
  rw [h.size_]
  unfold kindsN
  rw [e 1 (by omega) (by omega), e 2 (by omega) (by omega), e 3 (by omega) (by omega), e 4 (by omega) (by omega), e 5 (by omega) (by omega), e 6 (by omega) (by omega)]
theorem kindsN_put {f g : Int → Nat} {κ : Int} (h1 : 1 ≤ κ) (h2 : κ ≤ 6) (hg : ∀ k, g k = f k + if κ = k then 1 else 0) : kindsN g = if 0 < f κ then kindsN f else kindsN f + 1 := by
  unfold kindsN
  rw [hg 1, hg 2, hg 3, hg 4, hg 5, hg 6]
  obtain rfl | rfl | rfl | rfl | rfl | rfl : κ = 1 ∨ κ = 2 ∨ κ = 3 ∨ κ = 4 ∨ κ = 5 ∨ κ = 6 := by omega
  all_goals
    simp only [if_true, Int.reduceEq, if_false, Nat.add_zero]
    unfold one
    split <;> simp_all <;> omega
theorem CntD.put {D : DataW Unit} {xs : List A4} {x : A4} (h : CntD D xs) (ht : Tidy D) (hk1 : 1 ≤ x.kind) (hk2 : x.kind ≤ 6) : CntD (D.put (kk x.kind) (.lit (kk ((cntK xs x.kind : Nat) + 1)))) (xs ++ [x]) := by
  have hkl : WideAt.IsKeyLit (kk x.kind) := trivial
  refine ⟨fun k h1 h2 => ?_, fun k h1 h2 => ?_, ?_⟩
  · by_cases e : k = x.kind
    · subst e
      rw [atKey_put_same ht.isMap hkl, cnt_snoc, if_pos rfl]; rfl
    · rw [atKey_put_other (kk_ne e), h.at_ k h1 h2, cnt_snoc, if_neg (fun e' => e e'.symm)]; rfl
  · by_cases e : k = x.kind
    · subst e
      rw [has_put_same ht.isMap hkl, cnt_snoc, if_pos rfl]; simp
    · rw [has_put_other (kk_ne e), h.has_ k h1 h2, cnt_snoc, if_neg (fun e' => e e'.symm)]; rfl
  · rw [size_put ht, h.has_ _ hk1 hk2, h.size_, kindsN_put (f := cntK xs) (g := cntK (xs ++ [x])) hk1 hk2 (fun k => cnt_snoc xs x k)]
    simp
/-- The map lies in block b. -/
def CMap (W : World) (b n : Nat) (xs : List A4) : Prop := ∃ D : DataW Unit, W.ownsMap Tryd.prog 3 (plainElem Tryd.prog 3) b n D ∧ CntD D xs
theorem own_below {W W' : World} {b n : Nat} {D : DataW Unit} (h : W.ownsMap Tryd.prog 3 (plainElem Tryd.prog 3) b n D) (hb : Below W.heap.size W W') : W'.ownsMap Tryd.prog 3 (plainElem Tryd.prog 3) b n D := by
  obtain ⟨es, c, h1, h2⟩ := h
  exact ⟨es, c, (hb.block b (lt_heap h1)).trans h1, h2⟩
theorem CMap.below {W W' : World} {b n : Nat} {xs : List A4} (h : CMap W b n xs) (hb : Below W.heap.size W W') : CMap W' b n xs := by
  obtain ⟨D, h1, h2⟩ := h
  exact ⟨D, own_below h1 hb, h2⟩
set_option maxRecDepth 100000 in
set_option maxHeartbeats 8000000 in
theorem count_any (q : Option Addr) (xs : List A4) (n cap : Nat) (w : World) (hn : xs.length = n) (hm : n ≤ 1000000) (hA : Acts w q xs) :
    Calls Tryd.prog 20 #[.slice q n cap] w fun e w' => e = .returned (.map (some w.heap.size)) ∧ CMap w' w.heap.size n xs ∧ Below w.heap.size w w' := by
  have HL := Lib.hid hn
  have HA := Lib.hid hA
  clear hn hA
  have hmm := @run_makeMap Tryd.prog
  have HM0 : Hid (CMap (w.alloc (.map #[] 0)) w.heap.size 0 []) := ⟨_, World.ownsMap_made _ _ _ _, CntD.nil⟩
  have HB0 : Hid (Below w.heap.size w (w.alloc (.map #[] 0))) := below_alloc1 _ _
  go_enter Tryd.func20, Tryd.ntmps20
  go_wp2_with fail
  clear hmm
  generalize w.alloc (.map #[] 0) = W0 at *
  go_loopw [9] (fun i wr => ∃ k : Nat, k ≤ n ∧ i = .int .i64 k ∧ Hid (Below w.heap.size w wr) ∧ Hid (CMap wr w.heap.size k (xs.take k))) (fun i _ => n - (intOf i).toNat)
  case atStart => exact ⟨0, Nat.zero_le _, rfl, HB0.out, HM0.out⟩
  case round =>
    obtain ⟨k, hk, rfl, HB, HM⟩ := hrel
    clear HB0 HM0
    by_cases hlt : k < n
    · have hli : (k : Int) < n := by omega
      have hkx : k < xs.length := by rw [HL.out]; exact hlt
      obtain ⟨b, f, rfl, hb, hr⟩ := (HA.out.row.below HB.out) k hkx
      have HR := Lib.hid (InRow.mk hb hr)
      have HT : Hid (xs.take (k + 1) = xs.take k ++ [xs[k]]) := List.take_succ_eq_append_getElem hkx
      have hcn : cntK (xs.take k) xs[k].kind ≤ 1000000 := by have := cnt_le (xs.take k) xs[k].kind; have := List.length_take_le k xs; omega
      clear hb hr
      generalize xs.take k = ys at *
      generalize xs[k] = x at *
      go_upto_region 5 with (first
        | (refine wl_ix rfl 22 36 _ _ rfl Tryd.underlying22 4 sizA4 b f n cap k rfl rfl hlt ?_)
        | (refine ld_A4 rfl _ rfl b (f + k * 4) x rfl HR.out.row ?_)
        | ((with_reducible refine gate_st 36 _ _ rfl ?_); refine wl_strn rfl _ _ _ rfl (a4C x).toArray _ _ sizA4 rfl (by simp [a4C, Value.oneCell']) rfl rfl ?_))
      have HX : Hid ((wr.alloc (.cells (a4C x).toArray 36)).heap[wr.heap.size]? = some (Obj.cells (a4C x).toArray 36 (0, 0))) := heap_alloc_new _ _
      have HB2 : Hid (Below w.heap.size w (wr.alloc (.cells (a4C x).toArray 36))) := HB.out.alloc HB.out.size _
      have HM2 : Hid (CMap (wr.alloc (.cells (a4C x).toArray 36)) w.heap.size k ys) := HM.out.below (below_alloc1 _ _)
      clear HB HM HR
      generalize wr.alloc (.cells (a4C x).toArray 36) = W1 at *
      generalize wr.heap.size = g at *
      have hc0 : W1.cell? ⟨g, 0, none⟩ = some (.int .i64 x.kind) := by rw [cell_blk HX.out]; rfl
      by_cases hk1 : x.kind < 1
      · have h1 : ¬ 1 ≤ x.kind := by omega
        have HM3 : Hid (CMap W1 w.heap.size (k + 1) (ys ++ [x])) := by obtain ⟨D, m1, m2⟩ := HM2.out; exact ⟨D, m1.mono (by omega), m2.skip (Or.inl hk1)⟩
        go_wp2_with fail
        go_roundw
        case rel => exact ⟨k + 1, by omega, by go_num, HB2.out, by rw [HT.out]; exact HM3.out⟩
        case measure => simp [intOf]; omega
      by_cases hk2 : 6 < x.kind
      · have h1 : 1 ≤ x.kind := by omega
        have h2 : ¬ x.kind ≤ 6 := by omega
        have HM3 : Hid (CMap W1 w.heap.size (k + 1) (ys ++ [x])) := by obtain ⟨D, m1, m2⟩ := HM2.out; exact ⟨D, m1.mono (by omega), m2.skip (Or.inr hk2)⟩
        go_wp2_with fail
        go_roundw
        case rel => exact ⟨k + 1, by omega, by go_num, HB2.out, by rw [HT.out]; exact HM3.out⟩
        case measure => simp [intOf]; omega
      have h1 : 1 ≤ x.kind := by omega
      have h2 : x.kind ≤ 6 := by omega
      have HKw : Hid ((kk x.kind).wf = true) := WalkArith.wf_i64 (by omega)
      obtain ⟨D, hown, hcnt⟩ := HM2.out
      have HO := Lib.hid hown
      have HCn := Lib.hid hcnt
      have HTd := Lib.hid (hown.tidy lawI)
      have hkey : keyOf Tryd.prog 3 (.int .i64 x.kind) = some (kk x.kind) := keyOf_int_mk Tryd.underlying3 HKw.out
      obtain ⟨c, hrun, hat, hwc⟩ := hown.lookup_int lawI Tryd.underlying49 Tryd.underlying3 (zeroI _) hkey
      obtain rfl : c = (cntK ys x.kind : Nat) := by
        have := (hcnt.at_ x.kind h1 h2).symm.trans hat
        simpa [kk] using this.symm
      have HCP := Lib.hid (hcnt.put HTd.out h1 h2)
      have hWf1 : (Lit.int .i64 ((cntK ys x.kind : Nat) + 1)).wf = true := WalkArith.wf_i64 (by omega)
      have HKy := Lib.hid hkey
      clear hown hcnt hat hwc HM2 hkey
      generalize cntK ys x.kind = cn at *
      go_wp2_with (first
        | (at_mapUpdate; refine wpList_mapUpdate_own _ rfl _ _ _ 49 rfl 3 3 lawI Tryd.underlying49 _ w.heap.size k _ rfl HO.out (by unfold maxLen; omega) _ _ _ rfl rfl HKy.out _ [] (plainElem_int Tryd.underlying3 hWf1) ?_; intro w1 hown1 hgrow1; have HO1 := Lib.hid hown1; have HB3 := Lib.hid (HB2.out.trans (grown_below (v := .slice (some ⟨w.heap.size, 0, none⟩) 0 0) hgrow1 (fun g hg => by cases hg; exact Nat.le_refl _) HB2.out.size)); clear hown1 hgrow1))
      go_roundw
      case rel => exact ⟨k + 1, by omega, by go_num, HB3.out, by rw [HT.out]; exact ⟨_, HO1.out, HCP.out⟩⟩
      case measure => simp [intOf]; omega
    · obtain rfl : k = n := by omega
      have hli : ¬ (k : Int) < k := by omega
      rw [List.take_of_length_le (Nat.le_of_eq HL.out)] at HM
      go_wp2_with fail
      go_ret
      exact ⟨rfl, HM.out, HB.out⟩
end Go.Proofs.YtmbbhnbfgcmkgaaDoor
