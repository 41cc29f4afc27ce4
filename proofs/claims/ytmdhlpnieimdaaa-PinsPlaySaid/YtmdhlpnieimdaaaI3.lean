/- Pin at a table that has no map yet. -/
import Derived.Test.YtmdhlpnieimdaaaI2
namespace Go.Proofs.Ytmdhlpnieimdaaa
open Go.RowKit

set_option maxRecDepth 100000 in
set_option maxHeartbeats 1000000 in
theorem pin_none (tp used k : Nat) (at' : List Nat) (t : Nat) (f : Nat → Nat) (K : List Nat) (w : World) (ht : Tab w tp used at' f K none) (hb : botOf (notW used) = k) (hk : k < 64):
    Calls Try.prog 8 #[.pointer (some ⟨tp, 0, none⟩), .int .u64 t] w (PinPost tp w.heap.size used k at' t f K w) := by
  obtain ⟨ht, rfl, rfl⟩ := ht
  have htl := lt_heap ht.hg
  have hrt : w.heap.size ≠ tp := by omega
  have hm0 : ∀ W : World, (Instr.makeMap 25 none).run Try.prog W = .ok (.map (some W.heap.size)) (W.alloc (.map #[] 0)) := fun W => run_makeMap 25 W
  have hsz : ∀ b i v (W : World), (W.setCell ⟨b, i, none⟩ v).heap.size = W.heap.size := fun b i v W => by simp [World.setCell]
  have hkl : k < at'.length := by rw [ht.hl]; exact hk
  have h2k : 2 ^ k < 18446744073709551616 := by
    have h64 : (18446744073709551616 : Nat) = 2 ^ 64 := by decide
    rw [h64]; exact Nat.pow_lt_pow_right (by omega) hk
  have hor : bits BinOp.or IntKind.u64 (used : Int) (IntKind.u64.wrap (2 ^ k)) = ((used ||| 2 ^ k : Nat) : Int) := by
    have : IntKind.u64.wrap (2 ^ k) = ((2 ^ k : Nat) : Int) := by
      show (2 ^ k : Int) % 18446744073709551616 = _
      rw [show (2 ^ k : Int) = ((2 ^ k : Nat) : Int) by rw [Int.natCast_pow]; rfl]
      generalize 2 ^ k = z at *
      omega
    rw [this]; exact bits_or_u64_nat used (2 ^ k) ht.hu h2k
  have hou : used ||| 2 ^ k < 18446744073709551616 := by
    have h64 : (18446744073709551616 : Nat) = 2 ^ 64 := by decide
    rw [h64]; exact Nat.or_lt_two_pow (by rw [← h64]; exact ht.hu) (by rw [← h64]; exact h2k)
  have hcu := ht.cu
  have hca := ht.ca k hkl
  have hft : (0 : Nat) < 1000 := by omega
  have hcm := ht.cm
  have hn := not_u64 used ht.hu
  have HB : Hid (∀ W, Calls Try.prog 20 #[.int .u64 (notW used)] W fun e w' => e = .returned (.int .i64 k) ∧ W = w') := fun W => by
    have := bottom_any (notW used) W (by unfold notW; omega)
    rw [hb] at this; exact this
  have hnil : ∀ W : World, (binOp .eql 25 (.map none) (.map none)).run Try.prog W = .ok (.bool true) W := fun W => run_eql_map_nil W 25 _ _ none Try.underlying25
  have hf : ∀ i, w.frozen? ⟨tp, i, none⟩ = false := fun i => by simp [World.frozen?, ht.hg]
  have hk0 : (k : Int) < 64 := by omega
  have hg1 : ((((w.setCell ⟨tp, 65, none⟩ (.map (some w.heap.size))).setCell ⟨tp, 0, none⟩ (.int .u64 ((used ||| 2 ^ k : Nat) : Int))).setCell ⟨tp, 1 + k, none⟩ (.int .u64 t)).alloc (.map #[] 0)).heap[tp]? = some (.cells (tabC (used ||| 2 ^ k) (at'.set k t) (some w.heap.size)) 27) := by
    rw [heap_alloc_old _ _ (by rw [hsz, hsz, hsz]; exact htl), heap_setCell_self _ (heap_setCell_self _ (heap_setCell_self _ ht.hg)), tabC_setMap ht.hl, tabC_setUsed, tabC_setAt k t hkl]
  have hr1 : ((((w.setCell ⟨tp, 65, none⟩ (.map (some w.heap.size))).setCell ⟨tp, 0, none⟩ (.int .u64 ((used ||| 2 ^ k : Nat) : Int))).setCell ⟨tp, 1 + k, none⟩ (.int .u64 t)).alloc (.map #[] 0)).heap[w.heap.size]? = some (mObjN [] 0) := by
    have := heap_alloc_new (((w.setCell ⟨tp, 65, none⟩ (.map (some w.heap.size))).setCell ⟨tp, 0, none⟩ (.int .u64 ((used ||| 2 ^ k : Nat) : Int))).setCell ⟨tp, 1 + k, none⟩ (.int .u64 t)) (.map #[] 0)
    rw [hsz, hsz, hsz] at this; exact this
  have hc1 : CntN ((((w.setCell ⟨tp, 65, none⟩ (.map (some w.heap.size))).setCell ⟨tp, 0, none⟩ (.int .u64 ((used ||| 2 ^ k : Nat) : Int))).setCell ⟨tp, 1 + k, none⟩ (.int .u64 t)).alloc (.map #[] 0)) w.heap.size (fun _ => 0) [] := ⟨[], 0, hr1, rfl, by simp, by simp, by simp, by simp⟩
  have hlk := hc1.look t
  obtain ⟨ob, hup, hcn⟩ := hc1.update t 1
  have hT : Turn [tp, w.heap.size] w ((((w.setCell ⟨tp, 65, none⟩ (.map (some w.heap.size))).setCell ⟨tp, 0, none⟩ (.int .u64 ((used ||| 2 ^ k : Nat) : Int))).setCell ⟨tp, 1 + k, none⟩ (.int .u64 t)).alloc (.map #[] 0)) :=
    ((((Turn.setCell tp 65 _ w).trans (Turn.setCell tp 0 _ _)).trans (Turn.setCell tp (1 + k) _ _)).mono fun x _ hx => by simp at hx; subst hx; simp).trans (Turn.alloc _ _ _)
  have HF : Hid (PinPost tp w.heap.size used k at' t (fun _ => 0) [] w (.returned (.tuple #[.int .i64 k, .int .i64 0])) (putB ((((w.setCell ⟨tp, 65, none⟩ (.map (some w.heap.size))).setCell ⟨tp, 0, none⟩ (.int .u64 ((used ||| 2 ^ k : Nat) : Int))).setCell ⟨tp, 1 + k, none⟩ (.int .u64 t)).alloc (.map #[] 0)) w.heap.size ob)) :=
    ⟨rfl, hT.trans ((Turn.put w.heap.size _ ob).mono fun x _ hx => by simp at hx; subst hx; simp), ⟨by rw [putB_other _ _ _ _ (Ne.symm hrt)]; exact hg1, hou, by simp [ht.hl]⟩, hrt, hcn⟩
  have hup' : (Instr.mapUpdate 25 (.map (some w.heap.size)) (.int .u64 t) (.int .i64 1)).run Try.prog ((((w.setCell ⟨tp, 65, none⟩ (.map (some w.heap.size))).setCell ⟨tp, 0, none⟩ (.int .u64 ((used ||| 2 ^ k : Nat) : Int))).setCell ⟨tp, 1 + k, none⟩ (.int .u64 t)).alloc (.map #[] 0)) = .ok () (putB ((((w.setCell ⟨tp, 65, none⟩ (.map (some w.heap.size))).setCell ⟨tp, 0, none⟩ (.int .u64 ((used ||| 2 ^ k : Nat) : Int))).setCell ⟨tp, 1 + k, none⟩ (.int .u64 t)).alloc (.map #[] 0)) w.heap.size ob) := hup
  clear ht hb hc1 hr1 hg1 hT hcn hup hft h2k hou
  generalize hpp : PinPost tp w.heap.size used k at' t (fun _ => 0) [] w = Post at *
  clear hpp
  generalize used ||| 2 ^ k = used' at *
  
  go_enter Try.func8, Try.ntmps8
  go_wp2_with (go_at_call 20; (refine (HB.out _).mono ?_); rintro e w1 ⟨rfl, rfl⟩)
  exact HF.out
end Go.Proofs.Ytmdhlpnieimdaaa
