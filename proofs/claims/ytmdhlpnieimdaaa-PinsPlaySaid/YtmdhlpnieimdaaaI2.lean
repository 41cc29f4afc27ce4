/- Pin at a table with room that has its map. -/
import Derived.Test.YtmdhlpnieimdaaaU
namespace Go.Proofs.Ytmdhlpnieimdaaa
open Go.RowKit

/-- A key more; a count turned. -/
def addK (K : List Nat) (t : Nat) : List Nat := if t ∈ K then K else K ++ [t]
def setF (f : Nat → Nat) (t n : Nat) : Nat → Nat := fun x => if x = t then n else f x
/-- What Pin leaves. -/
def PinPost (tp r used k : Nat) (at' : List Nat) (t : Nat) (f : Nat → Nat) (K : List Nat) (w : World) (e : Ending) (w' : World) : Prop :=
  e = .returned (.tuple #[.int .i64 k, .int .i64 0]) ∧ Turn [tp, r] w w' ∧ Tab w' tp (used ||| 2 ^ k) (at'.set k t) (setF f t (f t + 1)) (addK K t) (some r)

set_option maxRecDepth 100000 in
set_option maxHeartbeats 1000000 in
theorem pin_some (tp used k r : Nat) (at' : List Nat) (t : Nat) (f : Nat → Nat) (K : List Nat) (w : World) (ht : Tab w tp used at' f K (some r)) (hb : botOf (notW used) = k) (hk : k < 64) (hft : f t < 1000) :
    Calls Try.prog 8 #[.pointer (some ⟨tp, 0, none⟩), .int .u64 t] w (PinPost tp r used k at' t f K w) := by
  obtain ⟨ht, hrt, hc⟩ := ht
  have hkl : k < at'.length := by rw [ht.hl]; exact hk
  have h2k : 2 ^ k < 18446744073709551616 := by
    have h64 : (18446744073709551616 : Nat) = 2 ^ 64 := by decide
    rw [h64]; exact Nat.pow_lt_pow_right (by omega) hk
  have hor : bits BinOp.or IntKind.u64 (used : Int) (IntKind.u64.wrap (2 ^ k)) = ((used ||| 2 ^ k : Nat) : Int) := by
    have : IntKind.u64.wrap (2 ^ k) = ((2 ^ k : Nat) : Int) := by
      show (2 ^ k : Int) % 18446744073709551616 = _
      rw [show (2 ^ k : Int) = ((2 ^ k : Nat) : Int) by rw [Int.natCast_pow]; rfl]
      generalize 2 ^ k = z at *
      omega
    rw [this]; exact bits_or_u64_nat used (2 ^ k) ht.hu h2k
  have hou : used ||| 2 ^ k < 18446744073709551616 := by
    have h64 : (18446744073709551616 : Nat) = 2 ^ 64 := by decide
    rw [h64]; exact Nat.or_lt_two_pow (by rw [← h64]; exact ht.hu) (by rw [← h64]; exact h2k)
  have hcu := ht.cu
  have hca := ht.ca k hkl
  have hcm := ht.cm
  have hn := not_u64 used ht.hu
  have HB : Hid (∀ W, Calls Try.prog 20 #[.int .u64 (notW used)] W fun e w' => e = .returned (.int .i64 k) ∧ W = w') := fun W => by
    have := bottom_any (notW used) W (by unfold notW; omega)
    rw [hb] at this; exact this
  have hnil : ∀ W : World, (binOp .eql 25 (.map (some r)) (.map none)).run Try.prog W = .ok (.bool false) W := fun W => run_eql_map_nil W 25 _ _ (some r) Try.underlying25
  have hf : ∀ i, w.frozen? ⟨tp, i, none⟩ = false := fun i => by simp [World.frozen?, ht.hg]
  have hk0 : (k : Int) < 64 := by omega
  have hg1 : ((w.setCell ⟨tp, 0, none⟩ (.int .u64 ((used ||| 2 ^ k : Nat) : Int))).setCell ⟨tp, 1 + k, none⟩ (.int .u64 t)).heap[tp]? = some (.cells (tabC (used ||| 2 ^ k) (at'.set k t) (some r)) 27) := by
    rw [heap_setCell_self _ (heap_setCell_self _ ht.hg), tabC_setUsed, tabC_setAt k t hkl]
  have hr1 : ((w.setCell ⟨tp, 0, none⟩ (.int .u64 ((used ||| 2 ^ k : Nat) : Int))).setCell ⟨tp, 1 + k, none⟩ (.int .u64 t)).heap[r]? = w.heap[r]? := by
    rw [heap_setCell_other _ hrt, heap_setCell_other _ hrt]
  have hc1 := hc.block hr1
  have hlk := hc1.look t
  obtain ⟨ob, hup, hcn⟩ := hc1.update t (f t + 1)
  have hT : Turn [tp, r] w ((w.setCell ⟨tp, 0, none⟩ (.int .u64 ((used ||| 2 ^ k : Nat) : Int))).setCell ⟨tp, 1 + k, none⟩ (.int .u64 t)) :=
    (((Turn.setCell tp 0 _ w).trans (Turn.setCell tp (1 + k) _ _)).mono fun x _ hx => by simp at hx; subst hx; simp)
  have HF : Hid (PinPost tp r used k at' t f K w (.returned (.tuple #[.int .i64 k, .int .i64 0])) (putB ((w.setCell ⟨tp, 0, none⟩ (.int .u64 ((used ||| 2 ^ k : Nat) : Int))).setCell ⟨tp, 1 + k, none⟩ (.int .u64 t)) r ob)) :=
    ⟨rfl, hT.trans ((Turn.put r _ ob).mono fun x _ hx => by simp at hx; subst hx; simp), ⟨by rw [putB_other _ _ _ _ (Ne.symm hrt)]; exact hg1, hou, by simp [ht.hl]⟩, hrt, hcn⟩
  have hup' : (Instr.mapUpdate 25 (.map (some r)) (.int .u64 t) (.int .i64 ((f t : Int) + 1))).run Try.prog ((w.setCell ⟨tp, 0, none⟩ (.int .u64 ((used ||| 2 ^ k : Nat) : Int))).setCell ⟨tp, 1 + k, none⟩ (.int .u64 t)) = .ok () (putB ((w.setCell ⟨tp, 0, none⟩ (.int .u64 ((used ||| 2 ^ k : Nat) : Int))).setCell ⟨tp, 1 + k, none⟩ (.int .u64 t)) r ob) := hup
  have hft0 : (f t : Int) < 1000 := by omega
  clear ht hb hc hc1 hr1 hg1 hT hcn hup hft h2k hou
  generalize hpp : PinPost tp r used k at' t f K w = Post at *
  clear hpp
  generalize used ||| 2 ^ k = used' at *
  generalize f t = ft at *
  go_enter Try.func8, Try.ntmps8
  go_wp2_with (go_at_call 20; (refine (HB.out _).mono ?_); rintro e w1 ⟨rfl, rfl⟩)
  exact HF.out
end Go.Proofs.Ytmdhlpnieimdaaa
