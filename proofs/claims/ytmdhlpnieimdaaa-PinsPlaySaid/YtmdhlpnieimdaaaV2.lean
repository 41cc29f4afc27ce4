/- Pin and Unpin over the pure table. -/
import Derived.Test.YtmdhlpnieimdaaaV
import Derived.Laws.BitsAllLaws
namespace Go.Proofs.Ytmdhlpnieimdaaa
open Go.RowKit

theorem notW_test {u : Nat} (hu : u < 18446744073709551616) {i : Nat} (hi : i < 64) : (notW u).testBit i = !u.testBit i := by
  have e2 : notW u = 2 ^ 64 - (u + 1) := by unfold notW; omega
  rw [e2, Nat.testBit_two_pow_sub_succ (by omega)]; simp [hi]
/-- Is there room, and where? -/
theorem room_or (u : Nat) (hu : u < 18446744073709551616) : (botOf (notW u) = -1 ∧ ∀ i, i < 64 → u.testBit i = true) ∨ ∃ k, k < 64 ∧ u.testBit k = false ∧ (∀ i, i < k → u.testBit i = true) ∧ botOf (notW u) = (k : Int) := by
  by_cases h : ∃ k, k < 64 ∧ u.testBit k = false
  · right
    have hd : ∃ k, k < 64 ∧ u.testBit k = false ∧ ∀ i, i < k → u.testBit i = true := by
      obtain ⟨k, h1, h2⟩ := h
      induction k using Nat.strongRecOn with
      | _ k ih =>
        by_cases h3 : ∃ i, i < k ∧ u.testBit i = false
        · obtain ⟨i, hi, h4⟩ := h3; exact ih i hi (by omega) h4
        · exact ⟨k, h1, h2, fun i hi => by
            cases hb : u.testBit i
            · exact absurd ⟨i, hi, hb⟩ h3
            · rfl⟩
    obtain ⟨k, h1, h2, h3⟩ := hd
    refine ⟨k, h1, h2, h3, botFrom_one 64 0 (by omega) (by omega) (by rw [notW_test hu h1, h2]; rfl) fun i _ hi => by rw [notW_test hu (by omega), h3 i hi]; rfl⟩
  · left
    have h3 : ∀ i, i < 64 → u.testBit i = true := fun i hi => by
      cases hb : u.testBit i
      · exact absurd ⟨i, hi, hb⟩ h
      · rfl
    exact ⟨botFrom_none 64 0 fun i _ hi => by rw [notW_test hu (by omega), h3 i (by omega)]; rfl, h3⟩

def TabP (w : World) (tp : Nat) (s : PS) (o : Option Nat) : Prop := Tab w tp s.used s.times s.f s.K o ∧ s.Ok
/-- What Pin leaves, where there is room. -/
def PinRoom (tp : Nat) (o : Option Nat) (k t : Nat) (s : PS) (w : World) (e : Ending) (w' : World) : Prop :=
  e = .returned (.tuple #[.int .i64 k, .int .i64 0]) ∧ ∃ r, (o = none → r = w.heap.size) ∧ (∀ r0, o = some r0 → r = r0) ∧ Turn [tp, r] w w' ∧ TabP w' tp (s.pin k t) (some r)
theorem pin_room (tp : Nat) (o : Option Nat) (k t : Nat) (s : PS) (w : World) (h : TabP w tp s o) (hk : k < 64) (h0 : s.used.testBit k = false) (hb : botOf (notW s.used) = k) :
    Calls Try.prog 8 #[.pointer (some ⟨tp, 0, none⟩), .int .u64 t] w (PinRoom tp o k t s w) := by
  cases o with
  | none =>
    have h1 := pin_none tp s.used k s.times t s.f s.K w h.1 hb hk
    have hf : s.f = fun _ => 0 := h.1.2.1
    have hK : s.K = [] := h.1.2.2
    refine h1.mono fun e w' hp => ⟨hp.1, w.heap.size, fun _ => rfl, (fun r0 h => nomatch h), hp.2.1, ?_, PS.pin_ok h.2 hk h0 t⟩
    have := hp.2.2
    show Tab w' tp (s.used ||| 2 ^ k) (s.times.set k t) (setF s.f t (s.f t + 1)) (addK s.K t) (some w.heap.size)
    rw [hf, hK]; rw [hf, hK] at this; exact this
  | some r =>
    have h1 := pin_some tp s.used k r s.times t s.f s.K w h.1 hb hk (by have := PS.f_le h.2 t; omega)
    exact h1.mono fun e w' hp => ⟨hp.1, r, (fun h => nomatch h), fun r0 h => (by cases h; rfl), hp.2.1, hp.2.2, PS.pin_ok h.2 hk h0 t⟩
theorem pin_nix (tp : Nat) (o : Option Nat) (t : Nat) (s : PS) (w : World) (h : TabP w tp s o) (hb : botOf (notW s.used) = -1) :
    Calls Try.prog 8 #[.pointer (some ⟨tp, 0, none⟩), .int .u64 t] w fun e w' => e = .returned (.tuple #[.int .i64 0, .int .i64 6]) ∧ w = w' :=
  pin_full tp s.used s.times o t w h.1.1 hb

/-- Without a pin. -/
def UnPost (tp r : Nat) (s : PS) (id : Int) (w w' : World) : Prop := Turn [tp, r] w w' ∧ TabP w' tp (s.un id) (some r)
theorem TabP.lt {w : World} {tp : Nat} {s : PS} {o : Option Nat} (h : TabP w tp s o) : tp < w.heap.size := h.1.lt
theorem TabP.below {w w' : World} {tp : Nat} {s : PS} {o : Option Nat} (h : TabP w tp s o) (hb : Below w.heap.size w w') : TabP w' tp s o := ⟨h.1.below hb, h.2⟩
theorem has_none {w : World} {tp : Nat} {s : PS} (h : TabP w tp s none) (id : Int) : hasL s.used id = false := by
  cases hh : hasL s.used id
  · rfl
  · obtain ⟨k, rfl, hk, h1⟩ := hasL_spec hh
    have := PS.f_pos h.2 hk h1
    rw [show s.f = fun _ => 0 from h.1.2.1] at this
    exact absurd this (by simp)


theorem un_eq {s : PS} {k : Nat} (h : hasL s.used (k : Int) = true) : s.un k = ⟨clearB s.used k, s.times.set k 0, setF s.f (s.at1 k) (s.f (s.at1 k) - 1), if s.f (s.at1 k) - 1 = 0 then s.K.erase (s.at1 k) else s.K⟩ := by
  rw [PS.un, if_pos h]; rfl
theorem andnot_u64 {used k : Nat} (hu : used < 18446744073709551616) (hk : k < 64) : bits BinOp.andNot IntKind.u64 (used : Int) (IntKind.u64.wrap (2 ^ k)) = ((clearB used k : Nat) : Int) := by
  have h2k := pow_lt64 hk
  have : IntKind.u64.wrap (2 ^ k) = ((2 ^ k : Nat) : Int) := by
    show (2 ^ k : Int) % 18446744073709551616 = _
    rw [show (2 ^ k : Int) = ((2 ^ k : Nat) : Int) by rw [Int.natCast_pow]; rfl]
    generalize 2 ^ k = z at *
    omega
  rw [this, u64_andNot_nat used (2 ^ k) hu h2k, clearB, xor_full _ h2k]; rfl
end Go.Proofs.Ytmdhlpnieimdaaa
