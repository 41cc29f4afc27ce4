/- TagBytes: the plain law. -/
import Derived.Test.YtnambaiafailaaaDoorRC5
import Derived.Test.YtnambaiafailaaaDoorBB5
import Derived.Test.YtnambaiafailaaaDoorW5
import Derived.Test.YtnambaiafailaaaDoorX5
namespace Go.Proofs.YtnambaiafailaaaDoor
open Go.RowKit

theorem of_can {t : T3} (h : canT t) : ofT (bytT t) = some t := by
  unfold ofT
  rw [fT_bytT h.ok, if_neg h.lne, parse_can h]; simp
theorem chR_cons {t : T3} (h : canT t) : chR t = t :: chR (parT t) := by
  obtain ⟨L, S, R⟩ := t
  have hl : L ≠ [] := h.lne
  unfold parT chR
  cases R with
  | cons c R => cases S <;> cases L <;> simp
  | nil => cases S <;> cases L <;> simp_all [t30]
theorem upX_root : upX ⟨tag0, rfl⟩ = [⟨tag0, rfl⟩] := by
  rw [upX_cons right_zero, if_pos rfl]
theorem up_map : ∀ n (t : T3) (x : B10), x.1 = bytT t → farT t ≤ n → canT t → (upX x).map (·.1) = (chR t).map bytT := by
  intro n
  induction n with
  | zero =>
    intro t x _ hn hc
    have := far_par hc
    omega
  | succ n ih =>
    intro t x hx hn hc
    have hr : rightT x.1 = true := by rw [hx]; exact right_can hc
    have h0 : x.1 ≠ tag0 := by rw [hx]; exact byt_ne0 hc
    have hp : (parX x).1 = bytT (parT t) := by show parB x.1 = _; rw [hx]; exact par_byt hc.ok
    rw [upX_cons hr, if_neg h0, chR_cons hc, List.map_cons, List.map_cons, hx]
    congr 1
    rcases par_can hc with h | h
    · exact ih (parT t) (parX x) hp (by have := far_par hc; omega) h
    · rw [h] at hp ⊢
      rw [bytT_zero] at hp
      have e : parX x = ⟨tag0, rfl⟩ := Subtype.ext hp
      rw [e, upX_root]
      show [tag0] = (chR t30).map bytT
      decide +kernel
structure SmT (u : T3) : Prop where
  l : u.lang.length ≤ 3
  s : u.script.length ≤ 4
  r : u.region.length ≤ 3
theorem smT_can {t : T3} (h : canT t) : SmT t := ⟨h.ok.l3, h.ok.s4, h.ok.r3⟩
theorem smT_zero : SmT t30 := ⟨by decide, by decide, by decide⟩
theorem smT_chain {t : T3} (h : SmT t) : ∀ u ∈ chR t, SmT u := by
  intro u hu
  unfold chR at hu
  simp only [List.mem_append, List.mem_singleton] at hu
  rcases hu with ((rfl | hu) | hu) | hu
  · exact h
  · split at hu
    · cases hu
    · simp only [List.mem_singleton] at hu; subst hu; exact ⟨h.l, h.s, Nat.zero_le _⟩
  · split at hu
    · cases hu
    · simp only [List.mem_singleton] at hu; subst hu; exact ⟨h.l, Nat.zero_le _, Nat.zero_le _⟩
  · split at hu
    · cases hu
    · simp only [List.mem_singleton] at hu; subst hu; exact smT_zero
structure RightT (l : List UInt8) (y : T3) : Prop where
  byt : bytT y = l
  oR : oR l = y
  oB : oB l = true
  text : textB l = text5 y
  sm : SmT y
  ofR : ofR l = l
  ofE : ofE l = 0
theorem right_oR {l : List UInt8} (hr : rightT l = true) : ∃ y, RightT l y := by
  rcases right_cases hr with rfl | ⟨t, hc, rfl⟩
  · exact ⟨t30, by decide +kernel, by decide +kernel, by decide +kernel, by decide +kernel, smT_zero, by decide +kernel, by decide +kernel⟩
  · refine ⟨t, rfl, by rw [oR, of_can hc]; rfl, by rw [oB, of_can hc]; rfl, ?_, smT_can hc, by rw [ofR, if_pos hr], by rw [ofE, if_pos hr]⟩
    rw [textB, if_pos hr, plain_can hc, text5, if_neg hc.lne]
/-- Root stands alone. -/
theorem right_root {y : T3} (h : RightT tag0 y) : y = t30 ∧ chR y = [t30] := by
  have e : y = t30 := by
    have := h.oR
    rw [← this]; decide +kernel
  subst e
  exact ⟨rfl, by decide +kernel⟩
theorem right_up {l : List UInt8} (hl : l.length = 10) (hr : rightT l = true) {y : T3} (h : RightT l y) : (upX ⟨l, hl⟩).map (·.1) = (chR y).map bytT := by
  rcases right_cases hr with rfl | ⟨t, hc, rfl⟩
  · obtain ⟨rfl, e⟩ := right_root h
    rw [e]
    have : (upX ⟨tag0, hl⟩) = [⟨tag0, rfl⟩] := upX_root
    rw [this]
    decide +kernel
  · have e : y = t := by rw [← h.oR, oR, of_can hc]; rfl
    subst e
    exact up_map _ y _ rfl (Nat.le_refl _) hc
/-- Behind a tag that is not root stands its parent. -/
theorem right_par2 {l : List UInt8} (hr : rightT l = true) (h0 : l ≠ tag0) {y : T3} (h : RightT l y) : ∃ u r, chR y = y :: u :: r ∧ parR l = bytT u ∧ parOk l = true := by
  rcases right_cases hr with rfl | ⟨t, hc, rfl⟩
  · exact absurd rfl h0
  · have e : y = t := by rw [← h.oR, oR, of_can hc]; rfl
    subst e
    have hok : parOk (bytT y) = true := by unfold parOk; rw [hr]; simpa using h0
    have hpar : parR (bytT y) = bytT (parT y) := by rw [parR, if_pos hok, par_byt hc.ok]
    have h1 := chR_cons hc
    rcases par_can hc with h | h
    · have h2 := chR_cons h
      exact ⟨parT y, chR (parT (parT y)), by rw [h1, h2], hpar, hok⟩
    · refine ⟨t30, [], ?_, by rw [hpar, h]; rfl, hok⟩
      rw [h1, h]; rfl
structure WrongT (l : List UInt8) : Prop where
  oB : oB l = false
  oR : oR l = t30
  text : textB l = []
  ok : parOk l = false
  par : parR l = tag0
  ofR : ofR l = tag0
  ofE : ofE l = 14
theorem wrong_all {l : List UInt8} (hl : l.length = 10) (hr : rightT l = false) : WrongT l := by
  have h := right_of hl
  rw [hr] at h
  have hn : ofT l = none := by
    cases ho : ofT l with
    | none => rfl
    | some x => rw [ho] at h; cases h
  have hok : parOk l = false := by unfold parOk; rw [hr]; rfl
  exact ⟨by rw [Proofs.YtnambaiafailaaaDoor.oB, hn]; rfl, by rw [Proofs.YtnambaiafailaaaDoor.oR, hn]; rfl, by rw [textB, hr]; rfl, hok, by rw [parR, hok]; rfl, by rw [Proofs.YtnambaiafailaaaDoor.ofR, hr]; rfl, by rw [Proofs.YtnambaiafailaaaDoor.ofE, hr]; rfl⟩
theorem wrong_up {l : List UInt8} (hl : l.length = 10) (hr : rightT l = false) : upX ⟨l, hl⟩ = [] := by
  unfold upX; rw [hr]; rfl
theorem root_par : parR tag0 = tag0 ∧ parOk tag0 = false := by decide +kernel
end Go.Proofs.YtnambaiafailaaaDoor
