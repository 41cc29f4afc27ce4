/- The document's Get and Over. -/
import Derived.Test.YtpnmficlebnajaaJ1
import Derived.Test.YtpnmficlebnajaaGX
namespace Go.Proofs.Ytpnmficlebnajaa
open Go.RowKit

/-- A name's text, as the document has it. -/
def tq (n : List UInt8) : ByteArray := ⟨(textQ n).toArray⟩
theorem toR_eq (x : Ent) : rentC (toR x) = [.string (tq x.n), .string x.t] := rfl
theorem tq_eq {a b : List UInt8} (ha : rightB a = true) (hb : rightB b = true) : ((tq a).toList == (tq b).toList) = (a == b) := by
  have h1 : (tq a).toList = textQ a := by rw [ByteArray.toList_eq]; rfl
  have h2 : (tq b).toList = textQ b := by rw [ByteArray.toList_eq]; rfl
  rw [h1, h2]
  by_cases h : a = b
  · subst h; simp
  · have h3 : ¬ textQ a = textQ b := fun e => h (by rw [← padQ ha, e, padQ hb])
    rw [show (a == b) = false by simpa using h]
    simpa using h3
theorem padN_any (n : List UInt8) (hn : n.length = 12) (hr : rightB n = true) (w : World) : Calls Try.prog 34 #[.string (tq n)] w fun e w' => e = .returned (.agg (bC n)) ∧ Below w.heap.size w w' := by
  have := pad_any (tq n) w (by show (textQ n).toArray.size ≤ maxLen; have := textQ_le ⟨n, hn, ⟨#[]⟩⟩; unfold maxLen; simp only [List.size_toArray] at *; omega)
  rw [show pad (tq n).data.toList = n from padQ hr] at this
  exact this
theorem eqS (s t : ByteArray) (W : World) (b : Bool) (h : (s.toList == t.toList) = b) : (binOp .eql 9 (.string s) (.string t)).run Try.prog W = .ok (.bool b) W := by
  subst h
  go_simp

set_option maxRecDepth 100000 in
set_option maxHeartbeats 4000000 in
theorem rget_any (q : Option Addr) (l : List Ent) (n cap : Nat) (nm : List UInt8) (w : World) (hn : l.length = n) (hc : n ≤ cap) (hm : cap ≤ maxLen) (hq : SlAt rentC 2 w q (l.map toR)) (hl : ∀ e ∈ l, rightB e.n = true) (hr : rightB nm = true) :
    Calls Try.prog 41 #[.slice q n cap, .string (tq nm)] w fun e w' => e = .returned (.tuple #[.string (getT l nm), .bool (getB l nm)]) ∧ w = w' := by
  unfold maxLen at hm
  have HQ := Lib.hid hq
  have HN := Lib.hid hn
  have HEq : Hid (∀ e ∈ l, ((tq e.n).toList == (tq nm).toList) = (e.n == nm)) := fun e he => tq_eq (hl e he) hr
  clear hq hn hl hr
  go_enter Try.func41, Try.ntmps41
  go_wp2_with fail
  go_loop [6] (fun i => ∃ k : Nat, k ≤ n ∧ i = .int .i64 k ∧ Hid (∀ j (h : j < l.length), j < k → (l[j].n == nm) = false)) (fun i => n - (intOf i).toNat)
  case atStart => exact ⟨0, Nat.zero_le _, rfl, fun j h hj => by omega⟩
  case round =>
    obtain ⟨k, hk, rfl, HF⟩ := hrel
    by_cases hlt : k < n
    · have hlt' : (k : Int) < n := by omega
      have hk2 : k < l.length := by rw [HN.out]; exact hlt
      have hkm : k < (l.map toR).length := by simpa using hk2
      obtain ⟨b, ob, rfl, hb, hr⟩ := HQ.out k hkm
      rw [List.getElem_map] at hr
      obtain ⟨hcn0, hct0⟩ := rentC_cells hr
      have hcn : w.cell? ⟨b, ob + k * 2, none⟩ = some (.string (tq l[k].n)) := hcn0
      have hct : w.cell? ⟨b, ob + k * 2 + 1, none⟩ = some (.string l[k].t) := hct0
      have HE := HEq.out _ (List.getElem_mem hk2)
      have HF1 : Hid ((l[k].n == nm) = true → getR l nm = some l[k].t) := fun h => getR_first hk2 HF.out h
      have HF2 : Hid ((l[k].n == nm) = false → ∀ j (h : j < l.length), j < k + 1 → (l[j].n == nm) = false) := fun h j hj hjk => by
        rcases Nat.lt_or_ge j k with h1 | h1
        · exact HF.out j hj h1
        · obtain rfl : j = k := by omega
          exact h
      clear hr hcn0 hct0 HF
      generalize l[k] = x at *
      generalize tq x.n = xn at *
      cases heq : (x.n == nm)
      · rw [heq] at HE
        have HH := Lib.hid (HF2.out heq)
        clear heq HF1 HF2
        go_wp2_with fail
        go_round
        case rel => exact ⟨k + 1, by omega, by go_num, HH.out⟩
        case measure => simp [intOf]; omega
      · rw [heq] at HE
        have HH := Lib.hid (HF1.out heq)
        clear heq HF1 HF2
        go_wp2_with fail
        refine bodyPost_ret (results_tmp2 rfl _ _ _) rfl ?_
        exact ⟨by rw [getT, getB, HH.out]; rfl, rfl⟩
    · obtain rfl : k = n := by omega
      have HH : Hid (getR l nm = none) := getR_none fun j hj => HF.out j hj (by rw [← HN.out]; exact hj)
      go_wp2_with fail
      refine bodyPost_ret (results_tmp2 rfl _ _ _) rfl ?_
      exact ⟨by rw [getT, getB, HH.out]; rfl, rfl⟩
end Go.Proofs.Ytpnmficlebnajaa
