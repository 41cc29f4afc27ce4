/- string(b), bytes.Equal, bytes.HasPrefix. -/
import Derived.Test.YtagdedjclbmlkaaC12
import Derived.Lib.Bytes
namespace Go.Proofs.Ytagdedjclbmlkaa
open Go.RowKit

def enc1 (b : UInt8) : List Value := [.int .u8 (b.toNat : Int)]
theorem enc1_len (b : UInt8) : (enc1 b).length = 1 := rfl
theorem enc1_one (b : UInt8) : ∀ u ∈ enc1 b, u.oneCell' = true := fun u hu => by simp [enc1] at hu; subst hu; rfl
theorem enc1_flat (l : List UInt8) : l.flatMap enc1 = (bC l).toList := by
  unfold bC
  induction l with
  | nil => rfl
  | cons a l ih => simp only [List.flatMap_cons, ih, enc1]; simp
theorem slat_bytes {w : World} {b o : Nat} {l : List UInt8} (hb : b < w.heap.size) (h : w.rangeAt b o (bC l).toList) : SlAt enc1 1 w (some ⟨b, o, none⟩) l := fun i hi => by
  refine ⟨b, o, rfl, hb, ?_⟩
  rw [← enc1_flat] at h
  exact range_nth enc1_len h i hi
/-- string(b). -/
theorem conv_any (w : World) (q : Option Addr) (n cap : Nat) (l : List UInt8) (hn : l.length = n) (h : SlAt enc1 1 w q l) :
    (convert 109 9 (.slice q n cap)).run Try.prog w = .ok (.string ⟨l.toArray⟩) w := by
  subst hn
  cases l with
  | nil =>
    rw [run_convert_bytes_string w 109 9 5 q _ cap Try.underlying109 Try.underlying5 Try.underlying9]
    cases q with
    | none => simp [Conv.bytesToString]; rfl
    | some a => simp [Conv.bytesToString, loadCells]; rfl
  | cons c l =>
    obtain ⟨b, o, rfl, _⟩ := h 0 (by simp)
    have hb : ∀ i (hi : i < (c :: l).length), w.cell? ⟨b, o + i, none⟩ = some (.int .u8 (((c :: l)[i]).toNat : Int)) := fun i hi => by
      obtain ⟨b', o', e, _, hr⟩ := h i hi
      simp only [Option.some.injEq, Addr.mk.injEq, and_true] at e
      obtain ⟨rfl, rfl⟩ := e
      have := hr 0 _ (show (enc1 ((c :: l)[i]))[0]? = some _ from rfl)
      simpa using this
    have := run_convert_bytes_arg (P := Try.prog) w 109 5 Try.underlying109 Try.underlying5 b o (c :: l).length cap ((c :: l).map fun x => (x.toNat : Int)) (by simp) (fun i hi => by
      rw [hb i hi, List.getD_eq_getElem?_getD, List.getElem?_map, List.getElem?_eq_getElem hi]; rfl) 9 Try.underlying9
    rw [this]
    refine congrArg (fun s => Result.ok (Value.string s) w) (ByteArray.ext (Array.toList_inj.1 ?_))
    rw [strOfNums_data, List.map_map]
    show _ = c :: l
    conv => rhs; rw [← List.map_id (c :: l)]
    apply List.map_congr_left
    intro x _
    simp
theorem equalB_any (q1 : Option Addr) (n1 c1 : Nat) (q2 : Option Addr) (n2 c2 : Nat) (xs ys : List UInt8) (w : World) (h1 : xs.length = n1) (h2 : ys.length = n2) (hq1 : SlAt enc1 1 w q1 xs) (hq2 : SlAt enc1 1 w q2 ys) :
    Calls Try.prog 67 #[.slice q1 n1 c1, .slice q2 n2 c2] w fun e w' => e = .returned (.bool (xs == ys)) ∧ w' = w := by
  have g1 := conv_any w q1 n1 c1 xs h1 hq1
  have g2 := conv_any w q2 n2 c2 ys h2 hq2
  have e : (xs == ys) = (xs.toArray.toList == ys.toArray.toList) := rfl
  rw [e]
  clear hq1 hq2 h1 h2 e
  go_enter Try.func67, Try.ntmps67
  go_wp2
  go_ret
  exact ⟨rfl, rfl⟩
set_option maxRecDepth 100000 in
theorem hasPrefix_any (b1 o1 n1 c1 : Nat) (q2 : Option Addr) (n2 c2 : Nat) (xs ys : List UInt8) (w : World) (h1 : xs.length = n1) (hc : n1 ≤ c1) (h2 : ys.length = n2) (hb : b1 < w.heap.size) (hq1 : w.rangeAt b1 o1 (bC xs).toList) (hq2 : SlAt enc1 1 w q2 ys) :
    Calls Try.prog 58 #[.slice (some ⟨b1, o1, none⟩) n1 c1, .slice q2 n2 c2] w fun e w' => e = .returned (.bool (pre ys xs)) ∧ w' = w := by
  have HP : Hid (pre ys xs = (decide (n2 ≤ n1) && (xs.take n2 == ys))) := by
    show _ = _
    unfold pre
    rw [h2]
    by_cases c : n2 ≤ n1
    · simp [c]
    · have : (xs.take n2 == ys) = false := by
        have : xs.take n2 ≠ ys := fun e => by
          have := congrArg List.length e
          rw [List.length_take] at this
          omega
        simpa using this
      rw [this]; simp
  have KE : Hid (n2 ≤ n1 → Calls Try.prog 67 #[.slice (some ⟨b1, o1, none⟩) n2 c1, .slice q2 n2 c2] w fun e w' => e = .returned (.bool (xs.take n2 == ys)) ∧ w' = w) := fun h => equalB_any _ _ _ _ _ _ _ _ w (by rw [List.length_take]; omega) h2 ((slat_bytes hb hq1).take n2) hq2
  generalize pre ys xs = z at *
  generalize (xs.take n2 == ys) = y at *
  clear hq1 hq2 h1 h2 hb
  by_cases c : n2 ≤ n1
  · have ci : (n2 : Int) ≤ n1 := by omega
    have hz : Hid (z = y) := by show _ = _; rw [HP.out]; simp [c]
    have hsl : ∀ W, (Instr.sliceAt 109 (.slice (some ⟨b1, o1, none⟩) n1 c1) none (some (.int .i64 (n2 : Nat))) none).run Try.prog W = .ok (.slice (some ⟨b1, o1, none⟩) n2 c1) W := run_sl_hi (k := 1) Try.underlying109 (by kernel_rfl) _ n1 c1 n2 (by omega)
    have KE2 := Lib.hid (KE.out c)
    clear HP KE
    go_enter Try.func58, Try.ntmps58
    go_wp2_with (go_at_call 67; (refine KE2.out.mono ?_); rintro e W2 ⟨rfl, rfl⟩)
    go_ret
    exact ⟨by rw [hz.out]; rfl, rfl⟩
  · have ci : ¬ (n2 : Int) ≤ n1 := by omega
    have hz : Hid (z = false) := by show _ = _; rw [HP.out]; simp [c]
    clear HP KE
    go_enter Try.func58, Try.ntmps58
    go_wp2_with fail
    go_ret
    exact ⟨by rw [hz.out]; rfl, rfl⟩
end Go.Proofs.Ytagdedjclbmlkaa
