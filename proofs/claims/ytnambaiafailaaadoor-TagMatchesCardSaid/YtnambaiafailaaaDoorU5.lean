/- The document's tags: front, Text. -/
import Derived.Test.YtnambaiafailaaaDoorS5
namespace Go.Proofs.YtnambaiafailaaaDoor
open Go.RowKit

theorem front_zero {l : List UInt8} {k : Nat} (h : k < l.length) (hz : l[k] = 0) : frontZ (l.take (k + 1)) = frontZ (l.take k) := by
  rw [List.take_succ_eq_append_getElem h, hz]
  unfold frontZ Lib.trimRightB
  simp
theorem front_stop {l : List UInt8} {k : Nat} (h : k < l.length) (hz : l[k] ≠ 0) : frontZ (l.take (k + 1)) = l.take (k + 1) := by
  rw [List.take_succ_eq_append_getElem h]
  unfold frontZ Lib.trimRightB
  rw [List.reverse_append, List.reverse_singleton, List.singleton_append, List.dropWhile_cons, if_neg (by simpa using hz), List.reverse_cons, List.reverse_reverse]
theorem u8_0 {c : UInt8} : (c = 0) ↔ ((c.toNat : Int) = 0) := by
  constructor
  · rintro rfl; rfl
  · intro h
    apply UInt8.toNat_inj.1
    show c.toNat = 0
    omega
set_option maxRecDepth 100000 in
set_option maxHeartbeats 1000000 in
theorem front_any (g o n cap : Nat) (l : List UInt8) (w : World) (hl : l.length = n) (hn : n ≤ 1000000) (hcap : n ≤ cap) (h : w.rangeAt g o (bC l).toList) :
    Calls Tryd.prog 52 #[.slice (some ⟨g, o, none⟩) n cap] w fun e w' => e = .returned (.string ⟨(frontZ l).toArray⟩) ∧ w = w' := by
  have HR := Lib.hid h
  have HL := Lib.hid hl
  have HFl : Hid (frontZ (l.take n) = frontZ l) := by show _ = _; rw [← hl, List.take_length]
  have HF0 : Hid (∀ k (h : k < l.length), l[k] = 0 → frontZ (l.take (k + 1)) = frontZ (l.take k)) := fun k h hz => front_zero h hz
  have HF1 : Hid (∀ k (h : k < l.length), l[k] ≠ 0 → frontZ (l.take (k + 1)) = l.take (k + 1)) := fun k h hz => front_stop h hz
  have HCv : Hid (∀ k, k ≤ n → (convert 85 9 (.slice (some ⟨g, o, none⟩) k cap)).run Tryd.prog w = .ok (.string ⟨(l.take k).toArray⟩) w) := fun k hk => conv_any w g o k cap (l.take k) (by simp; omega) (fun j v hv => h j v (by
    have hj := (List.getElem?_eq_some_iff.1 hv).1
    rw [← hv, bC_take, List.getElem?_take_of_lt (by simp [bC] at hj; omega)]))
  clear h hl
  go_enter Tryd.func52, Tryd.ntmps52
  go_wp2_with fail
  go_loop [3] (fun i => ∃ k : Nat, k ≤ n ∧ i = .int .i64 k ∧ Hid (frontZ (l.take k) = frontZ l)) (fun i => (intOf i).toNat)
  case atStart => exact ⟨n, Nat.le_refl _, rfl, HFl.out⟩
  case round =>
    obtain ⟨k, hk, rfl, HF⟩ := hrel
    have hkc : (k : Int) ≤ cap := by omega
    have hcv := HCv.out k hk
    have hk0 : (0 : Int) ≤ (k : Int) := by omega
    rcases Nat.eq_zero_or_pos k with rfl | hp
    · have HE : Hid (frontZ l = l.take 0) := by show _ = _; rw [← HF.out]; rfl
      go_wp2_with fail
      go_ret
      exact ⟨by rw [HE.out]; rfl, rfl⟩
    · obtain ⟨m, rfl⟩ : ∃ m, k = m + 1 := ⟨k - 1, by omega⟩
      have hml : m < l.length := by rw [HL.out]; omega
      have hcell : w.cell? ⟨g, o + m, none⟩ = some (.int .u8 (l[m].toNat : Int)) := HR.out m _ (by simp [bC, hml])
      have hm0 : (0 : Int) ≤ (m : Int) := by omega
      have hm1 : (m : Int) < n := by omega
      have hm2 : (0 : Int) < ((m + 1 : Nat) : Int) := by omega
      have hm3 : (((m + 1 : Nat) : Int) - 1) = (m : Int) := by omega
      have hm4 : (0 : Int) < (m : Int) + 1 := by omega
      have hmc : (m : Int) + 1 ≤ cap := by omega
      clear hp
      by_cases hz : l[m] = 0
      · have hz' : ((l[m].toNat : Int) == 0) = true := by rw [beq_iff_eq]; exact u8_0.1 hz
        have HF2 : Hid (frontZ (l.take m) = frontZ l) := by show _ = _; rw [← HF.out, HF0.out m hml hz]
        clear hz
        go_wp2_with fail
        go_round
        case rel => exact ⟨m, by omega, by go_num, HF2.out⟩
        case measure => simp [intOf]
      · have hz' : ((l[m].toNat : Int) == 0) = false := by rw [beq_eq_false_iff_ne]; exact fun h => hz (u8_0.2 h)
        have HE : Hid (frontZ l = l.take (m + 1)) := by show _ = _; rw [← HF.out, HF1.out m hml hz]
        clear hz
        go_wp2_with fail
        go_ret
        exact ⟨by rw [HE.out]; rfl, rfl⟩

/-! Tags of the document in memory. -/
def tC (t : T3) : Array Value := #[.string ⟨t.lang.toArray⟩, .string ⟨t.script.toArray⟩, .string ⟨t.region.toArray⟩]
def text5 (t : T3) : List UInt8 := if t.lang = [] then rootL else textT t
theorem eqE5 (l : List UInt8) (W : World) : (binOp .eql 9 (.string ⟨l.toArray⟩) (.string ⟨#[]⟩)).run Tryd.prog W = .ok (.bool l.isEmpty) W := by
  have := emp5 l
  go_simp
set_option maxRecDepth 100000 in
set_option maxHeartbeats 2000000 in
theorem text_any5 (t : T3) (w : World) (h1 : t.lang.length ≤ 32) (h2 : t.script.length ≤ 32) (h3 : t.region.length ≤ 32) :
    Calls Tryd.prog 16 #[.agg (tC t)] w fun e w' => e = .returned (.string ⟨(text5 t).toArray⟩) ∧ Below w.heap.size w w' := by
  obtain ⟨L, S, R⟩ := t
  simp only at h1 h2 h3
  have HB0 : Hid (Below w.heap.size w (w.alloc (.cells (tC ⟨L, S, R⟩) 23))) := below_alloc1 _ _
  have HT : Hid (text5 ⟨L, S, R⟩ = if L = [] then rootL else L ++ dash S ++ dash R) := rfl
  have hg : (w.alloc (.cells (tC ⟨L, S, R⟩) 23)).heap[w.heap.size]? = some (.cells (tC ⟨L, S, R⟩) 23 (0, 0)) := heap_alloc_new _ _
  have c0 : (w.alloc (.cells (tC ⟨L, S, R⟩) 23)).cell? ⟨w.heap.size, 0, none⟩ = some (.string ⟨L.toArray⟩) := by rw [cell_blk hg]; rfl
  have c1 : (w.alloc (.cells (tC ⟨L, S, R⟩) 23)).cell? ⟨w.heap.size, 1, none⟩ = some (.string ⟨S.toArray⟩) := by rw [cell_blk hg]; rfl
  have c2 : (w.alloc (.cells (tC ⟨L, S, R⟩) 23)).cell? ⟨w.heap.size, 2, none⟩ = some (.string ⟨R.toArray⟩) := by rw [cell_blk hg]; rfl
  have e0 := fun W => eqE5 L W
  have n1 := fun W => neqE5 S W
  have n2 := fun W => neqE5 R W
  have m0 := emp5 L
  have m1 := emp5 S
  have m2 := emp5 R
  have k1 := fun W => catS5 L [45] (by simp; omega) W
  have k2 := fun W => catS5 (L ++ [45]) S (by simp; omega) W
  have k3 := fun W => catS5 (L ++ [45] ++ S) [45] (by simp; omega) W
  have k4 := fun W => catS5 (L ++ [45] ++ S ++ [45]) R (by simp; omega) W
  have k5 := fun W => catS5 (L ++ [45]) R (by simp; omega) W
  have z1 : ¬ 9223372036854775807 < L.length + 1 := by omega
  have z2 : ¬ 9223372036854775807 < L.length + 1 + S.length := by omega
  have z3 : ¬ 9223372036854775807 < L.length + 1 + S.length + 1 := by omega
  have z4 : ¬ 9223372036854775807 < L.length + 1 + S.length + 1 + R.length := by omega
  have z5 : ¬ 9223372036854775807 < L.length + 1 + R.length := by omega
  clear hg
  cases L with
  | nil =>
    simp only [List.isEmpty_nil] at e0 m0
    go_enter Tryd.func16, Tryd.ntmps16
    go_wp2_with fail
    go_ret
    exact ⟨rfl, HB0.out⟩
  | cons c L =>
    simp only [List.isEmpty_cons] at e0 m0
    rw [if_neg (by simp)] at HT
    have hLt : ¬ (⟨(c :: L).toArray⟩ : ByteArray).toList = [] := by rw [ByteArray.toList_eq]; simp
    have hLe : (c :: L).isEmpty = false := rfl
    generalize (c :: L) = L at *
    cases S with
    | nil =>
      simp only [List.isEmpty_nil, Bool.not_true] at n1 m1
      cases R with
      | nil =>
        simp only [List.isEmpty_nil, Bool.not_true] at n2 m2
        go_enter Tryd.func16, Tryd.ntmps16
        go_wp2_with fail
        go_ret
        exact ⟨by rw [HT.out]; simp [dash], HB0.out⟩
      | cons r R =>
        simp only [List.isEmpty_cons, Bool.not_false] at n2 m2
        go_enter Tryd.func16, Tryd.ntmps16
        go_wp2_with fail
        go_ret
        exact ⟨by rw [HT.out]; simp [dash, ba_add], HB0.out⟩
    | cons s S =>
      simp only [List.isEmpty_cons, Bool.not_false] at n1 m1
      cases R with
      | nil =>
        simp only [List.isEmpty_nil, Bool.not_true] at n2 m2
        go_enter Tryd.func16, Tryd.ntmps16
        go_wp2_with fail
        go_ret
        exact ⟨by rw [HT.out]; simp [dash, ba_add], HB0.out⟩
      | cons r R =>
        simp only [List.isEmpty_cons, Bool.not_false] at n2 m2
        go_enter Tryd.func16, Tryd.ntmps16
        go_wp2_with fail
        go_ret
        exact ⟨by rw [HT.out]; simp [dash, ba_add], HB0.out⟩
end Go.Proofs.YtnambaiafailaaaDoor
