/- Get. -/
import Derived.Test.YtpnmficlebnajaaF11
namespace Go.Proofs.Ytpnmficlebnajaa
open Go.RowKit

def getT (x : List Ent) (n : List UInt8) : ByteArray := (getR x n).getD ⟨#[]⟩
def getB (x : List Ent) (n : List UInt8) : Bool := (getR x n).isSome
theorem getR_first {l : List Ent} {nm : List UInt8} : ∀ {k : Nat} (h : k < l.length), (∀ j (h : j < l.length), j < k → (l[j].n == nm) = false) → (l[k].n == nm) = true → getR l nm = some l[k].t := by
  induction l with
  | nil => intro k h; simp at h
  | cons x l ih =>
    intro k h h1 h2
    cases k with
    | zero =>
      simp only [List.getElem_cons_zero] at h2
      simp [getR, h2]
    | succ k =>
      have h3 : (x.n == nm) = false := h1 0 (by simp) (by omega)
      have := ih (k := k) (by simpa using h) (fun j hj hk => by have h5 := h1 (j + 1) (by simp; omega) (by omega); rw [List.getElem_cons_succ] at h5; exact h5) (by rw [List.getElem_cons_succ] at h2; exact h2)
      rw [getR] at this ⊢
      rw [List.find?_cons, h3]
      simpa using this
theorem getR_none {l : List Ent} {nm : List UInt8} (h : ∀ j (h : j < l.length), (l[j].n == nm) = false) : getR l nm = none := by
  have : l.find? (fun y => y.n == nm) = none := by
    rw [List.find?_eq_none]
    intro y hy
    obtain ⟨j, hj, rfl⟩ := List.mem_iff_getElem.1 hy
    rw [h j hj]; simp
  rw [getR, this]; rfl

set_option maxRecDepth 100000 in
set_option maxHeartbeats 2000000 in
theorem get_any (q : Option Addr) (l : List Ent) (n cap : Nat) (nm : List UInt8) (w : World) (hn : l.length = n) (hc : n ≤ cap) (hm : cap ≤ maxLen) (hq : SlAt entC 13 w q l) (h12 : nm.length = 12) :
    Calls Try.prog 17 #[.slice q n cap, .agg (bC nm)] w fun e w' => e = .returned (.tuple #[.string (getT l nm), .bool (getB l nm)]) ∧ Below w.heap.size w w' := by
  unfold maxLen at hm
  have HQ := Lib.hid hq
  have HN := Lib.hid hn
  have H12 := Lib.hid h12
  have HBX0 : Hid ((w.alloc (.cells (bC nm) 40)).heap[w.heap.size]? = some (.cells (bC nm) 40)) := heap_alloc_new _ _
  have HW0 : Hid (Below w.heap.size w (w.alloc (.cells (bC nm) 40))) := below_alloc1 _ _
  clear hq hn h12
  go_enter Try.func17, Try.ntmps17
  go_wp2_with fail
  generalize w.alloc (.cells (bC nm) 40) = W0 at *
  go_loopw [10] (fun i wr => ∃ k : Nat, k ≤ n ∧ i = .int .i64 k ∧ Hid (∀ j (h : j < l.length), j < k → (l[j].n == nm) = false) ∧ Hid (Below w.heap.size w wr) ∧ Hid (wr.heap[w.heap.size]? = some (.cells (bC nm) 40))) (fun i _ => n - (intOf i).toNat)
  case atStart => exact ⟨0, Nat.zero_le _, rfl, fun j h hj => by omega, HW0.out, HBX0.out⟩
  case round =>
    obtain ⟨k, hk, rfl, HF, HW, HBX⟩ := hrel
    by_cases hlt : k < n
    · have hlt' : (k : Int) < n := by omega
      have hk0 : (0 : Int) ≤ (k : Int) := by omega
      have hk2 : k < l.length := by rw [HN.out]; exact hlt
      obtain ⟨b, ob, rfl, hb, hr⟩ := HQ.out k hk2
      have HR : Hid (wr.rangeAt b (ob + k * 13) (entC l[k])) := range_of_block hr (HW.out.block b hb)
      have HF1 : Hid ((l[k].n == nm) = true → getR l nm = some l[k].t) := fun h => getR_first hk2 HF.out h
      have HF2 : Hid ((l[k].n == nm) = false → ∀ j (h : j < l.length), j < k + 1 → (l[j].n == nm) = false) := fun h j hj hjk => by
        rcases Nat.lt_or_ge j k with h1 | h1
        · exact HF.out j hj h1
        · obtain rfl : j = k := by omega
          exact h
      clear hr HF
      generalize l[k] = x at *
      have HX12 : Hid (x.n.length = 12) := x.hn
      have HW1 : Hid (Below w.heap.size w (wr.alloc (.cells (entC x).toArray 44))) := HW.out.alloc HW.out.size _
      have HBX1 : Hid ((wr.alloc (.cells (entC x).toArray 44)).heap[w.heap.size]? = some (.cells (bC nm) 40)) := by
        show _ = _
        rw [heap_alloc_old _ _ (lt_heap HBX.out)]; exact HBX.out
      have HN1 : Hid ((wr.alloc (.cells (entC x).toArray 44)).rangeAt w.heap.size 0 (bC nm).toList) := range_whole (by rw [HBX1.out, toArr])
      have hr1 : (wr.alloc (.cells (entC x).toArray 44)).rangeAt wr.heap.size 0 (entC x) := range_whole (heap_alloc_new _ _)
      have HX1 := Lib.hid (ent_name hr1)
      have hxt : (wr.alloc (.cells (entC x).toArray 44)).cell? ⟨wr.heap.size, 12, none⟩ = some (.string x.t) := by have := ent_text hr1; simpa using this
      have he23 : ∀ W : World, (binOp .eql 40 (.agg (bC x.n)) (.agg (bC nm))).run Try.prog W = .ok (.bool (x.n == nm)) W := fun W => eql23 W x.n nm HX12.out H12.out
      clear hr1
      go_upto_region 4 with (first
        | (with_reducible refine ld_E rfl _ rfl b (ob + k * 13) x rfl HR.out ?_)
        | (refine wl_strn rfl 44 _ _ rfl (entC x).toArray _ _ (sizE'' x) (entC_sz x) (entC_all x) rfl rfl ?_))
      generalize wr.alloc (.cells (entC x).toArray 44) = W1 at *
      generalize wr.heap.size = g at *
      cases heq : (x.n == nm)
      · rw [heq] at he23
        have HH := Lib.hid (HF2.out heq)
        clear heq HF1 HF2
        go_wp2_with (first
          | (with_reducible refine ld_N rfl _ rfl g 0 x.n HX12.out rfl HX1.out ?_)
          | (with_reducible refine ld_N rfl _ rfl w.heap.size 0 nm H12.out rfl HN1.out ?_))
        go_roundw
        case rel => exact ⟨k + 1, by omega, by go_num, HH.out, HW1.out, HBX1.out⟩
        case measure => simp [intOf]; omega
      · rw [heq] at he23
        have HH := Lib.hid (HF1.out heq)
        clear heq HF1 HF2
        go_wp2_with (first
          | (with_reducible refine ld_N rfl _ rfl g 0 x.n HX12.out rfl HX1.out ?_)
          | (with_reducible refine ld_N rfl _ rfl w.heap.size 0 nm H12.out rfl HN1.out ?_))
        refine bodyPost_ret (results_tmp2 rfl _ _ _) rfl ?_
        exact ⟨by rw [getT, getB, HH.out]; rfl, HW1.out⟩
    · obtain rfl : k = n := by omega
      have HH : Hid (getR l nm = none) := getR_none fun j hj => HF.out j hj (by rw [← HN.out]; exact hj)
      go_wp2_with fail
      refine bodyPost_ret (results_tmp2 rfl _ _ _) rfl ?_
      exact ⟨by rw [getT, getB, HH.out]; rfl, HW.out⟩
end Go.Proofs.Ytpnmficlebnajaa
