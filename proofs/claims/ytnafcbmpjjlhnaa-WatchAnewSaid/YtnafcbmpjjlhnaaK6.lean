/- A write; the comparison that Publish sorts by. -/
import Derived.Test.YtnafcbmpjjlhnaaK5
import Derived.Test.YtnafcbmpjjlhnaaGC
namespace Go.Proofs.Ytnafcbmpjjlhnaa
open Go.RowKit

/-- A write: its key, whether it is dead, its record's cells. -/
structure Wr where
  key : List UInt8
  dead : Bool
  rest : List Value
  lkey : key.length = 25
  lrest : rest.length = 9
  one : rest.all (·.oneCell') = true
instance : Inhabited Wr := ⟨⟨List.replicate 25 0, false, List.replicate 9 (.int .u8 0), rfl, rfl, rfl⟩⟩
def wrC (x : Wr) : List Value := (bC x.key).toList ++ (.bool x.dead :: x.rest)
theorem wrC_len (x : Wr) : (wrC x).length = 35 := by simp [wrC, bC, x.lkey, x.lrest]
theorem wrC_one (x : Wr) : (wrC x).all (·.oneCell') = true := by
  have h1 := bC_one x.key
  rw [← Array.all_toList] at h1
  have h2 := x.one
  simp only [wrC, List.all_append, List.all_cons, h1, Bool.true_and, h2, Bool.and_true]
  rfl
theorem sizWr : (Try.prog.info? 58).map (·.size) = some 35 := by kernel_rfl
def ltW (x y : Wr) : Bool := decide (Lib.compareBytes x.key y.key < 0)
def cmpW (x y : Wr) : Int := if ltW x y = true then -1 else if ltW y x = true then 1 else 0
theorem wr_key {w : World} {b o : Nat} {x : Wr} (h : w.rangeAt b o (wrC x)) : w.rangeAt b o (bC x.key).toList := range_app_left h
theorem rk {W W' : World} {b o : Nat} {cs : List Value} (h : Hid (W.rangeAt b o cs)) (hz : Hid (b < W.heap.size)) (hb : Below W.heap.size W W') : Hid (W'.rangeAt b o cs) := range_of_block h.out (hb.block b hz.out)
theorem lk {W W' : World} {b : Nat} (hz : Hid (b < W.heap.size)) (hb : Below W.heap.size W W') : Hid (b < W'.heap.size) := Nat.lt_of_lt_of_le hz.out hb.size
set_option maxRecDepth 100000 in
set_option maxHeartbeats 4000000 in
theorem cmp_any (x y : Wr) (w : World) :
    Calls Try.prog 18 #[.agg (wrC x).toArray, .agg (wrC y).toArray] w fun e w' => e = .returned (.int .i64 (cmpW x y)) ∧ Below w.heap.size w w' := by
  have HB : Hid (Below w.heap.size w ((w.alloc (.cells (wrC x).toArray 58)).alloc (.cells (wrC y).toArray 58))) := below_alloc2 _ _ _
  have FA : Hid (((w.alloc (.cells (wrC x).toArray 58)).alloc (.cells (wrC y).toArray 58)).rangeAt w.heap.size 0 (bC x.key).toList) := wr_key (range_whole (heap_alloc2_old _ _ _))
  have FB : Hid (((w.alloc (.cells (wrC x).toArray 58)).alloc (.cells (wrC y).toArray 58)).rangeAt (w.heap.size + 1) 0 (bC y.key).toList) := wr_key (range_whole (heap_alloc2_new _ _ _))
  have HZ : Hid (w.heap.size + 1 < ((w.alloc (.cells (wrC x).toArray 58)).alloc (.cells (wrC y).toArray 58)).heap.size) := by show _ < _; simp
  have HZ0 : Hid (w.heap.size < ((w.alloc (.cells (wrC x).toArray 58)).alloc (.cells (wrC y).toArray 58)).heap.size) := by show _ < _; simp; omega
  have KX := Lib.hid x.lkey
  have KY := Lib.hid y.lkey
  have KL : Hid (∀ W, Calls Try.prog 19 #[.agg (bC x.key), .agg (bC y.key)] W fun e w' => e = .returned (.bool (ltW x y)) ∧ Below W.heap.size W w') := fun W => keyLess_any _ _ W KX.out KY.out
  have KM : Hid (∀ W, Calls Try.prog 19 #[.agg (bC y.key), .agg (bC x.key)] W fun e w' => e = .returned (.bool (ltW y x)) ∧ Below W.heap.size W w') := fun W => keyLess_any _ _ W KY.out KX.out
  cases h1 : ltW x y <;> rw [h1] at KL
  · cases h2 : ltW y x <;> rw [h2] at KM
    · have HR : Hid (cmpW x y = 0) := by show _ = _; simp [cmpW, h1, h2]
      clear h1 h2
      go_enter Try.func18, Try.ntmps18
      go_upto_region 1 with fail
      generalize ((w.alloc (.cells (wrC x).toArray 58)).alloc (.cells (wrC y).toArray 58)) = W1 at *
      go_wp2_with (first | ((with_reducible refine gate_ld 30 (.tmp 6) rfl ?_); refine wl_ldr rfl 30 _ rfl w.heap.size 0 (bC x.key).toList _ Try.underlying30 rfl (by rw [sizKey]; simp [bC_size, KX.out]) rfl FA.out ?_) | ((with_reducible refine gate_ld 30 (.tmp 8) rfl ?_); refine wl_ldr rfl 30 _ rfl (w.heap.size + 1) 0 (bC y.key).toList _ Try.underlying30 rfl (by rw [sizKey]; simp [bC_size, KY.out]) rfl FB.out ?_) | ((with_reducible refine gate_ld 30 (.tmp 12) rfl ?_); refine wl_ldr rfl 30 _ rfl (w.heap.size + 1) 0 (bC y.key).toList _ Try.underlying30 rfl (by rw [sizKey]; simp [bC_size, KY.out]) rfl FB.out ?_) | ((with_reducible refine gate_ld 30 (.tmp 14) rfl ?_); refine wl_ldr rfl 30 _ rfl w.heap.size 0 (bC x.key).toList _ Try.underlying30 rfl (by rw [sizKey]; simp [bC_size, KX.out]) rfl FA.out ?_) | (go_at_call 19; (with_reducible refine (KL.out _).mono ?_); rintro e W2 ⟨rfl, hb2⟩; have HB := bt HB hb2; have FA := rk FA HZ0 hb2; have FB := rk FB HZ hb2; have HZ0 := lk HZ0 hb2; have HZ := lk HZ hb2; clear hb2) | (go_at_call 19; (with_reducible refine (KM.out _).mono ?_); rintro e W2 ⟨rfl, hb2⟩; have HB := bt HB hb2; have FA := rk FA HZ0 hb2; have FB := rk FB HZ hb2; have HZ0 := lk HZ0 hb2; have HZ := lk HZ hb2; clear hb2))
      go_ret
      exact ⟨by rw [HR.out]; rfl, HB.out⟩
    · have HR : Hid (cmpW x y = 1) := by show _ = _; simp [cmpW, h1, h2]
      clear h1 h2
      go_enter Try.func18, Try.ntmps18
      go_upto_region 1 with fail
      generalize ((w.alloc (.cells (wrC x).toArray 58)).alloc (.cells (wrC y).toArray 58)) = W1 at *
      go_wp2_with (first | ((with_reducible refine gate_ld 30 (.tmp 6) rfl ?_); refine wl_ldr rfl 30 _ rfl w.heap.size 0 (bC x.key).toList _ Try.underlying30 rfl (by rw [sizKey]; simp [bC_size, KX.out]) rfl FA.out ?_) | ((with_reducible refine gate_ld 30 (.tmp 8) rfl ?_); refine wl_ldr rfl 30 _ rfl (w.heap.size + 1) 0 (bC y.key).toList _ Try.underlying30 rfl (by rw [sizKey]; simp [bC_size, KY.out]) rfl FB.out ?_) | ((with_reducible refine gate_ld 30 (.tmp 12) rfl ?_); refine wl_ldr rfl 30 _ rfl (w.heap.size + 1) 0 (bC y.key).toList _ Try.underlying30 rfl (by rw [sizKey]; simp [bC_size, KY.out]) rfl FB.out ?_) | ((with_reducible refine gate_ld 30 (.tmp 14) rfl ?_); refine wl_ldr rfl 30 _ rfl w.heap.size 0 (bC x.key).toList _ Try.underlying30 rfl (by rw [sizKey]; simp [bC_size, KX.out]) rfl FA.out ?_) | (go_at_call 19; (with_reducible refine (KL.out _).mono ?_); rintro e W2 ⟨rfl, hb2⟩; have HB := bt HB hb2; have FA := rk FA HZ0 hb2; have FB := rk FB HZ hb2; have HZ0 := lk HZ0 hb2; have HZ := lk HZ hb2; clear hb2) | (go_at_call 19; (with_reducible refine (KM.out _).mono ?_); rintro e W2 ⟨rfl, hb2⟩; have HB := bt HB hb2; have FA := rk FA HZ0 hb2; have FB := rk FB HZ hb2; have HZ0 := lk HZ0 hb2; have HZ := lk HZ hb2; clear hb2))
      go_ret
      exact ⟨by rw [HR.out]; rfl, HB.out⟩
  · have HR : Hid (cmpW x y = -1) := by show _ = _; simp [cmpW, h1]
    clear h1
    go_enter Try.func18, Try.ntmps18
    go_upto_region 1 with fail
    generalize ((w.alloc (.cells (wrC x).toArray 58)).alloc (.cells (wrC y).toArray 58)) = W1 at *
    go_wp2_with (first | ((with_reducible refine gate_ld 30 (.tmp 6) rfl ?_); refine wl_ldr rfl 30 _ rfl w.heap.size 0 (bC x.key).toList _ Try.underlying30 rfl (by rw [sizKey]; simp [bC_size, KX.out]) rfl FA.out ?_) | ((with_reducible refine gate_ld 30 (.tmp 8) rfl ?_); refine wl_ldr rfl 30 _ rfl (w.heap.size + 1) 0 (bC y.key).toList _ Try.underlying30 rfl (by rw [sizKey]; simp [bC_size, KY.out]) rfl FB.out ?_) | ((with_reducible refine gate_ld 30 (.tmp 12) rfl ?_); refine wl_ldr rfl 30 _ rfl (w.heap.size + 1) 0 (bC y.key).toList _ Try.underlying30 rfl (by rw [sizKey]; simp [bC_size, KY.out]) rfl FB.out ?_) | ((with_reducible refine gate_ld 30 (.tmp 14) rfl ?_); refine wl_ldr rfl 30 _ rfl w.heap.size 0 (bC x.key).toList _ Try.underlying30 rfl (by rw [sizKey]; simp [bC_size, KX.out]) rfl FA.out ?_) | (go_at_call 19; (with_reducible refine (KL.out _).mono ?_); rintro e W2 ⟨rfl, hb2⟩; have HB := bt HB hb2; have FA := rk FA HZ0 hb2; have FB := rk FB HZ hb2; have HZ0 := lk HZ0 hb2; have HZ := lk HZ hb2; clear hb2) | (go_at_call 19; (with_reducible refine (KM.out _).mono ?_); rintro e W2 ⟨rfl, hb2⟩; have HB := bt HB hb2; have FA := rk FA HZ0 hb2; have FB := rk FB HZ hb2; have HZ0 := lk HZ0 hb2; have HZ := lk HZ hb2; clear hb2))
    go_ret
    exact ⟨by rw [HR.out]; rfl, HB.out⟩
end Go.Proofs.Ytnafcbmpjjlhnaa
