/- Cut; ofs. -/
import Derived.Test.YtmbbhnbfgcmkgaaDoorO1
namespace Go.Proofs.YtmbbhnbfgcmkgaaDoor
open Go.RowKit

/-- Cells that lie in a row. -/
structure InRow (W : World) (b f : Nat) (cs : List Value) : Prop where
  lt : b < W.heap.size
  row : W.rangeAt b f cs
theorem kr {b f : Nat} {cs : List Value} {W W' : World} (h : Hid (InRow W b f cs)) (hb : Below W.heap.size W W') : Hid (InRow W' b f cs) := ⟨Nat.lt_of_lt_of_le h.out.1 hb.size, range_of_block h.out.2 (hb.block b h.out.1)⟩
theorem kp {k : Nat} {X : Obj} {W W' : World} (h : Hid (W.heap[k]? = some X)) (hb : Below W.heap.size W W') : Hid (W'.heap[k]? = some X) := (hb.block k (lt_heap h.out)).trans h.out
theorem bt {w W W' : World} (h : Hid (Below w.heap.size w W)) (hb : Below W.heap.size W W') : Hid (Below w.heap.size w W') := h.out.trans (hb.mono h.out.size)
theorem ks {α : Type} {enc : α → List Value} {k : Nat} {q : Option Addr} {xs : List α} {W W' : World} (h : Hid (SlAt enc k W q xs)) (hb : Below W.heap.size W W') : Hid (SlAt enc k W' q xs) := h.out.below hb
theorem ka {q : Option Addr} {xs : List A4} {W W' : World} (h : Hid (Acts W q xs)) (hb : Below W.heap.size W W') : Hid (Acts W' q xs) := h.out.below hb
theorem kx {x : A4} {W W' : World} (h : Hid (OkA W x)) (hb : Below W.heap.size W W') : Hid (OkA W' x) := h.out.below hb
theorem ko {α : Type} {enc : α → List Value} {k : Nat} {E : TypeId} {base : Nat} {v : Value} {xs : List α} {W W' : World} (h : Hid (OwnE enc E k W base v xs)) (hb : Below W.heap.size W W') : Hid (OwnE enc E k W' base v xs) := h.out.below hb
/-- An act's bytes, cut. -/
def cutA (x : A4) : A4 := { x with b := x.b.take 1310 }
def cutL (xs : List A4) : List A4 := (xs.take 210).map cutA
theorem cutA_ok {w : World} {x : A4} (h : OkA w x) : OkA w (cutA x) := ⟨h.row.take _, by have := h.le; simp only [cutA, List.length_take]; omega, h.max, h.nilc⟩
theorem cutL_len (xs : List A4) : (cutL xs).length ≤ 210 := by rw [cutL, List.length_map]; exact List.length_take_le _ _
theorem cutL_ok {w : World} {q : Option Addr} {xs : List A4} (h : Acts w q xs) : ∀ x ∈ cutL xs, OkA w x := fun x hx => by
  obtain ⟨y, hy, rfl⟩ := List.mem_map.1 hx
  exact cutA_ok (h.ok y (List.mem_of_mem_take hy))
theorem cutL_b {xs : List A4} : ∀ x ∈ cutL xs, x.b.length ≤ 1310 := fun x hx => by
  obtain ⟨y, hy, rfl⟩ := List.mem_map.1 hx
  exact List.length_take_le _ _
set_option maxRecDepth 100000 in
set_option maxHeartbeats 4000000 in
theorem cut_any (q : Option Addr) (xs : List A4) (n cap : Nat) (w : World) (hn : xs.length = n) (hc : n ≤ cap) (hm : cap ≤ maxLen) (hA : Acts w q xs) :
    Calls Tryd.prog 7 #[.slice q n cap] w fun e w' => ∃ v, e = .returned v ∧ OwnE a4C 36 4 w' w.heap.size v (cutL xs) ∧ Below w.heap.size w w' := by
  have HL := Lib.hid hn
  have HA := Lib.hid hA
  unfold maxLen at hm
  clear hn hA
  go_enter Tryd.func7, Tryd.ntmps7
  go_wp2_with fail
  go_loopw [3, 4] (fun v i wr => ∃ k : Nat, k ≤ n ∧ k ≤ 210 ∧ i = .int .i64 k ∧ Hid (OwnE a4C 36 4 wr w.heap.size v ((xs.take k).map cutA)) ∧ Hid (Below w.heap.size w wr)) (fun _ i _ => n - (intOf i).toNat)
  case atStart => exact ⟨0, Nat.zero_le _, Nat.zero_le _, rfl, OwnE.nil _ _, Below.refl _ _⟩
  case round =>
    obtain ⟨k, hk, hk2, rfl, HO, HB⟩ := hrel
    by_cases hlt : k < n
    · have hli : (k : Int) < n := by omega
      by_cases h2 : k < 210
      · have hl2 : (k : Int) < 210 := by omega
        have hkx : k < xs.length := by rw [HL.out]; exact hlt
        obtain ⟨b, f, rfl, hb, hr⟩ := (HA.out.row.below HB.out) k hkx
        have HR := Lib.hid (InRow.mk hb hr)
        have HX := Lib.hid ((HA.out.ok _ (List.getElem_mem hkx)).le)
        have HT : Hid ((xs.take (k + 1)).map cutA = (xs.take k).map cutA ++ [cutA xs[k]]) := by show _ = _; rw [List.take_succ_eq_append_getElem hkx, List.map_append]; rfl
        have hLl : ((xs.take k).map cutA).length ≤ 210 := by rw [List.length_map]; have : (xs.take k).length ≤ k := List.length_take_le _ _; omega
        have HCx : Hid (a4C (cutA xs[k]) = [.int .i64 xs[k].kind, .int .i64 xs[k].who, .int .i64 xs[k].n, .slice xs[k].q (xs[k].b.take 1310).length xs[k].cap]) := rfl
        clear hb hr HA HL
        generalize (xs.take k).map cutA = L at *
        generalize cutA xs[k] = cx at *
        generalize xs[k] = x at *
        obtain ⟨ki, wh, nn, q, cp, bs⟩ := x
        simp only at HX HCx
        have hmin : min ((bs.length : Nat) : Int) 1310 = ((bs.take 1310).length : Nat) := by rw [List.length_take]; omega
        have hsl : ∀ W, (Instr.sliceAt 34 (.slice q bs.length cp) none (some (.int .i64 (((bs.take 1310).length : Nat) : Int))) none).run Tryd.prog W = .ok (.slice q (bs.take 1310).length cp) W := run_sl_hi (k := 1) Tryd.underlying34 (by kernel_rfl) q bs.length cp (bs.take 1310).length (by have := HX.out; rw [List.length_take]; omega)
        clear HX
        generalize (bs.take 1310).length = m at *
        have HG : Hid ((wr.alloc (.cells #[.int .i64 ki, .int .i64 wh, .int .i64 nn, .slice q m cp] 36)).heap[wr.heap.size]? = some (Obj.cells #[.int .i64 ki, .int .i64 wh, .int .i64 nn, .slice q m cp] 36 (0, 0))) := heap_alloc_new _ _
        go_wp2_with (first
          | (refine wl_ix rfl 22 36 _ _ rfl Tryd.underlying22 4 sizA4 b f n cap k rfl rfl hlt ?_)
          | (refine ld_A4 rfl _ rfl b (f + k * 4) ⟨ki, wh, nn, q, cp, bs⟩ rfl HR.out.row ?_)
          | ((with_reducible refine gate_st 36 _ _ rfl ?_); refine wl_strn rfl _ _ _ rfl #[.int .i64 ki, .int .i64 wh, .int .i64 nn, .slice q bs.length cp] _ _ sizA4 rfl (by simp [Value.oneCell']) rfl rfl ?_)
          | (refine ld_A4 rfl _ rfl wr.heap.size 0 cx rfl (by rw [HCx.out]; exact range_whole HG.out) ?_)
          | (refine bs_A4 rfl _ rfl cx rfl ?_)
          | (refine app_A4 rfl _ _ rfl w.heap.size _ _ rfl (ko (ko HO (below_alloc1 wr _)) (below_alloc1 _ _)).out _ _ cx rfl (fun j uu hu => by rw [Nat.zero_add, cell_blk (heap_alloc_new _ _)]; simpa using hu) (by omega) (by have := HB.out.size; simp; omega) (fun v' wA hoA hgA => ?_); have HO2 := Lib.hid hoA; have HB2 := Lib.hid ((bt (bt HB (below_alloc1 wr _)) (below_alloc1 _ _)).out.trans (grown_below hgA (fun g hg => (HO.out.lt g hg).1) (by have := HB.out.size; simp; omega))); clear hoA hgA))
        go_roundw
        case rel => exact ⟨k + 1, by omega, by omega, by go_num, by rw [HT.out]; exact HO2.out, HB2.out⟩
        case measure => simp [intOf]; omega
      · have hl2 : ¬ (k : Int) < 210 := by omega
        have hl3 : decide ((k : Int) < 210) = false := by simpa using hl2
        obtain rfl : k = 210 := by omega
        go_wp2_with fail
        go_ret
        exact ⟨_, rfl, HO.out, HB.out⟩
    · obtain rfl : n = k := by omega
      have hE : Hid ((xs.take n).map cutA = cutL xs) := by show _ = _; rw [cutL, List.take_of_length_le (Nat.le_of_eq HL.out), List.take_of_length_le (by have := HL.out; omega)]
      go_wp2_with fail
      go_ret
      exact ⟨_, rfl, by rw [← hE.out]; exact HO.out, HB.out⟩
end Go.Proofs.YtmbbhnbfgcmkgaaDoor
