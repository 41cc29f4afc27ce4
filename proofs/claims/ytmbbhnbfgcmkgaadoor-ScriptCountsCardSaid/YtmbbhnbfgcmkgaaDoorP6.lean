/- A line's words; the closure that reads one. -/
import Derived.Test.YtmbbhnbfgcmkgaaDoorP5
namespace Go.Proofs.YtmbbhnbfgcmkgaaDoor
open Go.RowKit

/-- The library's own bound is there. -/
def MX (w : World) : Prop := ∃ m : Int, w.cell? ⟨0, 0, none⟩ = some (.int .i64 m)
theorem MX.below {w w' : World} (h : MX w) (hb : Below w.heap.size w w') : MX w' := by
  obtain ⟨m, hm⟩ := h
  exact ⟨m, (hb.cell (p := ⟨0, 0, none⟩) (World.block_lt_of_cell? _ _ hm)).trans hm⟩
def encT (l : List UInt8) : List Value := [.string ⟨l.toArray⟩]
theorem encT_len (l : List UInt8) : (encT l).length = 1 := rfl
theorem encT_one (l : List UInt8) : ∀ u ∈ encT l, u.oneCell' = true := fun u hu => by
  simp only [encT, List.mem_singleton] at hu; subst hu; rfl
theorem encT_map (ps : List ByteArray) : (ps.map Value.string) = (ps.map (·.data.toList)).flatMap encT := by
  induction ps with
  | nil => rfl
  | cons p ps ih => rw [List.map_cons, List.map_cons, List.flatMap_cons, ih]; rfl
theorem encT_flat (ws : List (List UInt8)) : ws.flatMap encT = ws.map (fun l => Value.string ⟨l.toArray⟩) := by
  induction ws with
  | nil => rfl
  | cons p ps ih => rw [List.map_cons, List.flatMap_cons, ih]; rfl
theorem encT_get (ws : List (List UInt8)) (i : Nat) (h : i < ws.length) : (ws.flatMap encT).toArray[i]? = some (.string ⟨ws[i].toArray⟩) := by
  rw [encT_flat]; simp [h]
/-- Another act of the same bytes. -/
theorem OkA.sameB {W : World} {x y : A4} (h : OkA W x) (hq : y.q = x.q) (hc : y.cap = x.cap) (hb : y.b = x.b) : OkA W y :=
  ⟨by rw [hq, hb]; exact h.row, by rw [hc, hb]; exact h.le, by rw [hc]; exact h.max, by rw [hq, hc]; exact h.nilc⟩
theorem split_any (l : List UInt8) (w : World) (hs : l.length ≤ 2000000) (hm : MX w) :
    Calls Tryd.prog 39 #[.string ⟨l.toArray⟩, .string ⟨#[32]⟩] w fun e w' => e = .returned (.slice (some ⟨w.heap.size, 0, none⟩) (spl 32 l).length (spl 32 l).length) ∧ w' = w.alloc (.cells ((spl 32 l).flatMap encT).toArray 9) := by
  obtain ⟨m, hm⟩ := hm
  have hz := ba_size l
  have hsp := splitB_spl 32 ⟨l.toArray⟩
  have hl : (Lib.splitB ⟨#[32]⟩ 0 (Lib.countB ⟨l.toArray⟩ ⟨#[32]⟩) ⟨l.toArray⟩).length = Lib.countB ⟨l.toArray⟩ ⟨#[32]⟩ + 1 := Lib.splitB_all ⟨#[32]⟩ (by decide) 0 _ _ rfl
  refine (Tryd.strings_Split ⟨l.toArray⟩ ⟨#[32]⟩ m w (by omega) hm (by decide)).mono fun e w' ⟨h1, h2⟩ => ?_
  have hsl : spl 32 (⟨l.toArray⟩ : ByteArray).data.toList = spl 32 l := rfl
  rw [hsl] at hsp
  have hlen : (spl 32 l).length = Lib.countB ⟨l.toArray⟩ ⟨#[32]⟩ + 1 := by rw [← hl, ← hsp, List.length_map]
  refine ⟨by rw [h1, hlen], by rw [h2, encT_map, hsp]⟩
/-- The kinds of letters. -/
theorem arg119 (a : D4) (p : List UInt8) : argL a 119 p = ({ a with who := (numL p 7).1 }, (numL p 7).2) := rfl
theorem arg110 (a : D4) (p : List UInt8) : argL a 110 p = ({ a with n := (numL p 300).1 }, (numL p 300).2) := rfl
theorem arg98 (a : D4) (p : List UInt8) : argL a 98 p = ({ a with b := (bytesL p).1 }, (bytesL p).2) := rfl
set_option maxRecDepth 100000 in
set_option maxHeartbeats 4000000 in
theorem read_any (x : A4) (c : UInt8) (p : List UInt8) (g m : Nat) (w : World) (hgm : g ≤ m) (hm : m < w.heap.size) (hc : c = 119 ∨ c = 110 ∨ c = 98) (hp : p.length ≤ 1000000) (hg : w.heap[g]? = some (Obj.cells (a4C x).toArray 36 (0, 0))) (hx : OkA w x) (hq : ∀ a, x.q = some a → m < a.block) :
    Calls Tryd.prog 40 #[.int .i32 (c.toNat : Int), .string ⟨p.toArray⟩, .pointer (some ⟨g, 0, none⟩)] w fun e w' => ∃ y : A4, e = .returned (.int .i64 (argL x.d c p).2) ∧ y.d = (argL x.d c p).1 ∧ w'.heap[g]? = some (Obj.cells (a4C y).toArray 36 (0, 0)) ∧ OkA w' y ∧ (∀ a, y.q = some a → m < a.block) ∧ Turn [g] w w' := by
  have HG := Lib.hid hg
  have HX := Lib.hid hx
  have HQ := Lib.hid hq
  clear hg hx hq
  rcases hc with rfl | rfl | rfl
  · have K : Hid (∀ W, Calls Tryd.prog 41 #[.string ⟨p.toArray⟩, .int .i64 7] W fun e w' => e = .returned (.tuple #[.int .i64 (numL p 7).1, .int .i64 (numL p 7).2]) ∧ w' = W) := fun W => number_any p 7 W hp
    rw [arg119]
    generalize (numL p 7).1 = v at *
    generalize (numL p 7).2 = er at *
    have hc1 : w.cell? ⟨g, 1, none⟩ = some (.int .i64 x.who) := by rw [cell_blk HG.out]; rfl
    have hf1 : w.frozen? ⟨g, 1, none⟩ = false := by simp [World.frozen?, HG.out]
    go_enter Tryd.func40, Tryd.ntmps40
    go_wp2_with (go_at_call 41; (refine (K.out _).mono ?_); rintro e w2 ⟨rfl, rfl⟩)
    go_ret
    refine ⟨{ x with who := v }, rfl, rfl, by rw [heap_setCell_self _ HG.out, a4_set1], ?_, HQ.out, Turn.setCell _ _ _ _⟩
    exact (HX.out.sameB (y := { x with who := v }) rfl rfl rfl).of_blocks (by simp [World.setCell]) (fun a ha => heap_setCell_other _ (by have := HQ.out a ha; omega))
  · have K : Hid (∀ W, Calls Tryd.prog 41 #[.string ⟨p.toArray⟩, .int .i64 300] W fun e w' => e = .returned (.tuple #[.int .i64 (numL p 300).1, .int .i64 (numL p 300).2]) ∧ w' = W) := fun W => number_any p 300 W hp
    rw [arg110]
    generalize (numL p 300).1 = v at *
    generalize (numL p 300).2 = er at *
    have hc1 : w.cell? ⟨g, 2, none⟩ = some (.int .i64 x.n) := by rw [cell_blk HG.out]; rfl
    have hf1 : w.frozen? ⟨g, 2, none⟩ = false := by simp [World.frozen?, HG.out]
    go_enter Tryd.func40, Tryd.ntmps40
    go_wp2_with (go_at_call 41; (refine (K.out _).mono ?_); rintro e w2 ⟨rfl, rfl⟩)
    go_ret
    refine ⟨{ x with n := v }, rfl, rfl, by rw [heap_setCell_self _ HG.out, a4_set2], ?_, HQ.out, Turn.setCell _ _ _ _⟩
    exact (HX.out.sameB (y := { x with n := v }) rfl rfl rfl).of_blocks (by simp [World.setCell]) (fun a ha => heap_setCell_other _ (by have := HQ.out a ha; omega))
  · have K : Hid (∀ W, Calls Tryd.prog 42 #[.string ⟨p.toArray⟩] W fun e w' => ∃ q cap, e = .returned (.tuple #[.slice q (bytesL p).1.length cap, .int .i64 (bytesL p).2]) ∧ BRes W w' q cap (bytesL p).1) := fun W => bytes_any p W hp
    rw [arg98]
    generalize (bytesL p).1 = v at *
    generalize (bytesL p).2 = er at *
    go_enter Tryd.func40, Tryd.ntmps40
    go_wp2_with (go_at_call 42; (refine (K.out _).mono ?_); rintro e w2 ⟨q, cap, rfl, hres⟩; have HR := Lib.hid hres; clear hres; have HG2 : Hid (w2.heap[g]? = some (Obj.cells (a4C x).toArray 36 (0, 0))) := (HR.out.bel.block _ (lt_heap HG.out)).trans HG.out; have hc1 : w2.cell? ⟨g, 3, none⟩ = some (.slice x.q x.b.length x.cap) := (by rw [cell_blk HG2.out]; rfl); have hf1 : w2.frozen? ⟨g, 3, none⟩ = false := (by simp [World.frozen?, HG2.out]))
    go_ret
    refine ⟨{ x with b := v, q := q, cap := cap }, rfl, rfl, by rw [heap_setCell_self _ HG2.out, a4_set3], ?_, fun a ha => Nat.lt_of_lt_of_le hm (HR.out.new a ha), (Turn.of_below HR.out.bel).trans (Turn.setCell _ _ _ _)⟩
    exact OkA.of_blocks (W := w2) (x := { x with b := v, q := q, cap := cap }) ⟨HR.out.sl, HR.out.le, HR.out.max, HR.out.nilc⟩ (by simp [World.setCell]) (fun a ha => heap_setCell_other _ (by have h1 := HR.out.new a ha; have h2 := lt_heap HG.out; omega))
end Go.Proofs.YtmbbhnbfgcmkgaaDoor
