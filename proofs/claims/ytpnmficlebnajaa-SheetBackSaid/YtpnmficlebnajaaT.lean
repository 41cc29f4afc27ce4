/- bytes.IndexByte at a row of bytes; front, Right, Text. -/
import Derived.Test.YtpnmficlebnajaaR2
namespace Go.Proofs.Ytpnmficlebnajaa
open Go.RowKit

/-- Bytes in a block, from offset o on. -/
def Row (w : World) (b o : Nat) (l : List UInt8) : Prop := ∀ i (h : i < l.length), w.cell? ⟨b, o + i, none⟩ = some (.int .u8 (l[i].toNat : Int))
theorem row_nums {w : World} {b o : Nat} {l : List UInt8} (h : Row w b o l) : ∀ i, i < l.length → w.cell? ⟨b, o + i, none⟩ = some (.int .u8 ((l.map fun x => (x.toNat : Int)).getD i 0)) := fun i hi => by
  rw [h i hi]; simp [hi]
theorem nums_bytes (l : List UInt8) : Lib.bytesOf (l.map fun x => (x.toNat : Int)) = l := by
  unfold Lib.bytesOf
  rw [List.map_map]
  conv => rhs; rw [← List.map_id l]
  apply List.map_congr_left
  intro x _
  simp
theorem row_of_block {w : World} {b : Nat} {l : List UInt8} {t : TypeId} {fr : Nat × Nat} (h : w.heap[b]? = some (.cells (bC l) t fr)) : Row w b 0 l := fun i hi => by
  rw [Nat.zero_add, cell_of_row w b i _ t fr h, bC_get l i hi]

theorem run_indexByte (w : World) (b o n c : Nat) (l : List UInt8) (hl : l.length = n) (h : Row w b o l) (cv : Int) :
    (callFunc 61 #[.slice (some ⟨b, o, none⟩) n c, .int .u8 cv]).run Try.prog w = .ok (.value (.int .i64 (Lib.indexByte l cv.toNat.toUInt8))) w := by
  rw [run_callFunc_extern Try.func61 (by kernel_rfl) (by kernel_rfl) (by kernel_rfl) (e := Extern.BytealgIndexByte.indexByte) (by kernel_rfl)]
  have := Lib.run_indexByteSlice (P := Try.prog) w b o n c (l.map fun x => (x.toNat : Int)) (by simp [hl]) (by subst hl; exact row_nums h) cv
  rw [nums_bytes] at this
  rw [this]
  rfl

set_option maxHeartbeats 400000 in
theorem indexByte_any (b n c : Nat) (l : List UInt8) (w : World) (hl : l.length = n) (h : Row w b 0 l) (r : Int) (hr : Lib.indexByte l 0 = r) :
    Calls Try.prog 55 #[.slice (some ⟨b, 0, none⟩) n c, .int .u8 0] w fun e w' => e = .returned (.int .i64 r) ∧ w = w' := by
  have hx := run_indexByte w b 0 n c l hl h 0
  rw [show (0 : Int).toNat.toUInt8 = 0 from rfl, hr] at hx
  clear hr
  go_enter Try.func55, Try.ntmps55
  go_wp2
  go_ret
  exact ⟨rfl, rfl⟩

theorem run_bytes_string (w : World) (b o n cap : Nat) (l : List UInt8) (h : Row w b o l) (hn : n ≤ l.length) :
    (convert 65 9 (.slice (some ⟨b, o, none⟩) n cap)).run Try.prog w = .ok (.string ⟨(l.take n).toArray⟩) w := by
  have := run_convert_bytes_arg (P := Try.prog) w 65 5 Try.underlying65 Try.underlying5 b o n cap ((l.take n).map fun x => (x.toNat : Int)) (by simp; omega) (fun i hi => by
    rw [h i (by omega)]
    simp [List.getElem?_take, hi, (by omega : i < l.length)]) 9 Try.underlying9
  rw [this]
  refine congrArg (fun s => Result.ok (Value.string s) w) (ByteArray.ext (Array.toList_inj.1 ?_))
  rw [strOfNums_data, List.map_map]
  show _ = l.take n
  conv => rhs; rw [← List.map_id (l.take n)]
  apply List.map_congr_left
  intro x _
  simp

/-- The bytes ahead of the first 0. -/
def front (l : List UInt8) : List UInt8 := l.takeWhile (· != 0)
theorem indexByte_front : ∀ (l : List UInt8), (Lib.indexByte l 0 = -1 ∧ front l = l) ∨ (∃ k : Nat, k < l.length ∧ Lib.indexByte l 0 = k ∧ l.take k = front l)
  | [] => .inl ⟨rfl, rfl⟩
  | b :: l => by
    by_cases hb : b = 0
    · subst hb; exact .inr ⟨0, by simp, rfl, rfl⟩
    · have e1 : front (b :: l) = b :: front l := by simp [front, hb]
      rcases indexByte_front l with ⟨h1, h2⟩ | ⟨k, h0, h1, h2⟩
      · exact .inl ⟨by simp [Lib.indexByte, hb, h1], by rw [e1, h2]⟩
      · refine .inr ⟨k + 1, by simp; omega, ?_, by rw [e1, List.take_succ_cons, h2]⟩
        have : ¬ ((k : Int) = -1) := by omega
        simp [Lib.indexByte, hb, h1, this]
theorem front_length (l : List UInt8) : (front l).length ≤ l.length := by
  unfold front; exact (List.takeWhile_sublist _).length_le

set_option maxHeartbeats 400000 in
theorem front_any (l : List UInt8) (w : World) (hl : l.length = 12) :
    Calls Try.prog 47 #[.agg (bC l)] w fun e w' => e = .returned (.string ⟨(front l).toArray⟩) ∧ Below w.heap.size w w' := by
  have hrow : Row (w.alloc (.cells (bC l) 40)) w.heap.size 0 l := row_of_block (heap_alloc_new _ _)
  rcases indexByte_front l with ⟨h1, h2⟩ | ⟨k, h0, h1, h2⟩
  · have hcv := run_bytes_string (w.alloc (.cells (bC l) 40)) w.heap.size 0 12 12 l hrow (by omega)
    rw [List.take_of_length_le (by omega)] at hcv
    have H := Lib.hid h2
    have H1 := Lib.hid h1
    have HR := Lib.hid hrow
    clear h2 h1 hrow
    go_enter Try.func47, Try.ntmps47
    go_wp2_with (go_at_call 55; refine (indexByte_any _ _ _ l _ hl HR.out _ H1.out).mono ?_; rintro e w' ⟨rfl, rfl⟩)
    go_ret
    exact ⟨by rw [H.out]; rfl, below_alloc1 _ _⟩
  · have hcv := run_bytes_string (w.alloc (.cells (bC l) 40)) w.heap.size 0 k 12 l hrow (by omega)
    have H := Lib.hid h2
    have H1 := Lib.hid h1
    have HR := Lib.hid hrow
    have hk : k ≤ 12 := by omega
    clear h2 h1 hrow h0
    go_enter Try.func47, Try.ntmps47
    go_wp2_with (go_at_call 55; refine (indexByte_any _ _ _ l _ hl HR.out _ H1.out).mono ?_; rintro e w' ⟨rfl, rfl⟩)
    go_ret
    exact ⟨by rw [H.out]; rfl, below_alloc1 _ _⟩

end Go.Proofs.Ytpnmficlebnajaa
