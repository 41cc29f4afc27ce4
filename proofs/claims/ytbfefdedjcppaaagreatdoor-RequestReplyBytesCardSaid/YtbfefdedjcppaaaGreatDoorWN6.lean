/- wire.Writer: Number. -/
import Derived.Test.YtbfefdedjcppaaaGreatDoorRC
namespace Go.Proofs.YtbfefdedjcppaaaGreatDoor
set_option maxRecDepth 100000
set_option maxHeartbeats 4000000
open Go.RowKit
theorem small_len64 {n : Nat} (h : n < 2 ^ 64) : (small n).length ≤ 10 := small_len 9 n (Nat.lt_of_lt_of_le h (by decide))
theorem numF_any (bx n : Nat) (w : World) (h : BoxIs w bx (.int .u64 (n : Int)) 60) (hn : n < 2 ^ 64) : Calls Tryz.prog 111 #[.pointer (some ⟨bx, 0, none⟩)] w fun e w' => ∃ v, e = .returned v ∧ OwnE byteC 5 1 w' w.heap.size v (small n) ∧ Below w.heap.size w w' := by
 have hc := (cell1 h).1
 have KS : Hid (∀ W : World, ∀ b, W.heap[b]? = some (.cells #[.int .u64 (n : Int)] 60 (0, 0)) → Calls Tryz.prog 110 #[.slice (some ⟨b, 0, none⟩) 1 1] W fun e w' => ∃ v, e = .returned v ∧ OwnE byteC 5 1 w' W.heap.size v (small n) ∧ Below W.heap.size W w') := fun W b hb => small_any b 0 1 n W (cell1 hb).1 hn (by have := small_len64 hn; omega)
 clear h hn
 go_enter Tryz.func111, Tryz.ntmps111
 go_wp2_with (go_at_call 110; (refine (KS.out _ _ (heap_alloc_new w _)).mono ?_); rintro e w3 ⟨v, rfl, ho, hb⟩; have HO := Lib.hid ho; have HB := Lib.hid hb; clear ho hb)
 go_ret
 have h1 := below_alloc1 w (.cells #[.int .u64 (n : Int)] 60)
 exact ⟨v, rfl, HO.out.base h1.size, h1.trans (HB.out.mono h1.size)⟩
theorem wnumber_any (bw room : Nat) (v : Value) (l : List UInt8) (er n : Nat) (w : World) (h : WrAt w bw v l er room) (hl : l.length ≤ room) (hr : room ≤ 1000000) (hn : n < 2 ^ 64) :
   Calls Tryz.prog 60 #[.pointer (some ⟨bw, 0, none⟩), .int .u64 (n : Int)] w (Wrote bw v (wStep room (l, er) (small n)).1 (wStep room (l, er) (small n)).2 room w) := by
 have hb := below_alloc1 w (.cells #[.int .u64 (n : Int)] 60)
 have hX : BoxIs (w.alloc (.cells #[.int .u64 (n : Int)] 60)) w.heap.size (.int .u64 (n : Int)) 60 := heap_alloc_new _ _
 have KF : Hid (Calls Tryz.prog 87 #[.pointer (some ⟨bw, 0, none⟩), .func (.func 111) #[] #[.pointer (some ⟨w.heap.size, 0, none⟩)]] (w.alloc (.cells #[.int .u64 (n : Int)] 60)) (Wrote bw v (wStep room (l, er) (small n)).1 (wStep room (l, er) (small n)).2 room (w.alloc (.cells #[.int .u64 (n : Int)] 60)))) :=
   field_any 111 #[.pointer (some ⟨w.heap.size, 0, none⟩)] (enters_of Tryz.func111 (by kernel_rfl) rfl) bw er room v l (small n) _ (h.below hb) hl hr (by have := small_len64 hn; omega) (fun _ => numF_any w.heap.size n _ hX hn)
 have HB := Lib.hid hb
 clear h hb hX hl hn
 go_enter Tryz.func60, Tryz.ntmps60
 go_wp2_with (go_at_call 87; (refine KF.out.mono ?_); rintro e w3 ⟨rfl, v3, hw3, ht3⟩; have HW3 := Lib.hid hw3; have HT3 := Lib.hid ht3; clear hw3 ht3)
 go_ret
 exact ⟨rfl, v3, HW3.out, (WTurn.of_below HB.out).trans HT3.out⟩
end Go.Proofs.YtbfefdedjcppaaaGreatDoor
