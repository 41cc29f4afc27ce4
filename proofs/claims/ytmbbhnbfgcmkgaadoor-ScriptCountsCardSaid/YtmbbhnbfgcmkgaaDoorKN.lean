/- The chapter's example. -/
import Derived.Test.YtmbbhnbfgcmkgaaDoorR5
namespace Go.Proofs.YtmbbhnbfgcmkgaaDoor
open Go.RowKit

theorem kn_print : printF 0 [] [⟨1, 5, 0, [2, 171]⟩] = ([114, 101, 113, 117, 101, 115, 116, 32, 53, 32, 48, 50, 97, 98, 10], 0) := by decide +kernel
theorem kn_parse1 : parseL [114, 111, 117, 110, 100, 10, 112, 105, 99, 107, 32, 56, 10] = ([], 1, 5) := by decide +kernel
theorem kn_parse2 : parseL [112, 105, 99, 107, 32, 48, 55, 10] = ([], 0, 3) := by decide +kernel
set_option maxRecDepth 100000 in
set_option maxHeartbeats 4000000 in
theorem known_any (w : World) (hmx : MX w) (ht : TB w) :
    Calls Tryd.prog 16 #[] w fun e w' => e = .returned (.bool true) ∧ Below w.heap.size w w' := by
  have HMX : Hid (∀ W, Below w.heap.size w W → MX W) := fun W h => hmx.below h
  have HTB : Hid (∀ W, Below w.heap.size w W → TB W) := fun W h => ht.below h
  clear hmx ht
  have hbd : ∀ W, (Instr.build 36 #[(0, .int .i64 1), (1, .int .i64 5), (3, .slice (some ⟨w.heap.size, 0, none⟩) 2 2)]).run Tryd.prog W = .ok (.agg (a4C ⟨1, 5, 0, some ⟨w.heap.size, 0, none⟩, 2, [2, 171]⟩).toArray) W := fun W => run_build W _ _ _ rfl
  have HB1 : Hid (Below w.heap.size w ((w.alloc (.cells #[.int .u8 2, .int .u8 171] 5)).alloc (.cells (a4C ⟨1, 5, 0, some ⟨w.heap.size, 0, none⟩, 2, [2, 171]⟩).toArray 36))) := below_alloc2 _ _ _
  have HP : Hid (Calls Tryd.prog 8 #[.slice (some ⟨w.heap.size + 1, 0, none⟩) 1 1] ((w.alloc (.cells #[.int .u8 2, .int .u8 171] 5)).alloc (.cells (a4C ⟨1, 5, 0, some ⟨w.heap.size, 0, none⟩, 2, [2, 171]⟩).toArray 36)) fun e w' => e = .returned (.tuple #[.string ⟨#[114, 101, 113, 117, 101, 115, 116, 32, 53, 32, 48, 50, 97, 98, 10]⟩, .int .i64 0]) ∧ Below ((w.alloc (.cells #[.int .u8 2, .int .u8 171] 5)).alloc (.cells (a4C ⟨1, 5, 0, some ⟨w.heap.size, 0, none⟩, 2, [2, 171]⟩).toArray 36)).heap.size ((w.alloc (.cells #[.int .u8 2, .int .u8 171] 5)).alloc (.cells (a4C ⟨1, 5, 0, some ⟨w.heap.size, 0, none⟩, 2, [2, 171]⟩).toArray 36)) w') := by
    refine (print_any (some ⟨w.heap.size + 1, 0, none⟩) [⟨1, 5, 0, some ⟨w.heap.size, 0, none⟩, 2, [2, 171]⟩] 1 1 _ rfl (by omega) ⟨?_, ?_⟩ ?_ (HTB.out _ HB1.out)).mono ?_
    · intro i hi
      obtain rfl : i = 0 := by simp at hi; omega
      exact ⟨w.heap.size + 1, 0, rfl, lt_heap (heap_alloc2_new _ _ _), range_whole (heap_alloc2_new _ _ _)⟩
    · intro x hx
      simp only [List.mem_singleton] at hx
      subst hx
      exact ⟨two_at (T := 5) (x1 := 2) (x2 := 171) (heap_alloc2_old _ _ _), Nat.le_refl _, by unfold maxLen; simp, fun h => by cases h⟩
    · intro x hx
      simp only [List.mem_singleton] at hx
      subst hx
      simp
    · rintro e w' ⟨rfl, hb⟩
      exact ⟨by rw [show List.map A4.d [⟨1, 5, 0, some ⟨w.heap.size, 0, none⟩, 2, [2, 171]⟩] = [⟨1, 5, 0, [2, 171]⟩] from rfl, kn_print], hb⟩
  have K1 : Hid (∀ W, MX W → Calls Tryd.prog 17 #[.string ⟨#[114, 111, 117, 110, 100, 10, 112, 105, 99, 107, 32, 56, 10]⟩] W fun e w' => (∃ v, e = .returned (.tuple #[v, .int .i64 1, .int .i64 5])) ∧ Below W.heap.size W w') := fun W hm => by
    refine (parse_any [114, 111, 117, 110, 100, 10, 112, 105, 99, 107, 32, 56, 10] W (by simp) hm).mono ?_
    rintro e w' ⟨v, xs, rfl, hx, hp⟩
    rw [kn_parse1]
    exact ⟨⟨v, rfl⟩, hp.bel⟩
  have K2 : Hid (∀ W, MX W → Calls Tryd.prog 17 #[.string ⟨#[112, 105, 99, 107, 32, 48, 55, 10]⟩] W fun e w' => (∃ v, e = .returned (.tuple #[v, .int .i64 0, .int .i64 3])) ∧ Below W.heap.size W w') := fun W hm => by
    refine (parse_any [112, 105, 99, 107, 32, 48, 55, 10] W (by simp) hm).mono ?_
    rintro e w' ⟨v, xs, rfl, hx, hp⟩
    rw [kn_parse2]
    exact ⟨⟨v, rfl⟩, hp.bel⟩
  go_enter Tryd.func16, Tryd.ntmps16
  go_upto_region 2 with (first
    | (refine bs_A4 rfl _ rfl ⟨1, 5, 0, some ⟨w.heap.size, 0, none⟩, 2, [2, 171]⟩ rfl ?_)
    | (go_at_call 8; (refine HP.out.mono ?_); rintro e W1 ⟨rfl, hb1⟩; have HB2 := Lib.hid (HB1.out.trans (hb1.mono HB1.out.size)); clear hb1))
  clear HB1 HP hbd
  have K1' := Lib.hid (K1.out _ (HMX.out _ HB2.out))
  go_upto_region 3 with (go_at_call 17; (refine K1'.out.mono ?_); rintro e W2 ⟨⟨v1, rfl⟩, hb2⟩; have HB3 := Lib.hid (HB2.out.trans (hb2.mono HB2.out.size)); clear hb2)
  clear K1 K1' HB2
  have K2' := Lib.hid (K2.out _ (HMX.out _ HB3.out))
  go_upto_region 4 with (go_at_call 17; (refine K2'.out.mono ?_); rintro e W3 ⟨⟨v2, rfl⟩, hb3⟩; have HB4 := Lib.hid (HB3.out.trans (hb3.mono HB3.out.size)); clear hb3)
  clear K2 K2' HB3 HMX HTB
  go_wp2_with fail
  go_ret
  exact ⟨rfl, HB4.out⟩
end Go.Proofs.YtmbbhnbfgcmkgaaDoor
