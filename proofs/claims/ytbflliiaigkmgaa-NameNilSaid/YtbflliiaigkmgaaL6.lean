/- PROVED: for every array of twelve bytes the law NameNil returns true and leaves its argument as it was. No condition. -/
import Derived.Test.YtbflliiaigkmgaaS2
namespace Go.Proofs.Ytbflliiaigkmgaa
open Go.ChangeShapes Go.WideShapes Go.ChangeAt Go.RowKit

theorem NameNil_walk (n : List UInt8) (hn : n.length = 12) (w : World) :
    Calls Try.prog 8 #[.agg (bC n)] w fun e w' => e = .returned (.bool true) ∧ Below w.heap.size w w' := by
  have HL := Lib.hid hn
  have H1 : Hid (∀ m ∈ [n], m.length = 12) := fun m hm => by simp at hm; rw [hm]; exact hn
  clear hn
  go_enter Try.func8, Try.ntmps8
  go_wp2_with (first
    | (go_at_call 15; (with_reducible refine (known_any _).mono ?_); rintro e w1 ⟨rfl, hb1⟩; have s1 : w.heap.size + 1 ≤ w1.heap.size := by (have := hb1.size; simpa using this))
    | (with_reducible refine ld23g rfl _ rfl w.heap.size rfl n HL.out (0, 0) ?_ ?_)
    | (with_reducible refine bs45_1 rfl _ rfl n rfl HL.out ?_)
    | (go_at_call 18; (with_reducible refine (add_nil _ _).mono ?_); rintro e w' ⟨rfl, rfl⟩)
    | (go_at_call 21; (with_reducible refine (del_nil _ 1 [n] _ (names1 (heap_alloc2_new _ _ _)) rfl (by simp) H1.out (by simp)).mono ?_); rintro e w2 ⟨rfl, hb2⟩; have s2 : w1.heap.size + 2 ≤ w2.heap.size := by (have := hb2.size; simpa using this))
    | (go_at_call 19; (with_reducible refine (has_nil n _ HL.out).mono ?_); rintro e w3 ⟨rfl, hb3⟩)
    | (go_at_call 27; (with_reducible refine (list_nil _).mono ?_); rintro e w' ⟨rfl, rfl⟩)
    | (go_at_call 20; (with_reducible refine (len_nil _).mono ?_); rintro e w' ⟨rfl, rfl⟩))
  all_goals first
    | exact (by rw [hb1.block _ (by simp)]; exact heap_alloc_new _ _)
    | exact (by rw [heap_alloc_old _ _ (by omega), hb1.block _ (by simp)]; exact heap_alloc_new _ _)
    | exact (by rw [hb2.block _ (by simp; omega), heap_alloc_old _ _ (by simp; omega), heap_alloc_old _ _ (by omega), hb1.block _ (by simp)]; exact heap_alloc_new _ _)
    | skip
  go_ret
  refine ⟨rfl, ?_⟩
  have b1 : Below w.heap.size w w1 := (below_alloc1 _ _).trans (hb1.mono (by simp))
  have b2 : Below w.heap.size w w2 := ((b1.alloc b1.size _).alloc (by simp; omega) _).trans (hb2.mono (by simp; omega))
  exact b2.trans (hb3.mono (by omega))

set_option maxRecDepth 100000 in
theorem NameNil_lifted (os : Os) (started : os.Started) (H : Type) (enc : TypeId × Value → H) :
    ReturnsInHanded {} Try.checked os 8 .any (Rows.nameNilSpec.pre6 enc Try.prog Try.f8 Rows.nameNilRow.domain false) (Rows.nameNilSpec.post enc Try.prog Try.f8 false true false false) := by
  refine returnsInHanded_of_change (C := Try.checked) own started (by kernel_rfl) Try.func8
    (ChangeSpec.witness6 (enc := enc) (C := Try.checked) false ⟨#[], #[.agg #[.int .u8 0, .int .u8 0, .int .u8 0, .int .u8 0, .int .u8 0, .int .u8 0, .int .u8 0, .int .u8 0, .int .u8 0, .int .u8 0, .int .u8 0, .int .u8 0]], []⟩ 8 (by kernel_rfl) (by kernel_rfl) (by kernel_rfl) (by kernel_rfl)) ?_
  intro W base args ds gs before hval0 hW hcnd hroom
  have hval : ∀ (j : Nat) t v, Try.f8.params[j]? = some t → args[j]? = some v → Value.okWide Try.prog W .any base t v := hval0
  have hW' := hW
  obtain ⟨p, q, hA0, hV, rfl, hfz, hnd⟩ := hW
  have hA : DataW.TrodAll enc Try.prog W 0 (fun _ => true) true Try.f8.params.toList args.toList ds p := hA0
  rw [Try.params8] at hA hval
  obtain ⟨v0, vs0, d0, ds0, p0, q0, hargs, rfl, rfl, h0, r0⟩ := trodAll_cons hA
  obtain ⟨rfl, rfl, rfl⟩ := trodAll_nil r0
  obtain rfl : args = #[v0] := by cases args; simp_all
  obtain ⟨rfl, rfl⟩ := trodVars_none hV
  have k0 := h0
  have lt0 : ∀ x ∈ p0, x.block < W.heap.size := by obtain ⟨m, hm⟩ := k0; exact DataW.trod_lt m _ _ _ hm
  obtain ⟨a0, w0, rfl⟩ := open_bytes Try.underlying23 Try.underlying5 (by kernel_rfl) (by kernel_rfl) (hval 0 23 v0 rfl rfl) h0
  clear hA0 hval0
  refine (NameNil_walk a0 w0 W).mono fun e W' ⟨he, bel⟩ => ?_
  subst he
  exact ⟨_, rfl, _, _, _, [], _, [], hW', trodAll_mk1 (shut_bool Try.underlying4 _), (trodAll_cons_mk (Below.trod laidOut (by kernel_rfl) (of_decide_eq_true (by kernel_rfl)) k0 bel lt0) trodAll_mk0), rfl, bel.frame _, fun h => by cases h⟩

theorem NameNil_holds : Rows.NameNilSaid :=
  OpenClaim.holds_of_wide 8 Try.f8 rfl rfl rfl rfl rfl rfl rfl ⟨rfl, rfl, rfl, rfl, rfl⟩ rfl rfl rfl rfl rfl (by kernel_rfl) Try.func8 (by kernel_rfl)
    (of_decide_eq_true (by kernel_rfl)) (by unfold Func.isWrapper; first | (rw [if_pos (by decide +kernel)]; kernel_rfl) | (rw [if_neg (by decide +kernel)]; exact ⟨rfl, rfl⟩))
    (fun os started H enc _ => NameNil_lifted os started H enc)

end Go.Proofs.Ytbflliiaigkmgaa
