/- PROVED: RequestReplyReads: the reply of any bytes, or what is wrong, is the document's; what was read has just these bytes. -/
import Derived.Test.YtbfefdedjcppaaaGreatDoorTR6
import Derived.Test.YtbfefdedjcppaaaGreatDoorOB6
import Derived.Test.YtbfefdedjcppaaaGreatDoorTX5
import Derived.Test.YtbfefdedjcppaaaGreatDoorCards
import Derived.Test.YtbfefdedjcppaaaGreatDoorTie
namespace Go.Proofs.YtbfefdedjcppaaaGreatDoor
set_option maxRecDepth 100000
open Go.ChangeShapes Go.WideShapes Go.ChangeAt Go.RowKit Go.Deep
theorem RequestReplyReads_walk (W : World) (hmx : MX W) (q : Option Addr) (l : List UInt8) (c : Nat) (o : RdOk W q l.length c l) :
   Calls Tryz.prog 5 #[.slice q l.length c] W fun e w' => e = .returned (.bool true) ∧ Below W.heap.size W w' :=
 RequestReplyReads_walkI q _ c l W o hmx
def laidOfRequestReplyReads : List (String × DataW Unit) := [("unicode/utf8.acceptRanges", Rows.laid_unicode_utf8_acceptRanges), ("unicode/utf8.first", Rows.laid_unicode_utf8_first)]
theorem RequestReplyReads_lifted (os : Os) (started : os.Started) (H : Type) (enc : TypeId × Value → H) :
   ReturnsInHanded {} Tryz.checked os 5 .any (fun w args => (Rows.requestReplyReadsSpec.pre enc Tryz.prog Tryz.f5 [] false w args ∧ laidMetH Tryz.prog laidOfRequestReplyReads w) ∧ sizedMet enc Tryz.prog Tryz.f5 (OpenSpec.ofChange Rows.requestReplyReadsSpec) false w args) (Rows.requestReplyReadsSpec.post enc Tryz.prog Tryz.f5 false true false false) := by
 refine returnsInHanded_of_change_both (C := Tryz.checked) (X := fun w _ => laidMetH Tryz.prog laidOfRequestReplyReads w) (fun _ _ _ hh h => h.of_heap hh) own started (by kernel_rfl) Tryz.func5
   (ChangeSpec.witness_shaped (enc := enc) (C := Tryz.checked) (os := os) (X := fun w _ => laidMetH Tryz.prog laidOfRequestReplyReads w) false (World.laidAll Tryz.prog os laidOfRequestReplyReads) #[.slice none 0 0] 8 (World.laidAll_os _ _ _)
     (World.shaped_of_ZipB (by kernel_rfl) (by kernel_rfl)) (by kernel_rfl) (by kernel_rfl) (by kernel_rfl)
     (by rw [MakeChecks.laidMetH_plain _ _ _ (by kernel_rfl)]; exact laidMet_laidAll _ (by kernel_rfl) (by kernel_rfl))) ?_
 intro W base args ds gs before hval0 hW _ _ hL hSh _
 have hval : ∀ (j : Nat) t v, Tryz.f5.params[j]? = some t → args[j]? = some v → Value.okWide Tryz.prog W .any base t v := hval0
 have hW' := hW
 have hmx : MX W := mx_of_shape hSh
 obtain ⟨p, q, hA0, hV, rfl, hfz, hnd⟩ := hW
 have hA : DataW.TrodAll enc Tryz.prog W 0 (fun _ => true) true Tryz.f5.params.toList args.toList ds p := hA0
 rw [Tryz.params5] at hA hval
 obtain ⟨v0, vs0, d0, ds0, p0, q0, hargs, rfl, rfl, h0, r0⟩ := trodAll_cons hA
 obtain ⟨rfl, rfl, rfl⟩ := trodAll_nil r0
 obtain rfl : args = #[v0] := by cases args; simp_all
 obtain ⟨rfl, rfl⟩ := trodVars_none hV
 have k0 := h0
 have lt0 : ∀ x ∈ p0, x.block < W.heap.size := by obtain ⟨m, hm⟩ := k0; exact DataW.trod_lt m _ _ _ hm
 obtain ⟨q_0, a0, c0, rfl, o0⟩ := open_bys (hval 0 22 v0 rfl rfl) h0
 clear hA0 hval0
 refine (RequestReplyReads_walk W hmx q_0 a0 c0 o0).mono fun e W' ⟨he, bel⟩ => ?_
 subst he
 exact ⟨_, rfl, _, _, _, [], _, [], hW', trodAll_mk1 (shut_bool Tryz.underlying4 _), (trodAll_cons_mk (Below.trod laidOut (by kernel_rfl) (of_decide_eq_true (by kernel_rfl)) k0 bel lt0) trodAll_mk0), rfl, bel.frame _, fun h => by cases h⟩
theorem RequestReplyReads_holds : Rows.RequestReplyReadsSaid :=
 OpenClaim.holds_of_wide 5 Tryz.f5 rfl rfl rfl rfl rfl rfl rfl ⟨rfl, rfl, rfl, rfl, rfl⟩ rfl rfl rfl rfl rfl (by kernel_rfl) Tryz.func5 (by kernel_rfl)
   (of_decide_eq_true (by kernel_rfl)) (by unfold Func.isWrapper; first | (rw [if_pos (by decide +kernel)]; kernel_rfl) | (rw [if_neg (by decide +kernel)]; exact ⟨rfl, rfl⟩))
   (fun os started H enc _ => RequestReplyReads_lifted os started H enc)
theorem RequestReplyReads_card_holds : Rows.RequestReplyReadsCardSaid :=
 Claim7.holds_tied_plain_at .later [] [.data, .pinned] true (true, "1c023a3aa007013105c7ec82101deace731d31b51de333fd9ba696ddd9477273") false RequestReplyReads_holds (fun _ h => by cases h) (by kernel_rfl) (fun _ h => by cases h) requestReplyReads_row_tie rfl ⟨rfl, rfl⟩ (by kernel_rfl) rfl
   (fun f fn hf hfn => by
     obtain rfl : f = 5 := Option.some.inj ((show Tryz.prog.funcNamed "vulgate/vulgatelaw26.RequestReplyReads" = some 5 by kernel_rfl).symm.trans hf) |>.symm
     obtain rfl : fn = Tryz.f5 := (Option.some.inj (Tryz.func5.symm.trans hfn)).symm
     exact ⟨by kernel_rfl, fun j t ht => by
       rw [Tryz.params5] at ht
       have hm : t ∈ [22] := by simpa using Array.mem_of_getElem? ht
       have hall : ([22].all fun u => !Tryz.prog.wantsStandIn u) = true := by kernel_rfl
       exact (show Tryz.prog.wantsStandIn t = false by simpa using List.all_eq_true.1 hall t hm)⟩)
   (by kernel_rfl)
end Go.Proofs.YtbfefdedjcppaaaGreatDoor
