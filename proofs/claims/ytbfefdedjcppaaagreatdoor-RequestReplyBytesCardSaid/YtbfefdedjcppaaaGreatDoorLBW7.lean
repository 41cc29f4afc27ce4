/- PROVED: RequestReplyBytes: the bytes of any reply, or what is wrong, are the document's; what was told is read as it was -/
import Derived.Test.YtbfefdedjcppaaaGreatDoorOP6
import Derived.Test.YtbfefdedjcppaaaGreatDoorTW7
import Derived.Test.YtbfefdedjcppaaaGreatDoorTX5
import Derived.Test.YtbfefdedjcppaaaGreatDoorCards
import Derived.Test.YtbfefdedjcppaaaGreatDoorTie
namespace Go.Proofs.YtbfefdedjcppaaaGreatDoor
set_option maxRecDepth 100000
open Go.ChangeShapes Go.WideShapes Go.ChangeAt Go.RowKit Go.Deep
theorem RequestReplyBytes_walk (W : World) (hmx : MX W) (x : RpD) (q : Option Addr) (es : List Ev) (c : Nat) (o : OkRy W q es c) :
   Calls Tryz.prog 6 #[.agg (ryC x (.slice q es.length c)).toArray] W fun e w' => e = .returned (.bool true) ∧ Below W.heap.size W w' :=
 RequestReplyBytes_walkI x q _ c es W rfl o.1 o.2.1 o.2.2.1 o.2.2.2.2 hmx
def laidOfRequestReplyBytes : List (String × DataW Unit) := [("unicode/utf8.acceptRanges", Rows.laid_unicode_utf8_acceptRanges), ("unicode/utf8.first", Rows.laid_unicode_utf8_first)]
theorem RequestReplyBytes_lifted (os : Os) (started : os.Started) (H : Type) (enc : TypeId × Value → H) :
   ReturnsInHanded {} Tryz.checked os 6 .any (fun w args => (Rows.requestReplyBytesSpec.pre enc Tryz.prog Tryz.f6 [] false w args ∧ laidMetH Tryz.prog laidOfRequestReplyBytes w) ∧ sizedMet enc Tryz.prog Tryz.f6 (OpenSpec.ofChange Rows.requestReplyBytesSpec) false w args) (Rows.requestReplyBytesSpec.post enc Tryz.prog Tryz.f6 false true false false) := by
 refine returnsInHanded_of_change_both (C := Tryz.checked) (X := fun w _ => laidMetH Tryz.prog laidOfRequestReplyBytes w) (fun _ _ _ hh h => h.of_heap hh) own started (by kernel_rfl) Tryz.func6
   (ChangeSpec.witness_shaped (enc := enc) (C := Tryz.checked) (os := os) (X := fun w _ => laidMetH Tryz.prog laidOfRequestReplyBytes w) false (World.laidAll Tryz.prog os laidOfRequestReplyBytes) #[.agg #[.int .i64 0, .string ByteArray.empty, .int .u8 0, .int .u8 0, .int .u8 0, .int .u8 0, .int .u8 0, .int .u8 0, .int .u8 0, .int .u8 0, .int .u8 0, .int .u8 0, .int .i64 0, .int .i64 0, .slice none 0 0]] 8 (World.laidAll_os _ _ _)
     (World.shaped_of_ZipB (by kernel_rfl) (by kernel_rfl)) (by kernel_rfl) (by kernel_rfl) (by kernel_rfl)
     (by rw [MakeChecks.laidMetH_plain _ _ _ (by kernel_rfl)]; exact laidMet_laidAll _ (by kernel_rfl) (by kernel_rfl))) ?_
 intro W base args ds gs before hval0 hW _ _ hL hSh _
 have hval : ∀ (j : Nat) t v, Tryz.f6.params[j]? = some t → args[j]? = some v → Value.okWide Tryz.prog W .any base t v := hval0
 have hW' := hW
 have hmx : MX W := mx_of_shape hSh
 obtain ⟨p, q, hA0, hV, rfl, hfz, hnd⟩ := hW
 have hA : DataW.TrodAll enc Tryz.prog W 0 (fun _ => true) true Tryz.f6.params.toList args.toList ds p := hA0
 rw [Tryz.params6] at hA hval
 obtain ⟨v0, vs0, d0, ds0, p0, q0, hargs, rfl, rfl, h0, r0⟩ := trodAll_cons hA
 obtain ⟨rfl, rfl, rfl⟩ := trodAll_nil r0
 obtain rfl : args = #[v0] := by cases args; simp_all
 obtain ⟨rfl, rfl⟩ := trodVars_none hV
 have k0 := h0
 have lt0 : ∀ x ∈ p0, x.block < W.heap.size := by obtain ⟨m, hm⟩ := k0; exact DataW.trod_lt m _ _ _ hm
 obtain ⟨x0, q_0, es0, c0, rfl, o0⟩ := open_ry (hval 0 59 v0 rfl rfl) h0
 clear hA0 hval0
 refine (RequestReplyBytes_walk W hmx x0 q_0 es0 c0 o0).mono fun e W' ⟨he, bel⟩ => ?_
 subst he
 exact ⟨_, rfl, _, _, _, [], _, [], hW', trodAll_mk1 (shut_bool Tryz.underlying4 _), (trodAll_cons_mk (Below.trod laidOut (by kernel_rfl) (of_decide_eq_true (by kernel_rfl)) k0 bel lt0) trodAll_mk0), rfl, bel.frame _, fun h => by cases h⟩
theorem RequestReplyBytes_holds : Rows.RequestReplyBytesSaid :=
 OpenClaim.holds_of_wide 6 Tryz.f6 rfl rfl rfl rfl rfl rfl rfl ⟨rfl, rfl, rfl, rfl, rfl⟩ rfl rfl rfl rfl rfl (by kernel_rfl) Tryz.func6 (by kernel_rfl)
   (of_decide_eq_true (by kernel_rfl)) (by unfold Func.isWrapper; first | (rw [if_pos (by decide +kernel)]; kernel_rfl) | (rw [if_neg (by decide +kernel)]; exact ⟨rfl, rfl⟩))
   (fun os started H enc _ => RequestReplyBytes_lifted os started H enc)
theorem RequestReplyBytes_card_holds : Rows.RequestReplyBytesCardSaid :=
 Claim7.holds_tied_plain_at .later [] [.data, .pinned] true (true, "1c023a3aa007013105c7ec82101deace731d31b51de333fd9ba696ddd9477273") false RequestReplyBytes_holds (fun _ h => by cases h) (by kernel_rfl) (fun _ h => by cases h) requestReplyBytes_row_tie rfl ⟨rfl, rfl⟩ (by kernel_rfl) rfl
   (fun f fn hf hfn => by
     obtain rfl : f = 6 := Option.some.inj ((show Tryz.prog.funcNamed "vulgate/vulgatelaw26.RequestReplyBytes" = some 6 by kernel_rfl).symm.trans hf) |>.symm
     obtain rfl : fn = Tryz.f6 := (Option.some.inj (Tryz.func6.symm.trans hfn)).symm
     exact ⟨by kernel_rfl, fun j t ht => by
       rw [Tryz.params6] at ht
       have hm : t ∈ [59] := by simpa using Array.mem_of_getElem? ht
       have hall : ([59].all fun u => !Tryz.prog.wantsStandIn u) = true := by kernel_rfl
       exact (show Tryz.prog.wantsStandIn t = false by simpa using List.all_eq_true.1 hall t hm)⟩)
   (by kernel_rfl)
end Go.Proofs.YtbfefdedjcppaaaGreatDoor
