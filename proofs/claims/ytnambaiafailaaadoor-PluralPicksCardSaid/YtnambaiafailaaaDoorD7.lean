/- ruleOf. -/
import Derived.Test.YtnambaiafailaaaDoorC7
import Derived.Deep.DeepCutAuto
import Derived.Laws.EntriesVeiled
namespace Go.Proofs.YtnambaiafailaaaDoor
open Go.RowKit

/-- The language of a tag. -/
def langB (b : List UInt8) : List UInt8 := if rightT b then (fT b).lang else []
def setI (g : Nat) : Int := match g with
  | 1 => 32
  | 2 => 34
  | 3 => 58
  | 4 => 58
  | 5 => 42
  | 6 => 63
  | 7 => 42
  | _ => 34
def zRule : Array Value := #[Value.nilFunc, .int .u8 0]
theorem sizRule : (Tryd.prog.info? 98).map (·.size) = some 2 := by kernel_rfl
theorem rule_one (f : Fn) (a c : Array Value) (k : Int) : (#[Value.func f a c, Value.int .u8 k] : Array Value).all (·.oneCell') = true := by simp [Value.oneCell']
/-- The world behind the language. -/
structure LSt (w : World) (wx : World) : Prop where
  bel : Below w.heap.size w wx
  r : wx.heap[w.heap.size + 1]? = some (.cells zRule 98 (0, 0))
theorem LSt.below {w wx w' : World} (h : LSt w wx) (hb : Below wx.heap.size wx w') : LSt w w' := ⟨h.bel.trans (hb.mono h.bel.size), by rw [hb.block _ (lt_heap h.r)]; exact h.r⟩
theorem keepC {W : World} {o : Obj} {g b i : Nat} {cs : Array Value} {v : Value} (h : W.cell? ⟨b, i, none⟩ = some v) (hg : b ≠ g) : ((W.alloc o).setRow g cs).cell? ⟨b, i, none⟩ = some v := by
  have hb : b < W.heap.size := World.block_lt_of_cell? _ _ h
  have he : ((W.alloc o).setRow g cs).heap[b]? = W.heap[b]? := by rw [setRow_other _ _ _ _ hg, heap_alloc_old _ _ hb]
  exact (cell_of he i).trans h
theorem eqlS2 (x : ByteArray) (l : List UInt8) (c : Bool) (h : decide (x.data.toList = l) = c) : (∀ W, (binOp .eql 9 (.string x) (.string ⟨l.toArray⟩)).run Tryd.prog W = .ok (.bool c) W) ∧ (x.toList == l) = c := by
  refine ⟨fun W => by rw [eqlS]; rw [← h], ?_⟩
  rw [ByteArray.toList_eq, ← h, Bool.eq_iff_iff, decide_eq_true_eq]; simp
def RulePost (g : Nat) (w : World) (e : Ending) (w' : World) : Prop := Below w.heap.size w w' ∧ ∃ v, e = .returned (.agg #[v, .int .u8 (setI g)]) ∧ Tells g w' v
def langsL : List (List UInt8) := [[106, 97], [107, 111], [122, 104], [118, 105], [116, 104], [105, 100], [102, 114], [112, 116], [114, 117], [117, 107], [115, 114], [112, 108], [99, 115], [115, 107], [97, 114], [108, 116]]
set_option maxRecDepth 100000 in
set_option maxHeartbeats 2000000 in
theorem rule_ja (b lg : List UInt8) (w : World) (hb : b.length = 10) (hmx : MX w) (hl : langB b = lg) (hlg : lg = [106, 97]) :
    Calls Tryd.prog 56 #[.agg (bC b)] w fun e w' => RulePost 1 w e w' := by
  obtain ⟨he0, hq0⟩ := eqlS2 ⟨lg.toArray⟩ [106, 97] true (by rw [hlg]; rfl)
  have HG0 : Hid (((w.alloc (.cells (bC b) 29)).alloc (.cells zRule 98)).heap[w.heap.size]? = some (.cells (bC b) 29 (0, 0))) := heap_alloc2_old _ _ _
  have HL0 : Hid (LSt w ((w.alloc (.cells (bC b) 29)).alloc (.cells zRule 98))) := ⟨below_alloc2 _ _ _, heap_alloc2_new _ _ _⟩
  have HRi : Hid (∀ W, Below w.heap.size w W → Calls Tryd.prog 17 #[.agg (bC b)] W fun e w' => e = .returned (.bool (rightT b)) ∧ Below W.heap.size W w') := fun W hW => right_any5 b W hb (hmx.below hW)
  have HTr : Hid (∀ W, Calls Tryd.prog 69 #[.string ⟨(b.take 3).toArray⟩, .string ⟨#[0]⟩] W fun e w' => e = .returned (.string ⟨(frontZ (b.take 3)).toArray⟩) ∧ w' = W) := fun W => Tryd.strings_TrimRight_one ⟨(b.take 3).toArray⟩ 0 (by decide) W (by show (b.take 3).toArray.size ≤ _; simp; omega)
  have HLG : Hid (langB b = if rightT b then frontZ (b.take 3) else []) := rfl
  have HLg := Lib.hid hl
  have H10 := Lib.hid hb
  clear hb hmx hl hlg
  go_enter Tryd.func56, Tryd.ntmps56
  go_upto_region 5 with fail
  rw [show (Obj.cells #[Value.nilFunc, Value.int IntKind.u8 0] 98) = Obj.cells zRule 98 from rfl]
  generalize (w.alloc (.cells (bC b) 29)).alloc (.cells zRule 98) = W1 at *
  go_upto_if 9 with (first
    | (with_reducible refine ld_T rfl _ rfl w.heap.size b H10.out rfl HG0.out ?_)
    | (go_at_call 17; (refine (HRi.out _ HL0.out.bel).mono ?_); rintro e w2 ⟨rfl, hb2⟩; have HL2 := Lib.hid (HL0.out.below hb2); have HG2 : Hid (w2.heap[w.heap.size]? = some (.cells (bC b) 29 (0, 0))) := (by (show _ = _; rw [hb2.block _ (lt_heap HG0.out)]; exact HG0.out)); clear hb2))
  go_cut [6] (fun s6 wx => s6 = .string ⟨lg.toArray⟩ ∧ Hid (LSt w wx))
  case first =>
    rw [HLG.out] at HLg
    have H10' := H10.out
    have hcv := conv_any w2 w.heap.size 0 3 3 (b.take 3) (by simp; omega) (by have := range_sub (range_whole (w := w2) (g := w.heap.size) (vs := (bC b).toList) (by simpa using HG2.out)) 0 3; simpa using this)
    clear H10'
    cases hr : rightT b
    · rw [hr] at HLg
      have HLe : Hid ([] = lg) := HLg.out
      go_wp2_with fail
      go_meet
      exact ⟨by rw [← HLe.out], HL2.out⟩
    · rw [hr] at HLg
      have HLe : Hid (frontZ (b.take 3) = lg) := HLg.out
      go_wp2_with (go_at_call 69; (refine (HTr.out _).mono ?_); rintro e w' ⟨rfl, rfl⟩)
      go_meet
      exact ⟨by rw [← HLe.out], HL2.out⟩
  case rest =>
    clear HL2 HG2 HLg HLG HRi HTr HL0 HG0
    obtain ⟨rfl, HL⟩ := hcut
    generalize (⟨lg.toArray⟩ : ByteArray) = sl at *
    go_wp2_with (first
      | (go_at_call 70; (refine (bits_o wc.heap.size _ (heap_alloc_new _ _)).mono ?_); rintro e w' ⟨rfl, rfl⟩)
      | ((with_reducible refine gate_st 98 _ _ rfl ?_); refine wl_str rfl 98 _ _ rfl (w.heap.size + 1) #[.func (.func 67) #[] #[], .int .u8 32] zRule _ sizRule rfl (rule_one _ _ _ _) rfl rfl (HL.out.below (below_alloc1 _ _)).r ?_))
    refine bodyPost_ret (res_rowc (P := Tryd.prog) (T := 98) (T' := 98) rfl _ _ (w.heap.size + 1) #[.func (.func 67) #[] #[], .int .u8 32] (0, 0) rfl (setRow_at (HL.out.below (below_alloc1 _ _)).r) Tryd.underlying98 rfl sizRule) rfl ⟨setRow_below (HL.out.below (below_alloc1 _ _)).bel (by omega) _, _, rfl, rfl⟩
set_option maxRecDepth 100000 in
set_option maxHeartbeats 2000000 in
theorem rule_ko (b lg : List UInt8) (w : World) (hb : b.length = 10) (hmx : MX w) (hl : langB b = lg) (hlg : lg = [107, 111]) :
    Calls Tryd.prog 56 #[.agg (bC b)] w fun e w' => RulePost 1 w e w' := by
  obtain ⟨he0, hq0⟩ := eqlS2 ⟨lg.toArray⟩ [106, 97] false (by rw [hlg]; rfl)
  obtain ⟨he1, hq1⟩ := eqlS2 ⟨lg.toArray⟩ [107, 111] true (by rw [hlg]; rfl)
  have HG0 : Hid (((w.alloc (.cells (bC b) 29)).alloc (.cells zRule 98)).heap[w.heap.size]? = some (.cells (bC b) 29 (0, 0))) := heap_alloc2_old _ _ _
  have HL0 : Hid (LSt w ((w.alloc (.cells (bC b) 29)).alloc (.cells zRule 98))) := ⟨below_alloc2 _ _ _, heap_alloc2_new _ _ _⟩
  have HRi : Hid (∀ W, Below w.heap.size w W → Calls Tryd.prog 17 #[.agg (bC b)] W fun e w' => e = .returned (.bool (rightT b)) ∧ Below W.heap.size W w') := fun W hW => right_any5 b W hb (hmx.below hW)
  have HTr : Hid (∀ W, Calls Tryd.prog 69 #[.string ⟨(b.take 3).toArray⟩, .string ⟨#[0]⟩] W fun e w' => e = .returned (.string ⟨(frontZ (b.take 3)).toArray⟩) ∧ w' = W) := fun W => Tryd.strings_TrimRight_one ⟨(b.take 3).toArray⟩ 0 (by decide) W (by show (b.take 3).toArray.size ≤ _; simp; omega)
  have HLG : Hid (langB b = if rightT b then frontZ (b.take 3) else []) := rfl
  have HLg := Lib.hid hl
  have H10 := Lib.hid hb
  clear hb hmx hl hlg
  go_enter Tryd.func56, Tryd.ntmps56
  go_upto_region 5 with fail
  rw [show (Obj.cells #[Value.nilFunc, Value.int IntKind.u8 0] 98) = Obj.cells zRule 98 from rfl]
  generalize (w.alloc (.cells (bC b) 29)).alloc (.cells zRule 98) = W1 at *
  go_upto_if 9 with (first
    | (with_reducible refine ld_T rfl _ rfl w.heap.size b H10.out rfl HG0.out ?_)
    | (go_at_call 17; (refine (HRi.out _ HL0.out.bel).mono ?_); rintro e w2 ⟨rfl, hb2⟩; have HL2 := Lib.hid (HL0.out.below hb2); have HG2 : Hid (w2.heap[w.heap.size]? = some (.cells (bC b) 29 (0, 0))) := (by (show _ = _; rw [hb2.block _ (lt_heap HG0.out)]; exact HG0.out)); clear hb2))
  go_cut [6] (fun s6 wx => s6 = .string ⟨lg.toArray⟩ ∧ Hid (LSt w wx))
  case first =>
    rw [HLG.out] at HLg
    have H10' := H10.out
    have hcv := conv_any w2 w.heap.size 0 3 3 (b.take 3) (by simp; omega) (by have := range_sub (range_whole (w := w2) (g := w.heap.size) (vs := (bC b).toList) (by simpa using HG2.out)) 0 3; simpa using this)
    clear H10'
    cases hr : rightT b
    · rw [hr] at HLg
      have HLe : Hid ([] = lg) := HLg.out
      go_wp2_with fail
      go_meet
      exact ⟨by rw [← HLe.out], HL2.out⟩
    · rw [hr] at HLg
      have HLe : Hid (frontZ (b.take 3) = lg) := HLg.out
      go_wp2_with (go_at_call 69; (refine (HTr.out _).mono ?_); rintro e w' ⟨rfl, rfl⟩)
      go_meet
      exact ⟨by rw [← HLe.out], HL2.out⟩
  case rest =>
    clear HL2 HG2 HLg HLG HRi HTr HL0 HG0
    obtain ⟨rfl, HL⟩ := hcut
    generalize (⟨lg.toArray⟩ : ByteArray) = sl at *
    go_wp2_with (first
      | (go_at_call 70; (refine (bits_o wc.heap.size _ (heap_alloc_new _ _)).mono ?_); rintro e w' ⟨rfl, rfl⟩)
      | ((with_reducible refine gate_st 98 _ _ rfl ?_); refine wl_str rfl 98 _ _ rfl (w.heap.size + 1) #[.func (.func 67) #[] #[], .int .u8 32] zRule _ sizRule rfl (rule_one _ _ _ _) rfl rfl (HL.out.below (below_alloc1 _ _)).r ?_))
    refine bodyPost_ret (res_rowc (P := Tryd.prog) (T := 98) (T' := 98) rfl _ _ (w.heap.size + 1) #[.func (.func 67) #[] #[], .int .u8 32] (0, 0) rfl (setRow_at (HL.out.below (below_alloc1 _ _)).r) Tryd.underlying98 rfl sizRule) rfl ⟨setRow_below (HL.out.below (below_alloc1 _ _)).bel (by omega) _, _, rfl, rfl⟩
set_option maxRecDepth 100000 in
set_option maxHeartbeats 2000000 in
theorem rule_zh (b lg : List UInt8) (w : World) (hb : b.length = 10) (hmx : MX w) (hl : langB b = lg) (hlg : lg = [122, 104]) :
    Calls Tryd.prog 56 #[.agg (bC b)] w fun e w' => RulePost 1 w e w' := by
  obtain ⟨he0, hq0⟩ := eqlS2 ⟨lg.toArray⟩ [106, 97] false (by rw [hlg]; rfl)
  obtain ⟨he1, hq1⟩ := eqlS2 ⟨lg.toArray⟩ [107, 111] false (by rw [hlg]; rfl)
  obtain ⟨he2, hq2⟩ := eqlS2 ⟨lg.toArray⟩ [122, 104] true (by rw [hlg]; rfl)
  have HG0 : Hid (((w.alloc (.cells (bC b) 29)).alloc (.cells zRule 98)).heap[w.heap.size]? = some (.cells (bC b) 29 (0, 0))) := heap_alloc2_old _ _ _
  have HL0 : Hid (LSt w ((w.alloc (.cells (bC b) 29)).alloc (.cells zRule 98))) := ⟨below_alloc2 _ _ _, heap_alloc2_new _ _ _⟩
  have HRi : Hid (∀ W, Below w.heap.size w W → Calls Tryd.prog 17 #[.agg (bC b)] W fun e w' => e = .returned (.bool (rightT b)) ∧ Below W.heap.size W w') := fun W hW => right_any5 b W hb (hmx.below hW)
  have HTr : Hid (∀ W, Calls Tryd.prog 69 #[.string ⟨(b.take 3).toArray⟩, .string ⟨#[0]⟩] W fun e w' => e = .returned (.string ⟨(frontZ (b.take 3)).toArray⟩) ∧ w' = W) := fun W => Tryd.strings_TrimRight_one ⟨(b.take 3).toArray⟩ 0 (by decide) W (by show (b.take 3).toArray.size ≤ _; simp; omega)
  have HLG : Hid (langB b = if rightT b then frontZ (b.take 3) else []) := rfl
  have HLg := Lib.hid hl
  have H10 := Lib.hid hb
  clear hb hmx hl hlg
  go_enter Tryd.func56, Tryd.ntmps56
  go_upto_region 5 with fail
  rw [show (Obj.cells #[Value.nilFunc, Value.int IntKind.u8 0] 98) = Obj.cells zRule 98 from rfl]
  generalize (w.alloc (.cells (bC b) 29)).alloc (.cells zRule 98) = W1 at *
  go_upto_if 9 with (first
    | (with_reducible refine ld_T rfl _ rfl w.heap.size b H10.out rfl HG0.out ?_)
    | (go_at_call 17; (refine (HRi.out _ HL0.out.bel).mono ?_); rintro e w2 ⟨rfl, hb2⟩; have HL2 := Lib.hid (HL0.out.below hb2); have HG2 : Hid (w2.heap[w.heap.size]? = some (.cells (bC b) 29 (0, 0))) := (by (show _ = _; rw [hb2.block _ (lt_heap HG0.out)]; exact HG0.out)); clear hb2))
  go_cut [6] (fun s6 wx => s6 = .string ⟨lg.toArray⟩ ∧ Hid (LSt w wx))
  case first =>
    rw [HLG.out] at HLg
    have H10' := H10.out
    have hcv := conv_any w2 w.heap.size 0 3 3 (b.take 3) (by simp; omega) (by have := range_sub (range_whole (w := w2) (g := w.heap.size) (vs := (bC b).toList) (by simpa using HG2.out)) 0 3; simpa using this)
    clear H10'
    cases hr : rightT b
    · rw [hr] at HLg
      have HLe : Hid ([] = lg) := HLg.out
      go_wp2_with fail
      go_meet
      exact ⟨by rw [← HLe.out], HL2.out⟩
    · rw [hr] at HLg
      have HLe : Hid (frontZ (b.take 3) = lg) := HLg.out
      go_wp2_with (go_at_call 69; (refine (HTr.out _).mono ?_); rintro e w' ⟨rfl, rfl⟩)
      go_meet
      exact ⟨by rw [← HLe.out], HL2.out⟩
  case rest =>
    clear HL2 HG2 HLg HLG HRi HTr HL0 HG0
    obtain ⟨rfl, HL⟩ := hcut
    generalize (⟨lg.toArray⟩ : ByteArray) = sl at *
    go_wp2_with (first
      | (go_at_call 70; (refine (bits_o wc.heap.size _ (heap_alloc_new _ _)).mono ?_); rintro e w' ⟨rfl, rfl⟩)
      | ((with_reducible refine gate_st 98 _ _ rfl ?_); refine wl_str rfl 98 _ _ rfl (w.heap.size + 1) #[.func (.func 67) #[] #[], .int .u8 32] zRule _ sizRule rfl (rule_one _ _ _ _) rfl rfl (HL.out.below (below_alloc1 _ _)).r ?_))
    refine bodyPost_ret (res_rowc (P := Tryd.prog) (T := 98) (T' := 98) rfl _ _ (w.heap.size + 1) #[.func (.func 67) #[] #[], .int .u8 32] (0, 0) rfl (setRow_at (HL.out.below (below_alloc1 _ _)).r) Tryd.underlying98 rfl sizRule) rfl ⟨setRow_below (HL.out.below (below_alloc1 _ _)).bel (by omega) _, _, rfl, rfl⟩
set_option maxRecDepth 100000 in
set_option maxHeartbeats 2000000 in
theorem rule_vi (b lg : List UInt8) (w : World) (hb : b.length = 10) (hmx : MX w) (hl : langB b = lg) (hlg : lg = [118, 105]) :
    Calls Tryd.prog 56 #[.agg (bC b)] w fun e w' => RulePost 1 w e w' := by
  obtain ⟨he0, hq0⟩ := eqlS2 ⟨lg.toArray⟩ [106, 97] false (by rw [hlg]; rfl)
  obtain ⟨he1, hq1⟩ := eqlS2 ⟨lg.toArray⟩ [107, 111] false (by rw [hlg]; rfl)
  obtain ⟨he2, hq2⟩ := eqlS2 ⟨lg.toArray⟩ [122, 104] false (by rw [hlg]; rfl)
  obtain ⟨he3, hq3⟩ := eqlS2 ⟨lg.toArray⟩ [118, 105] true (by rw [hlg]; rfl)
  have HG0 : Hid (((w.alloc (.cells (bC b) 29)).alloc (.cells zRule 98)).heap[w.heap.size]? = some (.cells (bC b) 29 (0, 0))) := heap_alloc2_old _ _ _
  have HL0 : Hid (LSt w ((w.alloc (.cells (bC b) 29)).alloc (.cells zRule 98))) := ⟨below_alloc2 _ _ _, heap_alloc2_new _ _ _⟩
  have HRi : Hid (∀ W, Below w.heap.size w W → Calls Tryd.prog 17 #[.agg (bC b)] W fun e w' => e = .returned (.bool (rightT b)) ∧ Below W.heap.size W w') := fun W hW => right_any5 b W hb (hmx.below hW)
  have HTr : Hid (∀ W, Calls Tryd.prog 69 #[.string ⟨(b.take 3).toArray⟩, .string ⟨#[0]⟩] W fun e w' => e = .returned (.string ⟨(frontZ (b.take 3)).toArray⟩) ∧ w' = W) := fun W => Tryd.strings_TrimRight_one ⟨(b.take 3).toArray⟩ 0 (by decide) W (by show (b.take 3).toArray.size ≤ _; simp; omega)
  have HLG : Hid (langB b = if rightT b then frontZ (b.take 3) else []) := rfl
  have HLg := Lib.hid hl
  have H10 := Lib.hid hb
  clear hb hmx hl hlg
  go_enter Tryd.func56, Tryd.ntmps56
  go_upto_region 5 with fail
  rw [show (Obj.cells #[Value.nilFunc, Value.int IntKind.u8 0] 98) = Obj.cells zRule 98 from rfl]
  generalize (w.alloc (.cells (bC b) 29)).alloc (.cells zRule 98) = W1 at *
  go_upto_if 9 with (first
    | (with_reducible refine ld_T rfl _ rfl w.heap.size b H10.out rfl HG0.out ?_)
    | (go_at_call 17; (refine (HRi.out _ HL0.out.bel).mono ?_); rintro e w2 ⟨rfl, hb2⟩; have HL2 := Lib.hid (HL0.out.below hb2); have HG2 : Hid (w2.heap[w.heap.size]? = some (.cells (bC b) 29 (0, 0))) := (by (show _ = _; rw [hb2.block _ (lt_heap HG0.out)]; exact HG0.out)); clear hb2))
  go_cut [6] (fun s6 wx => s6 = .string ⟨lg.toArray⟩ ∧ Hid (LSt w wx))
  case first =>
    rw [HLG.out] at HLg
    have H10' := H10.out
    have hcv := conv_any w2 w.heap.size 0 3 3 (b.take 3) (by simp; omega) (by have := range_sub (range_whole (w := w2) (g := w.heap.size) (vs := (bC b).toList) (by simpa using HG2.out)) 0 3; simpa using this)
    clear H10'
    cases hr : rightT b
    · rw [hr] at HLg
      have HLe : Hid ([] = lg) := HLg.out
      go_wp2_with fail
      go_meet
      exact ⟨by rw [← HLe.out], HL2.out⟩
    · rw [hr] at HLg
      have HLe : Hid (frontZ (b.take 3) = lg) := HLg.out
      go_wp2_with (go_at_call 69; (refine (HTr.out _).mono ?_); rintro e w' ⟨rfl, rfl⟩)
      go_meet
      exact ⟨by rw [← HLe.out], HL2.out⟩
  case rest =>
    clear HL2 HG2 HLg HLG HRi HTr HL0 HG0
    obtain ⟨rfl, HL⟩ := hcut
    generalize (⟨lg.toArray⟩ : ByteArray) = sl at *
    go_wp2_with (first
      | (go_at_call 70; (refine (bits_o wc.heap.size _ (heap_alloc_new _ _)).mono ?_); rintro e w' ⟨rfl, rfl⟩)
      | ((with_reducible refine gate_st 98 _ _ rfl ?_); refine wl_str rfl 98 _ _ rfl (w.heap.size + 1) #[.func (.func 67) #[] #[], .int .u8 32] zRule _ sizRule rfl (rule_one _ _ _ _) rfl rfl (HL.out.below (below_alloc1 _ _)).r ?_))
    refine bodyPost_ret (res_rowc (P := Tryd.prog) (T := 98) (T' := 98) rfl _ _ (w.heap.size + 1) #[.func (.func 67) #[] #[], .int .u8 32] (0, 0) rfl (setRow_at (HL.out.below (below_alloc1 _ _)).r) Tryd.underlying98 rfl sizRule) rfl ⟨setRow_below (HL.out.below (below_alloc1 _ _)).bel (by omega) _, _, rfl, rfl⟩
set_option maxRecDepth 100000 in
set_option maxHeartbeats 2000000 in
theorem rule_th (b lg : List UInt8) (w : World) (hb : b.length = 10) (hmx : MX w) (hl : langB b = lg) (hlg : lg = [116, 104]) :
    Calls Tryd.prog 56 #[.agg (bC b)] w fun e w' => RulePost 1 w e w' := by
  obtain ⟨he0, hq0⟩ := eqlS2 ⟨lg.toArray⟩ [106, 97] false (by rw [hlg]; rfl)
  obtain ⟨he1, hq1⟩ := eqlS2 ⟨lg.toArray⟩ [107, 111] false (by rw [hlg]; rfl)
  obtain ⟨he2, hq2⟩ := eqlS2 ⟨lg.toArray⟩ [122, 104] false (by rw [hlg]; rfl)
  obtain ⟨he3, hq3⟩ := eqlS2 ⟨lg.toArray⟩ [118, 105] false (by rw [hlg]; rfl)
  obtain ⟨he4, hq4⟩ := eqlS2 ⟨lg.toArray⟩ [116, 104] true (by rw [hlg]; rfl)
  have HG0 : Hid (((w.alloc (.cells (bC b) 29)).alloc (.cells zRule 98)).heap[w.heap.size]? = some (.cells (bC b) 29 (0, 0))) := heap_alloc2_old _ _ _
  have HL0 : Hid (LSt w ((w.alloc (.cells (bC b) 29)).alloc (.cells zRule 98))) := ⟨below_alloc2 _ _ _, heap_alloc2_new _ _ _⟩
  have HRi : Hid (∀ W, Below w.heap.size w W → Calls Tryd.prog 17 #[.agg (bC b)] W fun e w' => e = .returned (.bool (rightT b)) ∧ Below W.heap.size W w') := fun W hW => right_any5 b W hb (hmx.below hW)
  have HTr : Hid (∀ W, Calls Tryd.prog 69 #[.string ⟨(b.take 3).toArray⟩, .string ⟨#[0]⟩] W fun e w' => e = .returned (.string ⟨(frontZ (b.take 3)).toArray⟩) ∧ w' = W) := fun W => Tryd.strings_TrimRight_one ⟨(b.take 3).toArray⟩ 0 (by decide) W (by show (b.take 3).toArray.size ≤ _; simp; omega)
  have HLG : Hid (langB b = if rightT b then frontZ (b.take 3) else []) := rfl
  have HLg := Lib.hid hl
  have H10 := Lib.hid hb
  clear hb hmx hl hlg
  go_enter Tryd.func56, Tryd.ntmps56
  go_upto_region 5 with fail
  rw [show (Obj.cells #[Value.nilFunc, Value.int IntKind.u8 0] 98) = Obj.cells zRule 98 from rfl]
  generalize (w.alloc (.cells (bC b) 29)).alloc (.cells zRule 98) = W1 at *
  go_upto_if 9 with (first
    | (with_reducible refine ld_T rfl _ rfl w.heap.size b H10.out rfl HG0.out ?_)
    | (go_at_call 17; (refine (HRi.out _ HL0.out.bel).mono ?_); rintro e w2 ⟨rfl, hb2⟩; have HL2 := Lib.hid (HL0.out.below hb2); have HG2 : Hid (w2.heap[w.heap.size]? = some (.cells (bC b) 29 (0, 0))) := (by (show _ = _; rw [hb2.block _ (lt_heap HG0.out)]; exact HG0.out)); clear hb2))
  go_cut [6] (fun s6 wx => s6 = .string ⟨lg.toArray⟩ ∧ Hid (LSt w wx))
  case first =>
    rw [HLG.out] at HLg
    have H10' := H10.out
    have hcv := conv_any w2 w.heap.size 0 3 3 (b.take 3) (by simp; omega) (by have := range_sub (range_whole (w := w2) (g := w.heap.size) (vs := (bC b).toList) (by simpa using HG2.out)) 0 3; simpa using this)
    clear H10'
    cases hr : rightT b
    · rw [hr] at HLg
      have HLe : Hid ([] = lg) := HLg.out
      go_wp2_with fail
      go_meet
      exact ⟨by rw [← HLe.out], HL2.out⟩
    · rw [hr] at HLg
      have HLe : Hid (frontZ (b.take 3) = lg) := HLg.out
      go_wp2_with (go_at_call 69; (refine (HTr.out _).mono ?_); rintro e w' ⟨rfl, rfl⟩)
      go_meet
      exact ⟨by rw [← HLe.out], HL2.out⟩
  case rest =>
    clear HL2 HG2 HLg HLG HRi HTr HL0 HG0
    obtain ⟨rfl, HL⟩ := hcut
    generalize (⟨lg.toArray⟩ : ByteArray) = sl at *
    go_wp2_with (first
      | (go_at_call 70; (refine (bits_o wc.heap.size _ (heap_alloc_new _ _)).mono ?_); rintro e w' ⟨rfl, rfl⟩)
      | ((with_reducible refine gate_st 98 _ _ rfl ?_); refine wl_str rfl 98 _ _ rfl (w.heap.size + 1) #[.func (.func 67) #[] #[], .int .u8 32] zRule _ sizRule rfl (rule_one _ _ _ _) rfl rfl (HL.out.below (below_alloc1 _ _)).r ?_))
    refine bodyPost_ret (res_rowc (P := Tryd.prog) (T := 98) (T' := 98) rfl _ _ (w.heap.size + 1) #[.func (.func 67) #[] #[], .int .u8 32] (0, 0) rfl (setRow_at (HL.out.below (below_alloc1 _ _)).r) Tryd.underlying98 rfl sizRule) rfl ⟨setRow_below (HL.out.below (below_alloc1 _ _)).bel (by omega) _, _, rfl, rfl⟩
set_option maxRecDepth 100000 in
set_option maxHeartbeats 2000000 in
theorem rule_id (b lg : List UInt8) (w : World) (hb : b.length = 10) (hmx : MX w) (hl : langB b = lg) (hlg : lg = [105, 100]) :
    Calls Tryd.prog 56 #[.agg (bC b)] w fun e w' => RulePost 1 w e w' := by
  obtain ⟨he0, hq0⟩ := eqlS2 ⟨lg.toArray⟩ [106, 97] false (by rw [hlg]; rfl)
  obtain ⟨he1, hq1⟩ := eqlS2 ⟨lg.toArray⟩ [107, 111] false (by rw [hlg]; rfl)
  obtain ⟨he2, hq2⟩ := eqlS2 ⟨lg.toArray⟩ [122, 104] false (by rw [hlg]; rfl)
  obtain ⟨he3, hq3⟩ := eqlS2 ⟨lg.toArray⟩ [118, 105] false (by rw [hlg]; rfl)
  obtain ⟨he4, hq4⟩ := eqlS2 ⟨lg.toArray⟩ [116, 104] false (by rw [hlg]; rfl)
  obtain ⟨he5, hq5⟩ := eqlS2 ⟨lg.toArray⟩ [105, 100] true (by rw [hlg]; rfl)
  have HG0 : Hid (((w.alloc (.cells (bC b) 29)).alloc (.cells zRule 98)).heap[w.heap.size]? = some (.cells (bC b) 29 (0, 0))) := heap_alloc2_old _ _ _
  have HL0 : Hid (LSt w ((w.alloc (.cells (bC b) 29)).alloc (.cells zRule 98))) := ⟨below_alloc2 _ _ _, heap_alloc2_new _ _ _⟩
  have HRi : Hid (∀ W, Below w.heap.size w W → Calls Tryd.prog 17 #[.agg (bC b)] W fun e w' => e = .returned (.bool (rightT b)) ∧ Below W.heap.size W w') := fun W hW => right_any5 b W hb (hmx.below hW)
  have HTr : Hid (∀ W, Calls Tryd.prog 69 #[.string ⟨(b.take 3).toArray⟩, .string ⟨#[0]⟩] W fun e w' => e = .returned (.string ⟨(frontZ (b.take 3)).toArray⟩) ∧ w' = W) := fun W => Tryd.strings_TrimRight_one ⟨(b.take 3).toArray⟩ 0 (by decide) W (by show (b.take 3).toArray.size ≤ _; simp; omega)
  have HLG : Hid (langB b = if rightT b then frontZ (b.take 3) else []) := rfl
  have HLg := Lib.hid hl
  have H10 := Lib.hid hb
  clear hb hmx hl hlg
  go_enter Tryd.func56, Tryd.ntmps56
  go_upto_region 5 with fail
  rw [show (Obj.cells #[Value.nilFunc, Value.int IntKind.u8 0] 98) = Obj.cells zRule 98 from rfl]
  generalize (w.alloc (.cells (bC b) 29)).alloc (.cells zRule 98) = W1 at *
  go_upto_if 9 with (first
    | (with_reducible refine ld_T rfl _ rfl w.heap.size b H10.out rfl HG0.out ?_)
    | (go_at_call 17; (refine (HRi.out _ HL0.out.bel).mono ?_); rintro e w2 ⟨rfl, hb2⟩; have HL2 := Lib.hid (HL0.out.below hb2); have HG2 : Hid (w2.heap[w.heap.size]? = some (.cells (bC b) 29 (0, 0))) := (by (show _ = _; rw [hb2.block _ (lt_heap HG0.out)]; exact HG0.out)); clear hb2))
  go_cut [6] (fun s6 wx => s6 = .string ⟨lg.toArray⟩ ∧ Hid (LSt w wx))
  case first =>
    rw [HLG.out] at HLg
    have H10' := H10.out
    have hcv := conv_any w2 w.heap.size 0 3 3 (b.take 3) (by simp; omega) (by have := range_sub (range_whole (w := w2) (g := w.heap.size) (vs := (bC b).toList) (by simpa using HG2.out)) 0 3; simpa using this)
    clear H10'
    cases hr : rightT b
    · rw [hr] at HLg
      have HLe : Hid ([] = lg) := HLg.out
      go_wp2_with fail
      go_meet
      exact ⟨by rw [← HLe.out], HL2.out⟩
    · rw [hr] at HLg
      have HLe : Hid (frontZ (b.take 3) = lg) := HLg.out
      go_wp2_with (go_at_call 69; (refine (HTr.out _).mono ?_); rintro e w' ⟨rfl, rfl⟩)
      go_meet
      exact ⟨by rw [← HLe.out], HL2.out⟩
  case rest =>
    clear HL2 HG2 HLg HLG HRi HTr HL0 HG0
    obtain ⟨rfl, HL⟩ := hcut
    generalize (⟨lg.toArray⟩ : ByteArray) = sl at *
    go_wp2_with (first
      | (go_at_call 70; (refine (bits_o wc.heap.size _ (heap_alloc_new _ _)).mono ?_); rintro e w' ⟨rfl, rfl⟩)
      | ((with_reducible refine gate_st 98 _ _ rfl ?_); refine wl_str rfl 98 _ _ rfl (w.heap.size + 1) #[.func (.func 67) #[] #[], .int .u8 32] zRule _ sizRule rfl (rule_one _ _ _ _) rfl rfl (HL.out.below (below_alloc1 _ _)).r ?_))
    refine bodyPost_ret (res_rowc (P := Tryd.prog) (T := 98) (T' := 98) rfl _ _ (w.heap.size + 1) #[.func (.func 67) #[] #[], .int .u8 32] (0, 0) rfl (setRow_at (HL.out.below (below_alloc1 _ _)).r) Tryd.underlying98 rfl sizRule) rfl ⟨setRow_below (HL.out.below (below_alloc1 _ _)).bel (by omega) _, _, rfl, rfl⟩
set_option maxRecDepth 100000 in
set_option maxHeartbeats 2000000 in
theorem rule_fr (b lg : List UInt8) (w : World) (hb : b.length = 10) (hmx : MX w) (hl : langB b = lg) (hlg : lg = [102, 114]) :
    Calls Tryd.prog 56 #[.agg (bC b)] w fun e w' => RulePost 2 w e w' := by
  obtain ⟨he0, hq0⟩ := eqlS2 ⟨lg.toArray⟩ [106, 97] false (by rw [hlg]; rfl)
  obtain ⟨he1, hq1⟩ := eqlS2 ⟨lg.toArray⟩ [107, 111] false (by rw [hlg]; rfl)
  obtain ⟨he2, hq2⟩ := eqlS2 ⟨lg.toArray⟩ [122, 104] false (by rw [hlg]; rfl)
  obtain ⟨he3, hq3⟩ := eqlS2 ⟨lg.toArray⟩ [118, 105] false (by rw [hlg]; rfl)
  obtain ⟨he4, hq4⟩ := eqlS2 ⟨lg.toArray⟩ [116, 104] false (by rw [hlg]; rfl)
  obtain ⟨he5, hq5⟩ := eqlS2 ⟨lg.toArray⟩ [105, 100] false (by rw [hlg]; rfl)
  obtain ⟨he6, hq6⟩ := eqlS2 ⟨lg.toArray⟩ [102, 114] true (by rw [hlg]; rfl)
  have HG0 : Hid (((w.alloc (.cells (bC b) 29)).alloc (.cells zRule 98)).heap[w.heap.size]? = some (.cells (bC b) 29 (0, 0))) := heap_alloc2_old _ _ _
  have HL0 : Hid (LSt w ((w.alloc (.cells (bC b) 29)).alloc (.cells zRule 98))) := ⟨below_alloc2 _ _ _, heap_alloc2_new _ _ _⟩
  have HRi : Hid (∀ W, Below w.heap.size w W → Calls Tryd.prog 17 #[.agg (bC b)] W fun e w' => e = .returned (.bool (rightT b)) ∧ Below W.heap.size W w') := fun W hW => right_any5 b W hb (hmx.below hW)
  have HTr : Hid (∀ W, Calls Tryd.prog 69 #[.string ⟨(b.take 3).toArray⟩, .string ⟨#[0]⟩] W fun e w' => e = .returned (.string ⟨(frontZ (b.take 3)).toArray⟩) ∧ w' = W) := fun W => Tryd.strings_TrimRight_one ⟨(b.take 3).toArray⟩ 0 (by decide) W (by show (b.take 3).toArray.size ≤ _; simp; omega)
  have HLG : Hid (langB b = if rightT b then frontZ (b.take 3) else []) := rfl
  have HLg := Lib.hid hl
  have H10 := Lib.hid hb
  clear hb hmx hl hlg
  go_enter Tryd.func56, Tryd.ntmps56
  go_upto_region 5 with fail
  rw [show (Obj.cells #[Value.nilFunc, Value.int IntKind.u8 0] 98) = Obj.cells zRule 98 from rfl]
  generalize (w.alloc (.cells (bC b) 29)).alloc (.cells zRule 98) = W1 at *
  go_upto_if 9 with (first
    | (with_reducible refine ld_T rfl _ rfl w.heap.size b H10.out rfl HG0.out ?_)
    | (go_at_call 17; (refine (HRi.out _ HL0.out.bel).mono ?_); rintro e w2 ⟨rfl, hb2⟩; have HL2 := Lib.hid (HL0.out.below hb2); have HG2 : Hid (w2.heap[w.heap.size]? = some (.cells (bC b) 29 (0, 0))) := (by (show _ = _; rw [hb2.block _ (lt_heap HG0.out)]; exact HG0.out)); clear hb2))
  go_cut [6] (fun s6 wx => s6 = .string ⟨lg.toArray⟩ ∧ Hid (LSt w wx))
  case first =>
    rw [HLG.out] at HLg
    have H10' := H10.out
    have hcv := conv_any w2 w.heap.size 0 3 3 (b.take 3) (by simp; omega) (by have := range_sub (range_whole (w := w2) (g := w.heap.size) (vs := (bC b).toList) (by simpa using HG2.out)) 0 3; simpa using this)
    clear H10'
    cases hr : rightT b
    · rw [hr] at HLg
      have HLe : Hid ([] = lg) := HLg.out
      go_wp2_with fail
      go_meet
      exact ⟨by rw [← HLe.out], HL2.out⟩
    · rw [hr] at HLg
      have HLe : Hid (frontZ (b.take 3) = lg) := HLg.out
      go_wp2_with (go_at_call 69; (refine (HTr.out _).mono ?_); rintro e w' ⟨rfl, rfl⟩)
      go_meet
      exact ⟨by rw [← HLe.out], HL2.out⟩
  case rest =>
    clear HL2 HG2 HLg HLG HRi HTr HL0 HG0
    obtain ⟨rfl, HL⟩ := hcut
    generalize (⟨lg.toArray⟩ : ByteArray) = sl at *
    go_wp2_with (first
      | (go_at_call 65; (refine (oneIf_any (.func (.func 71) #[] #[]) (.func (.func 67) #[] #[]) _ ⟨_, _, rfl⟩ ⟨_, _, rfl⟩).mono ?_); rintro e w2 ⟨rfl, hb2, hc1, hc2⟩; have HL2 := Lib.hid (HL.out.below hb2); have HC1 := Lib.hid hc1; have HC2 := Lib.hid hc2; have HB2 := Lib.hid hb2; clear hb2 hc1 hc2)
      | (go_at_call 70; (refine (bits_fr w2.heap.size _ (heap_alloc_new _ _)).mono ?_); rintro e w' ⟨rfl, rfl⟩)
      | ((with_reducible refine gate_st 98 _ _ rfl ?_); refine wl_str rfl 98 _ _ rfl (w.heap.size + 1) #[.func (.func 66) #[] #[.pointer (some ⟨wc.heap.size, 0, none⟩), .pointer (some ⟨wc.heap.size + 1, 0, none⟩)], .int .u8 34] zRule _ sizRule rfl (rule_one _ _ _ _) rfl rfl (HL2.out.below (below_alloc1 _ _)).r ?_))
    have hsz := lt_heap HL.out.r
    refine bodyPost_ret (res_rowc (P := Tryd.prog) (T := 98) (T' := 98) rfl _ _ (w.heap.size + 1) #[.func (.func 66) #[] #[.pointer (some ⟨wc.heap.size, 0, none⟩), .pointer (some ⟨wc.heap.size + 1, 0, none⟩)], .int .u8 34] (0, 0) rfl (setRow_at (HL2.out.below (below_alloc1 _ _)).r) Tryd.underlying98 rfl sizRule) rfl ⟨setRow_below (HL2.out.below (below_alloc1 _ _)).bel (by omega) _, _, rfl, ⟨_, _, rfl, keepC HC1.out (by omega), keepC HC2.out (by omega)⟩⟩
set_option maxRecDepth 100000 in
set_option maxHeartbeats 2000000 in
theorem rule_pt (b lg : List UInt8) (w : World) (hb : b.length = 10) (hmx : MX w) (hl : langB b = lg) (hlg : lg = [112, 116]) :
    Calls Tryd.prog 56 #[.agg (bC b)] w fun e w' => RulePost 2 w e w' := by
  obtain ⟨he0, hq0⟩ := eqlS2 ⟨lg.toArray⟩ [106, 97] false (by rw [hlg]; rfl)
  obtain ⟨he1, hq1⟩ := eqlS2 ⟨lg.toArray⟩ [107, 111] false (by rw [hlg]; rfl)
  obtain ⟨he2, hq2⟩ := eqlS2 ⟨lg.toArray⟩ [122, 104] false (by rw [hlg]; rfl)
  obtain ⟨he3, hq3⟩ := eqlS2 ⟨lg.toArray⟩ [118, 105] false (by rw [hlg]; rfl)
  obtain ⟨he4, hq4⟩ := eqlS2 ⟨lg.toArray⟩ [116, 104] false (by rw [hlg]; rfl)
  obtain ⟨he5, hq5⟩ := eqlS2 ⟨lg.toArray⟩ [105, 100] false (by rw [hlg]; rfl)
  obtain ⟨he6, hq6⟩ := eqlS2 ⟨lg.toArray⟩ [102, 114] false (by rw [hlg]; rfl)
  obtain ⟨he7, hq7⟩ := eqlS2 ⟨lg.toArray⟩ [112, 116] true (by rw [hlg]; rfl)
  have HG0 : Hid (((w.alloc (.cells (bC b) 29)).alloc (.cells zRule 98)).heap[w.heap.size]? = some (.cells (bC b) 29 (0, 0))) := heap_alloc2_old _ _ _
  have HL0 : Hid (LSt w ((w.alloc (.cells (bC b) 29)).alloc (.cells zRule 98))) := ⟨below_alloc2 _ _ _, heap_alloc2_new _ _ _⟩
  have HRi : Hid (∀ W, Below w.heap.size w W → Calls Tryd.prog 17 #[.agg (bC b)] W fun e w' => e = .returned (.bool (rightT b)) ∧ Below W.heap.size W w') := fun W hW => right_any5 b W hb (hmx.below hW)
  have HTr : Hid (∀ W, Calls Tryd.prog 69 #[.string ⟨(b.take 3).toArray⟩, .string ⟨#[0]⟩] W fun e w' => e = .returned (.string ⟨(frontZ (b.take 3)).toArray⟩) ∧ w' = W) := fun W => Tryd.strings_TrimRight_one ⟨(b.take 3).toArray⟩ 0 (by decide) W (by show (b.take 3).toArray.size ≤ _; simp; omega)
  have HLG : Hid (langB b = if rightT b then frontZ (b.take 3) else []) := rfl
  have HLg := Lib.hid hl
  have H10 := Lib.hid hb
  clear hb hmx hl hlg
  go_enter Tryd.func56, Tryd.ntmps56
  go_upto_region 5 with fail
  rw [show (Obj.cells #[Value.nilFunc, Value.int IntKind.u8 0] 98) = Obj.cells zRule 98 from rfl]
  generalize (w.alloc (.cells (bC b) 29)).alloc (.cells zRule 98) = W1 at *
  go_upto_if 9 with (first
    | (with_reducible refine ld_T rfl _ rfl w.heap.size b H10.out rfl HG0.out ?_)
    | (go_at_call 17; (refine (HRi.out _ HL0.out.bel).mono ?_); rintro e w2 ⟨rfl, hb2⟩; have HL2 := Lib.hid (HL0.out.below hb2); have HG2 : Hid (w2.heap[w.heap.size]? = some (.cells (bC b) 29 (0, 0))) := (by (show _ = _; rw [hb2.block _ (lt_heap HG0.out)]; exact HG0.out)); clear hb2))
  go_cut [6] (fun s6 wx => s6 = .string ⟨lg.toArray⟩ ∧ Hid (LSt w wx))
  case first =>
    rw [HLG.out] at HLg
    have H10' := H10.out
    have hcv := conv_any w2 w.heap.size 0 3 3 (b.take 3) (by simp; omega) (by have := range_sub (range_whole (w := w2) (g := w.heap.size) (vs := (bC b).toList) (by simpa using HG2.out)) 0 3; simpa using this)
    clear H10'
    cases hr : rightT b
    · rw [hr] at HLg
      have HLe : Hid ([] = lg) := HLg.out
      go_wp2_with fail
      go_meet
      exact ⟨by rw [← HLe.out], HL2.out⟩
    · rw [hr] at HLg
      have HLe : Hid (frontZ (b.take 3) = lg) := HLg.out
      go_wp2_with (go_at_call 69; (refine (HTr.out _).mono ?_); rintro e w' ⟨rfl, rfl⟩)
      go_meet
      exact ⟨by rw [← HLe.out], HL2.out⟩
  case rest =>
    clear HL2 HG2 HLg HLG HRi HTr HL0 HG0
    obtain ⟨rfl, HL⟩ := hcut
    generalize (⟨lg.toArray⟩ : ByteArray) = sl at *
    go_wp2_with (first
      | (go_at_call 65; (refine (oneIf_any (.func (.func 71) #[] #[]) (.func (.func 67) #[] #[]) _ ⟨_, _, rfl⟩ ⟨_, _, rfl⟩).mono ?_); rintro e w2 ⟨rfl, hb2, hc1, hc2⟩; have HL2 := Lib.hid (HL.out.below hb2); have HC1 := Lib.hid hc1; have HC2 := Lib.hid hc2; have HB2 := Lib.hid hb2; clear hb2 hc1 hc2)
      | (go_at_call 70; (refine (bits_fr w2.heap.size _ (heap_alloc_new _ _)).mono ?_); rintro e w' ⟨rfl, rfl⟩)
      | ((with_reducible refine gate_st 98 _ _ rfl ?_); refine wl_str rfl 98 _ _ rfl (w.heap.size + 1) #[.func (.func 66) #[] #[.pointer (some ⟨wc.heap.size, 0, none⟩), .pointer (some ⟨wc.heap.size + 1, 0, none⟩)], .int .u8 34] zRule _ sizRule rfl (rule_one _ _ _ _) rfl rfl (HL2.out.below (below_alloc1 _ _)).r ?_))
    have hsz := lt_heap HL.out.r
    refine bodyPost_ret (res_rowc (P := Tryd.prog) (T := 98) (T' := 98) rfl _ _ (w.heap.size + 1) #[.func (.func 66) #[] #[.pointer (some ⟨wc.heap.size, 0, none⟩), .pointer (some ⟨wc.heap.size + 1, 0, none⟩)], .int .u8 34] (0, 0) rfl (setRow_at (HL2.out.below (below_alloc1 _ _)).r) Tryd.underlying98 rfl sizRule) rfl ⟨setRow_below (HL2.out.below (below_alloc1 _ _)).bel (by omega) _, _, rfl, ⟨_, _, rfl, keepC HC1.out (by omega), keepC HC2.out (by omega)⟩⟩
set_option maxRecDepth 100000 in
set_option maxHeartbeats 2000000 in
theorem rule_ru (b lg : List UInt8) (w : World) (hb : b.length = 10) (hmx : MX w) (hl : langB b = lg) (hlg : lg = [114, 117]) :
    Calls Tryd.prog 56 #[.agg (bC b)] w fun e w' => RulePost 3 w e w' := by
  obtain ⟨he0, hq0⟩ := eqlS2 ⟨lg.toArray⟩ [106, 97] false (by rw [hlg]; rfl)
  obtain ⟨he1, hq1⟩ := eqlS2 ⟨lg.toArray⟩ [107, 111] false (by rw [hlg]; rfl)
  obtain ⟨he2, hq2⟩ := eqlS2 ⟨lg.toArray⟩ [122, 104] false (by rw [hlg]; rfl)
  obtain ⟨he3, hq3⟩ := eqlS2 ⟨lg.toArray⟩ [118, 105] false (by rw [hlg]; rfl)
  obtain ⟨he4, hq4⟩ := eqlS2 ⟨lg.toArray⟩ [116, 104] false (by rw [hlg]; rfl)
  obtain ⟨he5, hq5⟩ := eqlS2 ⟨lg.toArray⟩ [105, 100] false (by rw [hlg]; rfl)
  obtain ⟨he6, hq6⟩ := eqlS2 ⟨lg.toArray⟩ [102, 114] false (by rw [hlg]; rfl)
  obtain ⟨he7, hq7⟩ := eqlS2 ⟨lg.toArray⟩ [112, 116] false (by rw [hlg]; rfl)
  obtain ⟨he8, hq8⟩ := eqlS2 ⟨lg.toArray⟩ [114, 117] true (by rw [hlg]; rfl)
  have HG0 : Hid (((w.alloc (.cells (bC b) 29)).alloc (.cells zRule 98)).heap[w.heap.size]? = some (.cells (bC b) 29 (0, 0))) := heap_alloc2_old _ _ _
  have HL0 : Hid (LSt w ((w.alloc (.cells (bC b) 29)).alloc (.cells zRule 98))) := ⟨below_alloc2 _ _ _, heap_alloc2_new _ _ _⟩
  have HRi : Hid (∀ W, Below w.heap.size w W → Calls Tryd.prog 17 #[.agg (bC b)] W fun e w' => e = .returned (.bool (rightT b)) ∧ Below W.heap.size W w') := fun W hW => right_any5 b W hb (hmx.below hW)
  have HTr : Hid (∀ W, Calls Tryd.prog 69 #[.string ⟨(b.take 3).toArray⟩, .string ⟨#[0]⟩] W fun e w' => e = .returned (.string ⟨(frontZ (b.take 3)).toArray⟩) ∧ w' = W) := fun W => Tryd.strings_TrimRight_one ⟨(b.take 3).toArray⟩ 0 (by decide) W (by show (b.take 3).toArray.size ≤ _; simp; omega)
  have HLG : Hid (langB b = if rightT b then frontZ (b.take 3) else []) := rfl
  have HLg := Lib.hid hl
  have H10 := Lib.hid hb
  clear hb hmx hl hlg
  go_enter Tryd.func56, Tryd.ntmps56
  go_upto_region 5 with fail
  rw [show (Obj.cells #[Value.nilFunc, Value.int IntKind.u8 0] 98) = Obj.cells zRule 98 from rfl]
  generalize (w.alloc (.cells (bC b) 29)).alloc (.cells zRule 98) = W1 at *
  go_upto_if 9 with (first
    | (with_reducible refine ld_T rfl _ rfl w.heap.size b H10.out rfl HG0.out ?_)
    | (go_at_call 17; (refine (HRi.out _ HL0.out.bel).mono ?_); rintro e w2 ⟨rfl, hb2⟩; have HL2 := Lib.hid (HL0.out.below hb2); have HG2 : Hid (w2.heap[w.heap.size]? = some (.cells (bC b) 29 (0, 0))) := (by (show _ = _; rw [hb2.block _ (lt_heap HG0.out)]; exact HG0.out)); clear hb2))
  go_cut [6] (fun s6 wx => s6 = .string ⟨lg.toArray⟩ ∧ Hid (LSt w wx))
  case first =>
    rw [HLG.out] at HLg
    have H10' := H10.out
    have hcv := conv_any w2 w.heap.size 0 3 3 (b.take 3) (by simp; omega) (by have := range_sub (range_whole (w := w2) (g := w.heap.size) (vs := (bC b).toList) (by simpa using HG2.out)) 0 3; simpa using this)
    clear H10'
    cases hr : rightT b
    · rw [hr] at HLg
      have HLe : Hid ([] = lg) := HLg.out
      go_wp2_with fail
      go_meet
      exact ⟨by rw [← HLe.out], HL2.out⟩
    · rw [hr] at HLg
      have HLe : Hid (frontZ (b.take 3) = lg) := HLg.out
      go_wp2_with (go_at_call 69; (refine (HTr.out _).mono ?_); rintro e w' ⟨rfl, rfl⟩)
      go_meet
      exact ⟨by rw [← HLe.out], HL2.out⟩
  case rest =>
    clear HL2 HG2 HLg HLG HRi HTr HL0 HG0
    obtain ⟨rfl, HL⟩ := hcut
    generalize (⟨lg.toArray⟩ : ByteArray) = sl at *
    go_wp2_with (first
      | (go_at_call 65; (refine (oneIf_any (.func (.func 72) #[] #[]) (.func (.func 73) #[] #[]) _ ⟨_, _, rfl⟩ ⟨_, _, rfl⟩).mono ?_); rintro e w2 ⟨rfl, hb2, hc1, hc2⟩; have HL2 := Lib.hid (HL.out.below hb2); have HC1 := Lib.hid hc1; have HC2 := Lib.hid hc2; have HB2 := Lib.hid hb2; clear hb2 hc1 hc2)
      | (go_at_call 70; (refine (bits_ru w2.heap.size _ (heap_alloc_new _ _)).mono ?_); rintro e w' ⟨rfl, rfl⟩)
      | ((with_reducible refine gate_st 98 _ _ rfl ?_); refine wl_str rfl 98 _ _ rfl (w.heap.size + 1) #[.func (.func 66) #[] #[.pointer (some ⟨wc.heap.size, 0, none⟩), .pointer (some ⟨wc.heap.size + 1, 0, none⟩)], .int .u8 58] zRule _ sizRule rfl (rule_one _ _ _ _) rfl rfl (HL2.out.below (below_alloc1 _ _)).r ?_))
    have hsz := lt_heap HL.out.r
    refine bodyPost_ret (res_rowc (P := Tryd.prog) (T := 98) (T' := 98) rfl _ _ (w.heap.size + 1) #[.func (.func 66) #[] #[.pointer (some ⟨wc.heap.size, 0, none⟩), .pointer (some ⟨wc.heap.size + 1, 0, none⟩)], .int .u8 58] (0, 0) rfl (setRow_at (HL2.out.below (below_alloc1 _ _)).r) Tryd.underlying98 rfl sizRule) rfl ⟨setRow_below (HL2.out.below (below_alloc1 _ _)).bel (by omega) _, _, rfl, ⟨_, _, rfl, keepC HC1.out (by omega), keepC HC2.out (by omega)⟩⟩
set_option maxRecDepth 100000 in
set_option maxHeartbeats 2000000 in
theorem rule_uk (b lg : List UInt8) (w : World) (hb : b.length = 10) (hmx : MX w) (hl : langB b = lg) (hlg : lg = [117, 107]) :
    Calls Tryd.prog 56 #[.agg (bC b)] w fun e w' => RulePost 3 w e w' := by
  obtain ⟨he0, hq0⟩ := eqlS2 ⟨lg.toArray⟩ [106, 97] false (by rw [hlg]; rfl)
  obtain ⟨he1, hq1⟩ := eqlS2 ⟨lg.toArray⟩ [107, 111] false (by rw [hlg]; rfl)
  obtain ⟨he2, hq2⟩ := eqlS2 ⟨lg.toArray⟩ [122, 104] false (by rw [hlg]; rfl)
  obtain ⟨he3, hq3⟩ := eqlS2 ⟨lg.toArray⟩ [118, 105] false (by rw [hlg]; rfl)
  obtain ⟨he4, hq4⟩ := eqlS2 ⟨lg.toArray⟩ [116, 104] false (by rw [hlg]; rfl)
  obtain ⟨he5, hq5⟩ := eqlS2 ⟨lg.toArray⟩ [105, 100] false (by rw [hlg]; rfl)
  obtain ⟨he6, hq6⟩ := eqlS2 ⟨lg.toArray⟩ [102, 114] false (by rw [hlg]; rfl)
  obtain ⟨he7, hq7⟩ := eqlS2 ⟨lg.toArray⟩ [112, 116] false (by rw [hlg]; rfl)
  obtain ⟨he8, hq8⟩ := eqlS2 ⟨lg.toArray⟩ [114, 117] false (by rw [hlg]; rfl)
  obtain ⟨he9, hq9⟩ := eqlS2 ⟨lg.toArray⟩ [117, 107] true (by rw [hlg]; rfl)
  have HG0 : Hid (((w.alloc (.cells (bC b) 29)).alloc (.cells zRule 98)).heap[w.heap.size]? = some (.cells (bC b) 29 (0, 0))) := heap_alloc2_old _ _ _
  have HL0 : Hid (LSt w ((w.alloc (.cells (bC b) 29)).alloc (.cells zRule 98))) := ⟨below_alloc2 _ _ _, heap_alloc2_new _ _ _⟩
  have HRi : Hid (∀ W, Below w.heap.size w W → Calls Tryd.prog 17 #[.agg (bC b)] W fun e w' => e = .returned (.bool (rightT b)) ∧ Below W.heap.size W w') := fun W hW => right_any5 b W hb (hmx.below hW)
  have HTr : Hid (∀ W, Calls Tryd.prog 69 #[.string ⟨(b.take 3).toArray⟩, .string ⟨#[0]⟩] W fun e w' => e = .returned (.string ⟨(frontZ (b.take 3)).toArray⟩) ∧ w' = W) := fun W => Tryd.strings_TrimRight_one ⟨(b.take 3).toArray⟩ 0 (by decide) W (by show (b.take 3).toArray.size ≤ _; simp; omega)
  have HLG : Hid (langB b = if rightT b then frontZ (b.take 3) else []) := rfl
  have HLg := Lib.hid hl
  have H10 := Lib.hid hb
  clear hb hmx hl hlg
  go_enter Tryd.func56, Tryd.ntmps56
  go_upto_region 5 with fail
  rw [show (Obj.cells #[Value.nilFunc, Value.int IntKind.u8 0] 98) = Obj.cells zRule 98 from rfl]
  generalize (w.alloc (.cells (bC b) 29)).alloc (.cells zRule 98) = W1 at *
  go_upto_if 9 with (first
    | (with_reducible refine ld_T rfl _ rfl w.heap.size b H10.out rfl HG0.out ?_)
    | (go_at_call 17; (refine (HRi.out _ HL0.out.bel).mono ?_); rintro e w2 ⟨rfl, hb2⟩; have HL2 := Lib.hid (HL0.out.below hb2); have HG2 : Hid (w2.heap[w.heap.size]? = some (.cells (bC b) 29 (0, 0))) := (by (show _ = _; rw [hb2.block _ (lt_heap HG0.out)]; exact HG0.out)); clear hb2))
  go_cut [6] (fun s6 wx => s6 = .string ⟨lg.toArray⟩ ∧ Hid (LSt w wx))
  case first =>
    rw [HLG.out] at HLg
    have H10' := H10.out
    have hcv := conv_any w2 w.heap.size 0 3 3 (b.take 3) (by simp; omega) (by have := range_sub (range_whole (w := w2) (g := w.heap.size) (vs := (bC b).toList) (by simpa using HG2.out)) 0 3; simpa using this)
    clear H10'
    cases hr : rightT b
    · rw [hr] at HLg
      have HLe : Hid ([] = lg) := HLg.out
      go_wp2_with fail
      go_meet
      exact ⟨by rw [← HLe.out], HL2.out⟩
    · rw [hr] at HLg
      have HLe : Hid (frontZ (b.take 3) = lg) := HLg.out
      go_wp2_with (go_at_call 69; (refine (HTr.out _).mono ?_); rintro e w' ⟨rfl, rfl⟩)
      go_meet
      exact ⟨by rw [← HLe.out], HL2.out⟩
  case rest =>
    clear HL2 HG2 HLg HLG HRi HTr HL0 HG0
    obtain ⟨rfl, HL⟩ := hcut
    generalize (⟨lg.toArray⟩ : ByteArray) = sl at *
    go_wp2_with (first
      | (go_at_call 65; (refine (oneIf_any (.func (.func 72) #[] #[]) (.func (.func 73) #[] #[]) _ ⟨_, _, rfl⟩ ⟨_, _, rfl⟩).mono ?_); rintro e w2 ⟨rfl, hb2, hc1, hc2⟩; have HL2 := Lib.hid (HL.out.below hb2); have HC1 := Lib.hid hc1; have HC2 := Lib.hid hc2; have HB2 := Lib.hid hb2; clear hb2 hc1 hc2)
      | (go_at_call 70; (refine (bits_ru w2.heap.size _ (heap_alloc_new _ _)).mono ?_); rintro e w' ⟨rfl, rfl⟩)
      | ((with_reducible refine gate_st 98 _ _ rfl ?_); refine wl_str rfl 98 _ _ rfl (w.heap.size + 1) #[.func (.func 66) #[] #[.pointer (some ⟨wc.heap.size, 0, none⟩), .pointer (some ⟨wc.heap.size + 1, 0, none⟩)], .int .u8 58] zRule _ sizRule rfl (rule_one _ _ _ _) rfl rfl (HL2.out.below (below_alloc1 _ _)).r ?_))
    have hsz := lt_heap HL.out.r
    refine bodyPost_ret (res_rowc (P := Tryd.prog) (T := 98) (T' := 98) rfl _ _ (w.heap.size + 1) #[.func (.func 66) #[] #[.pointer (some ⟨wc.heap.size, 0, none⟩), .pointer (some ⟨wc.heap.size + 1, 0, none⟩)], .int .u8 58] (0, 0) rfl (setRow_at (HL2.out.below (below_alloc1 _ _)).r) Tryd.underlying98 rfl sizRule) rfl ⟨setRow_below (HL2.out.below (below_alloc1 _ _)).bel (by omega) _, _, rfl, ⟨_, _, rfl, keepC HC1.out (by omega), keepC HC2.out (by omega)⟩⟩
set_option maxRecDepth 100000 in
set_option maxHeartbeats 2000000 in
theorem rule_sr (b lg : List UInt8) (w : World) (hb : b.length = 10) (hmx : MX w) (hl : langB b = lg) (hlg : lg = [115, 114]) :
    Calls Tryd.prog 56 #[.agg (bC b)] w fun e w' => RulePost 3 w e w' := by
  obtain ⟨he0, hq0⟩ := eqlS2 ⟨lg.toArray⟩ [106, 97] false (by rw [hlg]; rfl)
  obtain ⟨he1, hq1⟩ := eqlS2 ⟨lg.toArray⟩ [107, 111] false (by rw [hlg]; rfl)
  obtain ⟨he2, hq2⟩ := eqlS2 ⟨lg.toArray⟩ [122, 104] false (by rw [hlg]; rfl)
  obtain ⟨he3, hq3⟩ := eqlS2 ⟨lg.toArray⟩ [118, 105] false (by rw [hlg]; rfl)
  obtain ⟨he4, hq4⟩ := eqlS2 ⟨lg.toArray⟩ [116, 104] false (by rw [hlg]; rfl)
  obtain ⟨he5, hq5⟩ := eqlS2 ⟨lg.toArray⟩ [105, 100] false (by rw [hlg]; rfl)
  obtain ⟨he6, hq6⟩ := eqlS2 ⟨lg.toArray⟩ [102, 114] false (by rw [hlg]; rfl)
  obtain ⟨he7, hq7⟩ := eqlS2 ⟨lg.toArray⟩ [112, 116] false (by rw [hlg]; rfl)
  obtain ⟨he8, hq8⟩ := eqlS2 ⟨lg.toArray⟩ [114, 117] false (by rw [hlg]; rfl)
  obtain ⟨he9, hq9⟩ := eqlS2 ⟨lg.toArray⟩ [117, 107] false (by rw [hlg]; rfl)
  obtain ⟨he10, hq10⟩ := eqlS2 ⟨lg.toArray⟩ [115, 114] true (by rw [hlg]; rfl)
  have HG0 : Hid (((w.alloc (.cells (bC b) 29)).alloc (.cells zRule 98)).heap[w.heap.size]? = some (.cells (bC b) 29 (0, 0))) := heap_alloc2_old _ _ _
  have HL0 : Hid (LSt w ((w.alloc (.cells (bC b) 29)).alloc (.cells zRule 98))) := ⟨below_alloc2 _ _ _, heap_alloc2_new _ _ _⟩
  have HRi : Hid (∀ W, Below w.heap.size w W → Calls Tryd.prog 17 #[.agg (bC b)] W fun e w' => e = .returned (.bool (rightT b)) ∧ Below W.heap.size W w') := fun W hW => right_any5 b W hb (hmx.below hW)
  have HTr : Hid (∀ W, Calls Tryd.prog 69 #[.string ⟨(b.take 3).toArray⟩, .string ⟨#[0]⟩] W fun e w' => e = .returned (.string ⟨(frontZ (b.take 3)).toArray⟩) ∧ w' = W) := fun W => Tryd.strings_TrimRight_one ⟨(b.take 3).toArray⟩ 0 (by decide) W (by show (b.take 3).toArray.size ≤ _; simp; omega)
  have HLG : Hid (langB b = if rightT b then frontZ (b.take 3) else []) := rfl
  have HLg := Lib.hid hl
  have H10 := Lib.hid hb
  clear hb hmx hl hlg
  go_enter Tryd.func56, Tryd.ntmps56
  go_upto_region 5 with fail
  rw [show (Obj.cells #[Value.nilFunc, Value.int IntKind.u8 0] 98) = Obj.cells zRule 98 from rfl]
  generalize (w.alloc (.cells (bC b) 29)).alloc (.cells zRule 98) = W1 at *
  go_upto_if 9 with (first
    | (with_reducible refine ld_T rfl _ rfl w.heap.size b H10.out rfl HG0.out ?_)
    | (go_at_call 17; (refine (HRi.out _ HL0.out.bel).mono ?_); rintro e w2 ⟨rfl, hb2⟩; have HL2 := Lib.hid (HL0.out.below hb2); have HG2 : Hid (w2.heap[w.heap.size]? = some (.cells (bC b) 29 (0, 0))) := (by (show _ = _; rw [hb2.block _ (lt_heap HG0.out)]; exact HG0.out)); clear hb2))
  go_cut [6] (fun s6 wx => s6 = .string ⟨lg.toArray⟩ ∧ Hid (LSt w wx))
  case first =>
    rw [HLG.out] at HLg
    have H10' := H10.out
    have hcv := conv_any w2 w.heap.size 0 3 3 (b.take 3) (by simp; omega) (by have := range_sub (range_whole (w := w2) (g := w.heap.size) (vs := (bC b).toList) (by simpa using HG2.out)) 0 3; simpa using this)
    clear H10'
    cases hr : rightT b
    · rw [hr] at HLg
      have HLe : Hid ([] = lg) := HLg.out
      go_wp2_with fail
      go_meet
      exact ⟨by rw [← HLe.out], HL2.out⟩
    · rw [hr] at HLg
      have HLe : Hid (frontZ (b.take 3) = lg) := HLg.out
      go_wp2_with (go_at_call 69; (refine (HTr.out _).mono ?_); rintro e w' ⟨rfl, rfl⟩)
      go_meet
      exact ⟨by rw [← HLe.out], HL2.out⟩
  case rest =>
    clear HL2 HG2 HLg HLG HRi HTr HL0 HG0
    obtain ⟨rfl, HL⟩ := hcut
    generalize (⟨lg.toArray⟩ : ByteArray) = sl at *
    go_wp2_with (first
      | (go_at_call 65; (refine (oneIf_any (.func (.func 72) #[] #[]) (.func (.func 73) #[] #[]) _ ⟨_, _, rfl⟩ ⟨_, _, rfl⟩).mono ?_); rintro e w2 ⟨rfl, hb2, hc1, hc2⟩; have HL2 := Lib.hid (HL.out.below hb2); have HC1 := Lib.hid hc1; have HC2 := Lib.hid hc2; have HB2 := Lib.hid hb2; clear hb2 hc1 hc2)
      | (go_at_call 70; (refine (bits_ru w2.heap.size _ (heap_alloc_new _ _)).mono ?_); rintro e w' ⟨rfl, rfl⟩)
      | ((with_reducible refine gate_st 98 _ _ rfl ?_); refine wl_str rfl 98 _ _ rfl (w.heap.size + 1) #[.func (.func 66) #[] #[.pointer (some ⟨wc.heap.size, 0, none⟩), .pointer (some ⟨wc.heap.size + 1, 0, none⟩)], .int .u8 58] zRule _ sizRule rfl (rule_one _ _ _ _) rfl rfl (HL2.out.below (below_alloc1 _ _)).r ?_))
    have hsz := lt_heap HL.out.r
    refine bodyPost_ret (res_rowc (P := Tryd.prog) (T := 98) (T' := 98) rfl _ _ (w.heap.size + 1) #[.func (.func 66) #[] #[.pointer (some ⟨wc.heap.size, 0, none⟩), .pointer (some ⟨wc.heap.size + 1, 0, none⟩)], .int .u8 58] (0, 0) rfl (setRow_at (HL2.out.below (below_alloc1 _ _)).r) Tryd.underlying98 rfl sizRule) rfl ⟨setRow_below (HL2.out.below (below_alloc1 _ _)).bel (by omega) _, _, rfl, ⟨_, _, rfl, keepC HC1.out (by omega), keepC HC2.out (by omega)⟩⟩
set_option maxRecDepth 100000 in
set_option maxHeartbeats 2000000 in
theorem rule_pl (b lg : List UInt8) (w : World) (hb : b.length = 10) (hmx : MX w) (hl : langB b = lg) (hlg : lg = [112, 108]) :
    Calls Tryd.prog 56 #[.agg (bC b)] w fun e w' => RulePost 4 w e w' := by
  obtain ⟨he0, hq0⟩ := eqlS2 ⟨lg.toArray⟩ [106, 97] false (by rw [hlg]; rfl)
  obtain ⟨he1, hq1⟩ := eqlS2 ⟨lg.toArray⟩ [107, 111] false (by rw [hlg]; rfl)
  obtain ⟨he2, hq2⟩ := eqlS2 ⟨lg.toArray⟩ [122, 104] false (by rw [hlg]; rfl)
  obtain ⟨he3, hq3⟩ := eqlS2 ⟨lg.toArray⟩ [118, 105] false (by rw [hlg]; rfl)
  obtain ⟨he4, hq4⟩ := eqlS2 ⟨lg.toArray⟩ [116, 104] false (by rw [hlg]; rfl)
  obtain ⟨he5, hq5⟩ := eqlS2 ⟨lg.toArray⟩ [105, 100] false (by rw [hlg]; rfl)
  obtain ⟨he6, hq6⟩ := eqlS2 ⟨lg.toArray⟩ [102, 114] false (by rw [hlg]; rfl)
  obtain ⟨he7, hq7⟩ := eqlS2 ⟨lg.toArray⟩ [112, 116] false (by rw [hlg]; rfl)
  obtain ⟨he8, hq8⟩ := eqlS2 ⟨lg.toArray⟩ [114, 117] false (by rw [hlg]; rfl)
  obtain ⟨he9, hq9⟩ := eqlS2 ⟨lg.toArray⟩ [117, 107] false (by rw [hlg]; rfl)
  obtain ⟨he10, hq10⟩ := eqlS2 ⟨lg.toArray⟩ [115, 114] false (by rw [hlg]; rfl)
  obtain ⟨he11, hq11⟩ := eqlS2 ⟨lg.toArray⟩ [112, 108] true (by rw [hlg]; rfl)
  have HG0 : Hid (((w.alloc (.cells (bC b) 29)).alloc (.cells zRule 98)).heap[w.heap.size]? = some (.cells (bC b) 29 (0, 0))) := heap_alloc2_old _ _ _
  have HL0 : Hid (LSt w ((w.alloc (.cells (bC b) 29)).alloc (.cells zRule 98))) := ⟨below_alloc2 _ _ _, heap_alloc2_new _ _ _⟩
  have HRi : Hid (∀ W, Below w.heap.size w W → Calls Tryd.prog 17 #[.agg (bC b)] W fun e w' => e = .returned (.bool (rightT b)) ∧ Below W.heap.size W w') := fun W hW => right_any5 b W hb (hmx.below hW)
  have HTr : Hid (∀ W, Calls Tryd.prog 69 #[.string ⟨(b.take 3).toArray⟩, .string ⟨#[0]⟩] W fun e w' => e = .returned (.string ⟨(frontZ (b.take 3)).toArray⟩) ∧ w' = W) := fun W => Tryd.strings_TrimRight_one ⟨(b.take 3).toArray⟩ 0 (by decide) W (by show (b.take 3).toArray.size ≤ _; simp; omega)
  have HLG : Hid (langB b = if rightT b then frontZ (b.take 3) else []) := rfl
  have HLg := Lib.hid hl
  have H10 := Lib.hid hb
  clear hb hmx hl hlg
  go_enter Tryd.func56, Tryd.ntmps56
  go_upto_region 5 with fail
  rw [show (Obj.cells #[Value.nilFunc, Value.int IntKind.u8 0] 98) = Obj.cells zRule 98 from rfl]
  generalize (w.alloc (.cells (bC b) 29)).alloc (.cells zRule 98) = W1 at *
  go_upto_if 9 with (first
    | (with_reducible refine ld_T rfl _ rfl w.heap.size b H10.out rfl HG0.out ?_)
    | (go_at_call 17; (refine (HRi.out _ HL0.out.bel).mono ?_); rintro e w2 ⟨rfl, hb2⟩; have HL2 := Lib.hid (HL0.out.below hb2); have HG2 : Hid (w2.heap[w.heap.size]? = some (.cells (bC b) 29 (0, 0))) := (by (show _ = _; rw [hb2.block _ (lt_heap HG0.out)]; exact HG0.out)); clear hb2))
  go_cut [6] (fun s6 wx => s6 = .string ⟨lg.toArray⟩ ∧ Hid (LSt w wx))
  case first =>
    rw [HLG.out] at HLg
    have H10' := H10.out
    have hcv := conv_any w2 w.heap.size 0 3 3 (b.take 3) (by simp; omega) (by have := range_sub (range_whole (w := w2) (g := w.heap.size) (vs := (bC b).toList) (by simpa using HG2.out)) 0 3; simpa using this)
    clear H10'
    cases hr : rightT b
    · rw [hr] at HLg
      have HLe : Hid ([] = lg) := HLg.out
      go_wp2_with fail
      go_meet
      exact ⟨by rw [← HLe.out], HL2.out⟩
    · rw [hr] at HLg
      have HLe : Hid (frontZ (b.take 3) = lg) := HLg.out
      go_wp2_with (go_at_call 69; (refine (HTr.out _).mono ?_); rintro e w' ⟨rfl, rfl⟩)
      go_meet
      exact ⟨by rw [← HLe.out], HL2.out⟩
  case rest =>
    clear HL2 HG2 HLg HLG HRi HTr HL0 HG0
    obtain ⟨rfl, HL⟩ := hcut
    generalize (⟨lg.toArray⟩ : ByteArray) = sl at *
    go_wp2_with (first
      | (go_at_call 65; (refine (oneIf_any (.func (.func 68) #[] #[]) (.func (.func 73) #[] #[]) _ ⟨_, _, rfl⟩ ⟨_, _, rfl⟩).mono ?_); rintro e w2 ⟨rfl, hb2, hc1, hc2⟩; have HL2 := Lib.hid (HL.out.below hb2); have HC1 := Lib.hid hc1; have HC2 := Lib.hid hc2; have HB2 := Lib.hid hb2; clear hb2 hc1 hc2)
      | (go_at_call 70; (refine (bits_ru w2.heap.size _ (heap_alloc_new _ _)).mono ?_); rintro e w' ⟨rfl, rfl⟩)
      | ((with_reducible refine gate_st 98 _ _ rfl ?_); refine wl_str rfl 98 _ _ rfl (w.heap.size + 1) #[.func (.func 66) #[] #[.pointer (some ⟨wc.heap.size, 0, none⟩), .pointer (some ⟨wc.heap.size + 1, 0, none⟩)], .int .u8 58] zRule _ sizRule rfl (rule_one _ _ _ _) rfl rfl (HL2.out.below (below_alloc1 _ _)).r ?_))
    have hsz := lt_heap HL.out.r
    refine bodyPost_ret (res_rowc (P := Tryd.prog) (T := 98) (T' := 98) rfl _ _ (w.heap.size + 1) #[.func (.func 66) #[] #[.pointer (some ⟨wc.heap.size, 0, none⟩), .pointer (some ⟨wc.heap.size + 1, 0, none⟩)], .int .u8 58] (0, 0) rfl (setRow_at (HL2.out.below (below_alloc1 _ _)).r) Tryd.underlying98 rfl sizRule) rfl ⟨setRow_below (HL2.out.below (below_alloc1 _ _)).bel (by omega) _, _, rfl, ⟨_, _, rfl, keepC HC1.out (by omega), keepC HC2.out (by omega)⟩⟩
set_option maxRecDepth 100000 in
set_option maxHeartbeats 2000000 in
theorem rule_cs (b lg : List UInt8) (w : World) (hb : b.length = 10) (hmx : MX w) (hl : langB b = lg) (hlg : lg = [99, 115]) :
    Calls Tryd.prog 56 #[.agg (bC b)] w fun e w' => RulePost 5 w e w' := by
  obtain ⟨he0, hq0⟩ := eqlS2 ⟨lg.toArray⟩ [106, 97] false (by rw [hlg]; rfl)
  obtain ⟨he1, hq1⟩ := eqlS2 ⟨lg.toArray⟩ [107, 111] false (by rw [hlg]; rfl)
  obtain ⟨he2, hq2⟩ := eqlS2 ⟨lg.toArray⟩ [122, 104] false (by rw [hlg]; rfl)
  obtain ⟨he3, hq3⟩ := eqlS2 ⟨lg.toArray⟩ [118, 105] false (by rw [hlg]; rfl)
  obtain ⟨he4, hq4⟩ := eqlS2 ⟨lg.toArray⟩ [116, 104] false (by rw [hlg]; rfl)
  obtain ⟨he5, hq5⟩ := eqlS2 ⟨lg.toArray⟩ [105, 100] false (by rw [hlg]; rfl)
  obtain ⟨he6, hq6⟩ := eqlS2 ⟨lg.toArray⟩ [102, 114] false (by rw [hlg]; rfl)
  obtain ⟨he7, hq7⟩ := eqlS2 ⟨lg.toArray⟩ [112, 116] false (by rw [hlg]; rfl)
  obtain ⟨he8, hq8⟩ := eqlS2 ⟨lg.toArray⟩ [114, 117] false (by rw [hlg]; rfl)
  obtain ⟨he9, hq9⟩ := eqlS2 ⟨lg.toArray⟩ [117, 107] false (by rw [hlg]; rfl)
  obtain ⟨he10, hq10⟩ := eqlS2 ⟨lg.toArray⟩ [115, 114] false (by rw [hlg]; rfl)
  obtain ⟨he11, hq11⟩ := eqlS2 ⟨lg.toArray⟩ [112, 108] false (by rw [hlg]; rfl)
  obtain ⟨he12, hq12⟩ := eqlS2 ⟨lg.toArray⟩ [99, 115] true (by rw [hlg]; rfl)
  have HG0 : Hid (((w.alloc (.cells (bC b) 29)).alloc (.cells zRule 98)).heap[w.heap.size]? = some (.cells (bC b) 29 (0, 0))) := heap_alloc2_old _ _ _
  have HL0 : Hid (LSt w ((w.alloc (.cells (bC b) 29)).alloc (.cells zRule 98))) := ⟨below_alloc2 _ _ _, heap_alloc2_new _ _ _⟩
  have HRi : Hid (∀ W, Below w.heap.size w W → Calls Tryd.prog 17 #[.agg (bC b)] W fun e w' => e = .returned (.bool (rightT b)) ∧ Below W.heap.size W w') := fun W hW => right_any5 b W hb (hmx.below hW)
  have HTr : Hid (∀ W, Calls Tryd.prog 69 #[.string ⟨(b.take 3).toArray⟩, .string ⟨#[0]⟩] W fun e w' => e = .returned (.string ⟨(frontZ (b.take 3)).toArray⟩) ∧ w' = W) := fun W => Tryd.strings_TrimRight_one ⟨(b.take 3).toArray⟩ 0 (by decide) W (by show (b.take 3).toArray.size ≤ _; simp; omega)
  have HLG : Hid (langB b = if rightT b then frontZ (b.take 3) else []) := rfl
  have HLg := Lib.hid hl
  have H10 := Lib.hid hb
  clear hb hmx hl hlg
  go_enter Tryd.func56, Tryd.ntmps56
  go_upto_region 5 with fail
  rw [show (Obj.cells #[Value.nilFunc, Value.int IntKind.u8 0] 98) = Obj.cells zRule 98 from rfl]
  generalize (w.alloc (.cells (bC b) 29)).alloc (.cells zRule 98) = W1 at *
  go_upto_if 9 with (first
    | (with_reducible refine ld_T rfl _ rfl w.heap.size b H10.out rfl HG0.out ?_)
    | (go_at_call 17; (refine (HRi.out _ HL0.out.bel).mono ?_); rintro e w2 ⟨rfl, hb2⟩; have HL2 := Lib.hid (HL0.out.below hb2); have HG2 : Hid (w2.heap[w.heap.size]? = some (.cells (bC b) 29 (0, 0))) := (by (show _ = _; rw [hb2.block _ (lt_heap HG0.out)]; exact HG0.out)); clear hb2))
  go_cut [6] (fun s6 wx => s6 = .string ⟨lg.toArray⟩ ∧ Hid (LSt w wx))
  case first =>
    rw [HLG.out] at HLg
    have H10' := H10.out
    have hcv := conv_any w2 w.heap.size 0 3 3 (b.take 3) (by simp; omega) (by have := range_sub (range_whole (w := w2) (g := w.heap.size) (vs := (bC b).toList) (by simpa using HG2.out)) 0 3; simpa using this)
    clear H10'
    cases hr : rightT b
    · rw [hr] at HLg
      have HLe : Hid ([] = lg) := HLg.out
      go_wp2_with fail
      go_meet
      exact ⟨by rw [← HLe.out], HL2.out⟩
    · rw [hr] at HLg
      have HLe : Hid (frontZ (b.take 3) = lg) := HLg.out
      go_wp2_with (go_at_call 69; (refine (HTr.out _).mono ?_); rintro e w' ⟨rfl, rfl⟩)
      go_meet
      exact ⟨by rw [← HLe.out], HL2.out⟩
  case rest =>
    clear HL2 HG2 HLg HLG HRi HTr HL0 HG0
    obtain ⟨rfl, HL⟩ := hcut
    generalize (⟨lg.toArray⟩ : ByteArray) = sl at *
    go_wp2_with (first
      | (go_at_call 65; (refine (oneIf_any (.func (.func 68) #[] #[]) (.func (.func 74) #[] #[]) _ ⟨_, _, rfl⟩ ⟨_, _, rfl⟩).mono ?_); rintro e w2 ⟨rfl, hb2, hc1, hc2⟩; have HL2 := Lib.hid (HL.out.below hb2); have HC1 := Lib.hid hc1; have HC2 := Lib.hid hc2; have HB2 := Lib.hid hb2; clear hb2 hc1 hc2)
      | (go_at_call 70; (refine (bits_cs w2.heap.size _ (heap_alloc_new _ _)).mono ?_); rintro e w' ⟨rfl, rfl⟩)
      | ((with_reducible refine gate_st 98 _ _ rfl ?_); refine wl_str rfl 98 _ _ rfl (w.heap.size + 1) #[.func (.func 66) #[] #[.pointer (some ⟨wc.heap.size, 0, none⟩), .pointer (some ⟨wc.heap.size + 1, 0, none⟩)], .int .u8 42] zRule _ sizRule rfl (rule_one _ _ _ _) rfl rfl (HL2.out.below (below_alloc1 _ _)).r ?_))
    have hsz := lt_heap HL.out.r
    refine bodyPost_ret (res_rowc (P := Tryd.prog) (T := 98) (T' := 98) rfl _ _ (w.heap.size + 1) #[.func (.func 66) #[] #[.pointer (some ⟨wc.heap.size, 0, none⟩), .pointer (some ⟨wc.heap.size + 1, 0, none⟩)], .int .u8 42] (0, 0) rfl (setRow_at (HL2.out.below (below_alloc1 _ _)).r) Tryd.underlying98 rfl sizRule) rfl ⟨setRow_below (HL2.out.below (below_alloc1 _ _)).bel (by omega) _, _, rfl, ⟨_, _, rfl, keepC HC1.out (by omega), keepC HC2.out (by omega)⟩⟩
set_option maxRecDepth 100000 in
set_option maxHeartbeats 2000000 in
theorem rule_sk (b lg : List UInt8) (w : World) (hb : b.length = 10) (hmx : MX w) (hl : langB b = lg) (hlg : lg = [115, 107]) :
    Calls Tryd.prog 56 #[.agg (bC b)] w fun e w' => RulePost 5 w e w' := by
  obtain ⟨he0, hq0⟩ := eqlS2 ⟨lg.toArray⟩ [106, 97] false (by rw [hlg]; rfl)
  obtain ⟨he1, hq1⟩ := eqlS2 ⟨lg.toArray⟩ [107, 111] false (by rw [hlg]; rfl)
  obtain ⟨he2, hq2⟩ := eqlS2 ⟨lg.toArray⟩ [122, 104] false (by rw [hlg]; rfl)
  obtain ⟨he3, hq3⟩ := eqlS2 ⟨lg.toArray⟩ [118, 105] false (by rw [hlg]; rfl)
  obtain ⟨he4, hq4⟩ := eqlS2 ⟨lg.toArray⟩ [116, 104] false (by rw [hlg]; rfl)
  obtain ⟨he5, hq5⟩ := eqlS2 ⟨lg.toArray⟩ [105, 100] false (by rw [hlg]; rfl)
  obtain ⟨he6, hq6⟩ := eqlS2 ⟨lg.toArray⟩ [102, 114] false (by rw [hlg]; rfl)
  obtain ⟨he7, hq7⟩ := eqlS2 ⟨lg.toArray⟩ [112, 116] false (by rw [hlg]; rfl)
  obtain ⟨he8, hq8⟩ := eqlS2 ⟨lg.toArray⟩ [114, 117] false (by rw [hlg]; rfl)
  obtain ⟨he9, hq9⟩ := eqlS2 ⟨lg.toArray⟩ [117, 107] false (by rw [hlg]; rfl)
  obtain ⟨he10, hq10⟩ := eqlS2 ⟨lg.toArray⟩ [115, 114] false (by rw [hlg]; rfl)
  obtain ⟨he11, hq11⟩ := eqlS2 ⟨lg.toArray⟩ [112, 108] false (by rw [hlg]; rfl)
  obtain ⟨he12, hq12⟩ := eqlS2 ⟨lg.toArray⟩ [99, 115] false (by rw [hlg]; rfl)
  obtain ⟨he13, hq13⟩ := eqlS2 ⟨lg.toArray⟩ [115, 107] true (by rw [hlg]; rfl)
  have HG0 : Hid (((w.alloc (.cells (bC b) 29)).alloc (.cells zRule 98)).heap[w.heap.size]? = some (.cells (bC b) 29 (0, 0))) := heap_alloc2_old _ _ _
  have HL0 : Hid (LSt w ((w.alloc (.cells (bC b) 29)).alloc (.cells zRule 98))) := ⟨below_alloc2 _ _ _, heap_alloc2_new _ _ _⟩
  have HRi : Hid (∀ W, Below w.heap.size w W → Calls Tryd.prog 17 #[.agg (bC b)] W fun e w' => e = .returned (.bool (rightT b)) ∧ Below W.heap.size W w') := fun W hW => right_any5 b W hb (hmx.below hW)
  have HTr : Hid (∀ W, Calls Tryd.prog 69 #[.string ⟨(b.take 3).toArray⟩, .string ⟨#[0]⟩] W fun e w' => e = .returned (.string ⟨(frontZ (b.take 3)).toArray⟩) ∧ w' = W) := fun W => Tryd.strings_TrimRight_one ⟨(b.take 3).toArray⟩ 0 (by decide) W (by show (b.take 3).toArray.size ≤ _; simp; omega)
  have HLG : Hid (langB b = if rightT b then frontZ (b.take 3) else []) := rfl
  have HLg := Lib.hid hl
  have H10 := Lib.hid hb
  clear hb hmx hl hlg
  go_enter Tryd.func56, Tryd.ntmps56
  go_upto_region 5 with fail
  rw [show (Obj.cells #[Value.nilFunc, Value.int IntKind.u8 0] 98) = Obj.cells zRule 98 from rfl]
  generalize (w.alloc (.cells (bC b) 29)).alloc (.cells zRule 98) = W1 at *
  go_upto_if 9 with (first
    | (with_reducible refine ld_T rfl _ rfl w.heap.size b H10.out rfl HG0.out ?_)
    | (go_at_call 17; (refine (HRi.out _ HL0.out.bel).mono ?_); rintro e w2 ⟨rfl, hb2⟩; have HL2 := Lib.hid (HL0.out.below hb2); have HG2 : Hid (w2.heap[w.heap.size]? = some (.cells (bC b) 29 (0, 0))) := (by (show _ = _; rw [hb2.block _ (lt_heap HG0.out)]; exact HG0.out)); clear hb2))
  go_cut [6] (fun s6 wx => s6 = .string ⟨lg.toArray⟩ ∧ Hid (LSt w wx))
  case first =>
    rw [HLG.out] at HLg
    have H10' := H10.out
    have hcv := conv_any w2 w.heap.size 0 3 3 (b.take 3) (by simp; omega) (by have := range_sub (range_whole (w := w2) (g := w.heap.size) (vs := (bC b).toList) (by simpa using HG2.out)) 0 3; simpa using this)
    clear H10'
    cases hr : rightT b
    · rw [hr] at HLg
      have HLe : Hid ([] = lg) := HLg.out
      go_wp2_with fail
      go_meet
      exact ⟨by rw [← HLe.out], HL2.out⟩
    · rw [hr] at HLg
      have HLe : Hid (frontZ (b.take 3) = lg) := HLg.out
      go_wp2_with (go_at_call 69; (refine (HTr.out _).mono ?_); rintro e w' ⟨rfl, rfl⟩)
      go_meet
      exact ⟨by rw [← HLe.out], HL2.out⟩
  case rest =>
    clear HL2 HG2 HLg HLG HRi HTr HL0 HG0
    obtain ⟨rfl, HL⟩ := hcut
    generalize (⟨lg.toArray⟩ : ByteArray) = sl at *
    go_wp2_with (first
      | (go_at_call 65; (refine (oneIf_any (.func (.func 68) #[] #[]) (.func (.func 74) #[] #[]) _ ⟨_, _, rfl⟩ ⟨_, _, rfl⟩).mono ?_); rintro e w2 ⟨rfl, hb2, hc1, hc2⟩; have HL2 := Lib.hid (HL.out.below hb2); have HC1 := Lib.hid hc1; have HC2 := Lib.hid hc2; have HB2 := Lib.hid hb2; clear hb2 hc1 hc2)
      | (go_at_call 70; (refine (bits_cs w2.heap.size _ (heap_alloc_new _ _)).mono ?_); rintro e w' ⟨rfl, rfl⟩)
      | ((with_reducible refine gate_st 98 _ _ rfl ?_); refine wl_str rfl 98 _ _ rfl (w.heap.size + 1) #[.func (.func 66) #[] #[.pointer (some ⟨wc.heap.size, 0, none⟩), .pointer (some ⟨wc.heap.size + 1, 0, none⟩)], .int .u8 42] zRule _ sizRule rfl (rule_one _ _ _ _) rfl rfl (HL2.out.below (below_alloc1 _ _)).r ?_))
    have hsz := lt_heap HL.out.r
    refine bodyPost_ret (res_rowc (P := Tryd.prog) (T := 98) (T' := 98) rfl _ _ (w.heap.size + 1) #[.func (.func 66) #[] #[.pointer (some ⟨wc.heap.size, 0, none⟩), .pointer (some ⟨wc.heap.size + 1, 0, none⟩)], .int .u8 42] (0, 0) rfl (setRow_at (HL2.out.below (below_alloc1 _ _)).r) Tryd.underlying98 rfl sizRule) rfl ⟨setRow_below (HL2.out.below (below_alloc1 _ _)).bel (by omega) _, _, rfl, ⟨_, _, rfl, keepC HC1.out (by omega), keepC HC2.out (by omega)⟩⟩
set_option maxRecDepth 100000 in
set_option maxHeartbeats 2000000 in
theorem rule_ar (b lg : List UInt8) (w : World) (hb : b.length = 10) (hmx : MX w) (hl : langB b = lg) (hlg : lg = [97, 114]) :
    Calls Tryd.prog 56 #[.agg (bC b)] w fun e w' => RulePost 6 w e w' := by
  obtain ⟨he0, hq0⟩ := eqlS2 ⟨lg.toArray⟩ [106, 97] false (by rw [hlg]; rfl)
  obtain ⟨he1, hq1⟩ := eqlS2 ⟨lg.toArray⟩ [107, 111] false (by rw [hlg]; rfl)
  obtain ⟨he2, hq2⟩ := eqlS2 ⟨lg.toArray⟩ [122, 104] false (by rw [hlg]; rfl)
  obtain ⟨he3, hq3⟩ := eqlS2 ⟨lg.toArray⟩ [118, 105] false (by rw [hlg]; rfl)
  obtain ⟨he4, hq4⟩ := eqlS2 ⟨lg.toArray⟩ [116, 104] false (by rw [hlg]; rfl)
  obtain ⟨he5, hq5⟩ := eqlS2 ⟨lg.toArray⟩ [105, 100] false (by rw [hlg]; rfl)
  obtain ⟨he6, hq6⟩ := eqlS2 ⟨lg.toArray⟩ [102, 114] false (by rw [hlg]; rfl)
  obtain ⟨he7, hq7⟩ := eqlS2 ⟨lg.toArray⟩ [112, 116] false (by rw [hlg]; rfl)
  obtain ⟨he8, hq8⟩ := eqlS2 ⟨lg.toArray⟩ [114, 117] false (by rw [hlg]; rfl)
  obtain ⟨he9, hq9⟩ := eqlS2 ⟨lg.toArray⟩ [117, 107] false (by rw [hlg]; rfl)
  obtain ⟨he10, hq10⟩ := eqlS2 ⟨lg.toArray⟩ [115, 114] false (by rw [hlg]; rfl)
  obtain ⟨he11, hq11⟩ := eqlS2 ⟨lg.toArray⟩ [112, 108] false (by rw [hlg]; rfl)
  obtain ⟨he12, hq12⟩ := eqlS2 ⟨lg.toArray⟩ [99, 115] false (by rw [hlg]; rfl)
  obtain ⟨he13, hq13⟩ := eqlS2 ⟨lg.toArray⟩ [115, 107] false (by rw [hlg]; rfl)
  obtain ⟨he14, hq14⟩ := eqlS2 ⟨lg.toArray⟩ [97, 114] true (by rw [hlg]; rfl)
  have HG0 : Hid (((w.alloc (.cells (bC b) 29)).alloc (.cells zRule 98)).heap[w.heap.size]? = some (.cells (bC b) 29 (0, 0))) := heap_alloc2_old _ _ _
  have HL0 : Hid (LSt w ((w.alloc (.cells (bC b) 29)).alloc (.cells zRule 98))) := ⟨below_alloc2 _ _ _, heap_alloc2_new _ _ _⟩
  have HRi : Hid (∀ W, Below w.heap.size w W → Calls Tryd.prog 17 #[.agg (bC b)] W fun e w' => e = .returned (.bool (rightT b)) ∧ Below W.heap.size W w') := fun W hW => right_any5 b W hb (hmx.below hW)
  have HTr : Hid (∀ W, Calls Tryd.prog 69 #[.string ⟨(b.take 3).toArray⟩, .string ⟨#[0]⟩] W fun e w' => e = .returned (.string ⟨(frontZ (b.take 3)).toArray⟩) ∧ w' = W) := fun W => Tryd.strings_TrimRight_one ⟨(b.take 3).toArray⟩ 0 (by decide) W (by show (b.take 3).toArray.size ≤ _; simp; omega)
  have HLG : Hid (langB b = if rightT b then frontZ (b.take 3) else []) := rfl
  have HLg := Lib.hid hl
  have H10 := Lib.hid hb
  clear hb hmx hl hlg
  go_enter Tryd.func56, Tryd.ntmps56
  go_upto_region 5 with fail
  rw [show (Obj.cells #[Value.nilFunc, Value.int IntKind.u8 0] 98) = Obj.cells zRule 98 from rfl]
  generalize (w.alloc (.cells (bC b) 29)).alloc (.cells zRule 98) = W1 at *
  go_upto_if 9 with (first
    | (with_reducible refine ld_T rfl _ rfl w.heap.size b H10.out rfl HG0.out ?_)
    | (go_at_call 17; (refine (HRi.out _ HL0.out.bel).mono ?_); rintro e w2 ⟨rfl, hb2⟩; have HL2 := Lib.hid (HL0.out.below hb2); have HG2 : Hid (w2.heap[w.heap.size]? = some (.cells (bC b) 29 (0, 0))) := (by (show _ = _; rw [hb2.block _ (lt_heap HG0.out)]; exact HG0.out)); clear hb2))
  go_cut [6] (fun s6 wx => s6 = .string ⟨lg.toArray⟩ ∧ Hid (LSt w wx))
  case first =>
    rw [HLG.out] at HLg
    have H10' := H10.out
    have hcv := conv_any w2 w.heap.size 0 3 3 (b.take 3) (by simp; omega) (by have := range_sub (range_whole (w := w2) (g := w.heap.size) (vs := (bC b).toList) (by simpa using HG2.out)) 0 3; simpa using this)
    clear H10'
    cases hr : rightT b
    · rw [hr] at HLg
      have HLe : Hid ([] = lg) := HLg.out
      go_wp2_with fail
      go_meet
      exact ⟨by rw [← HLe.out], HL2.out⟩
    · rw [hr] at HLg
      have HLe : Hid (frontZ (b.take 3) = lg) := HLg.out
      go_wp2_with (go_at_call 69; (refine (HTr.out _).mono ?_); rintro e w' ⟨rfl, rfl⟩)
      go_meet
      exact ⟨by rw [← HLe.out], HL2.out⟩
  case rest =>
    clear HL2 HG2 HLg HLG HRi HTr HL0 HG0
    obtain ⟨rfl, HL⟩ := hcut
    generalize (⟨lg.toArray⟩ : ByteArray) = sl at *
    go_wp2_with (first
      | (go_at_call 70; (refine (bits_ar wc.heap.size _ (heap_alloc_new _ _)).mono ?_); rintro e w' ⟨rfl, rfl⟩)
      | ((with_reducible refine gate_st 98 _ _ rfl ?_); refine wl_str rfl 98 _ _ rfl (w.heap.size + 1) #[.func (.func 76) #[] #[], .int .u8 63] zRule _ sizRule rfl (rule_one _ _ _ _) rfl rfl (HL.out.below (below_alloc1 _ _)).r ?_))
    refine bodyPost_ret (res_rowc (P := Tryd.prog) (T := 98) (T' := 98) rfl _ _ (w.heap.size + 1) #[.func (.func 76) #[] #[], .int .u8 63] (0, 0) rfl (setRow_at (HL.out.below (below_alloc1 _ _)).r) Tryd.underlying98 rfl sizRule) rfl ⟨setRow_below (HL.out.below (below_alloc1 _ _)).bel (by omega) _, _, rfl, rfl⟩
set_option maxRecDepth 100000 in
set_option maxHeartbeats 2000000 in
theorem rule_lt (b lg : List UInt8) (w : World) (hb : b.length = 10) (hmx : MX w) (hl : langB b = lg) (hlg : lg = [108, 116]) :
    Calls Tryd.prog 56 #[.agg (bC b)] w fun e w' => RulePost 7 w e w' := by
  obtain ⟨he0, hq0⟩ := eqlS2 ⟨lg.toArray⟩ [106, 97] false (by rw [hlg]; rfl)
  obtain ⟨he1, hq1⟩ := eqlS2 ⟨lg.toArray⟩ [107, 111] false (by rw [hlg]; rfl)
  obtain ⟨he2, hq2⟩ := eqlS2 ⟨lg.toArray⟩ [122, 104] false (by rw [hlg]; rfl)
  obtain ⟨he3, hq3⟩ := eqlS2 ⟨lg.toArray⟩ [118, 105] false (by rw [hlg]; rfl)
  obtain ⟨he4, hq4⟩ := eqlS2 ⟨lg.toArray⟩ [116, 104] false (by rw [hlg]; rfl)
  obtain ⟨he5, hq5⟩ := eqlS2 ⟨lg.toArray⟩ [105, 100] false (by rw [hlg]; rfl)
  obtain ⟨he6, hq6⟩ := eqlS2 ⟨lg.toArray⟩ [102, 114] false (by rw [hlg]; rfl)
  obtain ⟨he7, hq7⟩ := eqlS2 ⟨lg.toArray⟩ [112, 116] false (by rw [hlg]; rfl)
  obtain ⟨he8, hq8⟩ := eqlS2 ⟨lg.toArray⟩ [114, 117] false (by rw [hlg]; rfl)
  obtain ⟨he9, hq9⟩ := eqlS2 ⟨lg.toArray⟩ [117, 107] false (by rw [hlg]; rfl)
  obtain ⟨he10, hq10⟩ := eqlS2 ⟨lg.toArray⟩ [115, 114] false (by rw [hlg]; rfl)
  obtain ⟨he11, hq11⟩ := eqlS2 ⟨lg.toArray⟩ [112, 108] false (by rw [hlg]; rfl)
  obtain ⟨he12, hq12⟩ := eqlS2 ⟨lg.toArray⟩ [99, 115] false (by rw [hlg]; rfl)
  obtain ⟨he13, hq13⟩ := eqlS2 ⟨lg.toArray⟩ [115, 107] false (by rw [hlg]; rfl)
  obtain ⟨he14, hq14⟩ := eqlS2 ⟨lg.toArray⟩ [97, 114] false (by rw [hlg]; rfl)
  obtain ⟨he15, hq15⟩ := eqlS2 ⟨lg.toArray⟩ [108, 116] true (by rw [hlg]; rfl)
  have HG0 : Hid (((w.alloc (.cells (bC b) 29)).alloc (.cells zRule 98)).heap[w.heap.size]? = some (.cells (bC b) 29 (0, 0))) := heap_alloc2_old _ _ _
  have HL0 : Hid (LSt w ((w.alloc (.cells (bC b) 29)).alloc (.cells zRule 98))) := ⟨below_alloc2 _ _ _, heap_alloc2_new _ _ _⟩
  have HRi : Hid (∀ W, Below w.heap.size w W → Calls Tryd.prog 17 #[.agg (bC b)] W fun e w' => e = .returned (.bool (rightT b)) ∧ Below W.heap.size W w') := fun W hW => right_any5 b W hb (hmx.below hW)
  have HTr : Hid (∀ W, Calls Tryd.prog 69 #[.string ⟨(b.take 3).toArray⟩, .string ⟨#[0]⟩] W fun e w' => e = .returned (.string ⟨(frontZ (b.take 3)).toArray⟩) ∧ w' = W) := fun W => Tryd.strings_TrimRight_one ⟨(b.take 3).toArray⟩ 0 (by decide) W (by show (b.take 3).toArray.size ≤ _; simp; omega)
  have HLG : Hid (langB b = if rightT b then frontZ (b.take 3) else []) := rfl
  have HLg := Lib.hid hl
  have H10 := Lib.hid hb
  clear hb hmx hl hlg
  go_enter Tryd.func56, Tryd.ntmps56
  go_upto_region 5 with fail
  rw [show (Obj.cells #[Value.nilFunc, Value.int IntKind.u8 0] 98) = Obj.cells zRule 98 from rfl]
  generalize (w.alloc (.cells (bC b) 29)).alloc (.cells zRule 98) = W1 at *
  go_upto_if 9 with (first
    | (with_reducible refine ld_T rfl _ rfl w.heap.size b H10.out rfl HG0.out ?_)
    | (go_at_call 17; (refine (HRi.out _ HL0.out.bel).mono ?_); rintro e w2 ⟨rfl, hb2⟩; have HL2 := Lib.hid (HL0.out.below hb2); have HG2 : Hid (w2.heap[w.heap.size]? = some (.cells (bC b) 29 (0, 0))) := (by (show _ = _; rw [hb2.block _ (lt_heap HG0.out)]; exact HG0.out)); clear hb2))
  go_cut [6] (fun s6 wx => s6 = .string ⟨lg.toArray⟩ ∧ Hid (LSt w wx))
  case first =>
    rw [HLG.out] at HLg
    have H10' := H10.out
    have hcv := conv_any w2 w.heap.size 0 3 3 (b.take 3) (by simp; omega) (by have := range_sub (range_whole (w := w2) (g := w.heap.size) (vs := (bC b).toList) (by simpa using HG2.out)) 0 3; simpa using this)
    clear H10'
    cases hr : rightT b
    · rw [hr] at HLg
      have HLe : Hid ([] = lg) := HLg.out
      go_wp2_with fail
      go_meet
      exact ⟨by rw [← HLe.out], HL2.out⟩
    · rw [hr] at HLg
      have HLe : Hid (frontZ (b.take 3) = lg) := HLg.out
      go_wp2_with (go_at_call 69; (refine (HTr.out _).mono ?_); rintro e w' ⟨rfl, rfl⟩)
      go_meet
      exact ⟨by rw [← HLe.out], HL2.out⟩
  case rest =>
    clear HL2 HG2 HLg HLG HRi HTr HL0 HG0
    obtain ⟨rfl, HL⟩ := hcut
    generalize (⟨lg.toArray⟩ : ByteArray) = sl at *
    have HL7 := Lib.hid (HL.out.below (below_alloc1 wc (.cells #[.func (.func 77) #[] #[]] 108)))
    have h7 : (wc.alloc (.cells #[.func (.func 77) #[] #[]] 108)).cell? ⟨wc.heap.size, 0, none⟩ = some (.func (.func 77) #[] #[]) := by rw [cell_blk (heap_alloc_new _ _)]; rfl
    go_wp2_with (first
      | (go_at_call 65; (refine (oneIf_any (.func (.func 78) #[] #[.pointer (some ⟨wc.heap.size, 0, none⟩)]) (.func (.func 79) #[] #[.pointer (some ⟨wc.heap.size, 0, none⟩)]) _ ⟨_, _, rfl⟩ ⟨_, _, rfl⟩).mono ?_); rintro e w2 ⟨rfl, hb2, hc1, hc2⟩; have HL2 := Lib.hid (HL7.out.below hb2); have HC1 := Lib.hid hc1; have HC2 := Lib.hid hc2; have HB2 := Lib.hid hb2; clear hb2 hc1 hc2)
      | (go_at_call 70; (refine (bits_cs w2.heap.size _ (heap_alloc_new _ _)).mono ?_); rintro e w' ⟨rfl, rfl⟩)
      | ((with_reducible refine gate_st 98 _ _ rfl ?_); refine wl_str rfl 98 _ _ rfl (w.heap.size + 1) #[.func (.func 66) #[] #[.pointer (some ⟨wc.heap.size + 1, 0, none⟩), .pointer (some ⟨wc.heap.size + 1 + 1, 0, none⟩)], .int .u8 42] zRule _ sizRule rfl (rule_one _ _ _ _) rfl rfl (HL2.out.below (below_alloc1 _ _)).r ?_))
    have hsz := lt_heap HL.out.r
    refine bodyPost_ret (res_rowc (P := Tryd.prog) (T := 98) (T' := 98) rfl _ _ (w.heap.size + 1) #[.func (.func 66) #[] #[.pointer (some ⟨wc.heap.size + 1, 0, none⟩), .pointer (some ⟨wc.heap.size + 1 + 1, 0, none⟩)], .int .u8 42] (0, 0) rfl (setRow_at (HL2.out.below (below_alloc1 _ _)).r) Tryd.underlying98 rfl sizRule) rfl ⟨setRow_below (HL2.out.below (below_alloc1 _ _)).bel (by omega) _, _, rfl, ⟨_, _, _, rfl, keepC (by have := HC1.out; simpa using this) (by omega), keepC (by have := HC2.out; simpa using this) (by omega), keepC ((cell_of (HB2.out.block _ (by simp)) _).trans h7) (by omega)⟩⟩
set_option maxRecDepth 100000 in
set_option maxHeartbeats 2000000 in
theorem rule_none (b lg : List UInt8) (w : World) (hb : b.length = 10) (hmx : MX w) (hl : langB b = lg) (hne : ∀ l ∈ langsL, ¬ lg = l) :
    Calls Tryd.prog 56 #[.agg (bC b)] w fun e w' => RulePost 0 w e w' := by
  obtain ⟨he0, hq0⟩ := eqlS2 ⟨lg.toArray⟩ [106, 97] false (decide_eq_false (hne [106, 97] (by simp [langsL])))
  obtain ⟨he1, hq1⟩ := eqlS2 ⟨lg.toArray⟩ [107, 111] false (decide_eq_false (hne [107, 111] (by simp [langsL])))
  obtain ⟨he2, hq2⟩ := eqlS2 ⟨lg.toArray⟩ [122, 104] false (decide_eq_false (hne [122, 104] (by simp [langsL])))
  obtain ⟨he3, hq3⟩ := eqlS2 ⟨lg.toArray⟩ [118, 105] false (decide_eq_false (hne [118, 105] (by simp [langsL])))
  obtain ⟨he4, hq4⟩ := eqlS2 ⟨lg.toArray⟩ [116, 104] false (decide_eq_false (hne [116, 104] (by simp [langsL])))
  obtain ⟨he5, hq5⟩ := eqlS2 ⟨lg.toArray⟩ [105, 100] false (decide_eq_false (hne [105, 100] (by simp [langsL])))
  obtain ⟨he6, hq6⟩ := eqlS2 ⟨lg.toArray⟩ [102, 114] false (decide_eq_false (hne [102, 114] (by simp [langsL])))
  obtain ⟨he7, hq7⟩ := eqlS2 ⟨lg.toArray⟩ [112, 116] false (decide_eq_false (hne [112, 116] (by simp [langsL])))
  obtain ⟨he8, hq8⟩ := eqlS2 ⟨lg.toArray⟩ [114, 117] false (decide_eq_false (hne [114, 117] (by simp [langsL])))
  obtain ⟨he9, hq9⟩ := eqlS2 ⟨lg.toArray⟩ [117, 107] false (decide_eq_false (hne [117, 107] (by simp [langsL])))
  obtain ⟨he10, hq10⟩ := eqlS2 ⟨lg.toArray⟩ [115, 114] false (decide_eq_false (hne [115, 114] (by simp [langsL])))
  obtain ⟨he11, hq11⟩ := eqlS2 ⟨lg.toArray⟩ [112, 108] false (decide_eq_false (hne [112, 108] (by simp [langsL])))
  obtain ⟨he12, hq12⟩ := eqlS2 ⟨lg.toArray⟩ [99, 115] false (decide_eq_false (hne [99, 115] (by simp [langsL])))
  obtain ⟨he13, hq13⟩ := eqlS2 ⟨lg.toArray⟩ [115, 107] false (decide_eq_false (hne [115, 107] (by simp [langsL])))
  obtain ⟨he14, hq14⟩ := eqlS2 ⟨lg.toArray⟩ [97, 114] false (decide_eq_false (hne [97, 114] (by simp [langsL])))
  obtain ⟨he15, hq15⟩ := eqlS2 ⟨lg.toArray⟩ [108, 116] false (decide_eq_false (hne [108, 116] (by simp [langsL])))
  have HG0 : Hid (((w.alloc (.cells (bC b) 29)).alloc (.cells zRule 98)).heap[w.heap.size]? = some (.cells (bC b) 29 (0, 0))) := heap_alloc2_old _ _ _
  have HL0 : Hid (LSt w ((w.alloc (.cells (bC b) 29)).alloc (.cells zRule 98))) := ⟨below_alloc2 _ _ _, heap_alloc2_new _ _ _⟩
  have HRi : Hid (∀ W, Below w.heap.size w W → Calls Tryd.prog 17 #[.agg (bC b)] W fun e w' => e = .returned (.bool (rightT b)) ∧ Below W.heap.size W w') := fun W hW => right_any5 b W hb (hmx.below hW)
  have HTr : Hid (∀ W, Calls Tryd.prog 69 #[.string ⟨(b.take 3).toArray⟩, .string ⟨#[0]⟩] W fun e w' => e = .returned (.string ⟨(frontZ (b.take 3)).toArray⟩) ∧ w' = W) := fun W => Tryd.strings_TrimRight_one ⟨(b.take 3).toArray⟩ 0 (by decide) W (by show (b.take 3).toArray.size ≤ _; simp; omega)
  have HLG : Hid (langB b = if rightT b then frontZ (b.take 3) else []) := rfl
  have HLg := Lib.hid hl
  have H10 := Lib.hid hb
  clear hb hmx hl hne
  go_enter Tryd.func56, Tryd.ntmps56
  go_upto_region 5 with fail
  rw [show (Obj.cells #[Value.nilFunc, Value.int IntKind.u8 0] 98) = Obj.cells zRule 98 from rfl]
  generalize (w.alloc (.cells (bC b) 29)).alloc (.cells zRule 98) = W1 at *
  go_upto_if 9 with (first
    | (with_reducible refine ld_T rfl _ rfl w.heap.size b H10.out rfl HG0.out ?_)
    | (go_at_call 17; (refine (HRi.out _ HL0.out.bel).mono ?_); rintro e w2 ⟨rfl, hb2⟩; have HL2 := Lib.hid (HL0.out.below hb2); have HG2 : Hid (w2.heap[w.heap.size]? = some (.cells (bC b) 29 (0, 0))) := (by (show _ = _; rw [hb2.block _ (lt_heap HG0.out)]; exact HG0.out)); clear hb2))
  go_cut [6] (fun s6 wx => s6 = .string ⟨lg.toArray⟩ ∧ Hid (LSt w wx))
  case first =>
    rw [HLG.out] at HLg
    have H10' := H10.out
    have hcv := conv_any w2 w.heap.size 0 3 3 (b.take 3) (by simp; omega) (by have := range_sub (range_whole (w := w2) (g := w.heap.size) (vs := (bC b).toList) (by simpa using HG2.out)) 0 3; simpa using this)
    clear H10'
    cases hr : rightT b
    · rw [hr] at HLg
      have HLe : Hid ([] = lg) := HLg.out
      go_wp2_with fail
      go_meet
      exact ⟨by rw [← HLe.out], HL2.out⟩
    · rw [hr] at HLg
      have HLe : Hid (frontZ (b.take 3) = lg) := HLg.out
      go_wp2_with (go_at_call 69; (refine (HTr.out _).mono ?_); rintro e w' ⟨rfl, rfl⟩)
      go_meet
      exact ⟨by rw [← HLe.out], HL2.out⟩
  case rest =>
    clear HL2 HG2 HLg HLG HRi HTr HL0 HG0
    obtain ⟨rfl, HL⟩ := hcut
    generalize (⟨lg.toArray⟩ : ByteArray) = sl at *
    go_wp2_with (first
      | (go_at_call 65; (refine (oneIf_any (.func (.func 68) #[] #[]) (.func (.func 67) #[] #[]) _ ⟨_, _, rfl⟩ ⟨_, _, rfl⟩).mono ?_); rintro e w2 ⟨rfl, hb2, hc1, hc2⟩; have HL2 := Lib.hid (HL.out.below hb2); have HC1 := Lib.hid hc1; have HC2 := Lib.hid hc2; have HB2 := Lib.hid hb2; clear hb2 hc1 hc2)
      | (go_at_call 70; (refine (bits_fr w2.heap.size _ (heap_alloc_new _ _)).mono ?_); rintro e w' ⟨rfl, rfl⟩)
      | ((with_reducible refine gate_st 98 _ _ rfl ?_); refine wl_str rfl 98 _ _ rfl (w.heap.size + 1) #[.func (.func 66) #[] #[.pointer (some ⟨wc.heap.size, 0, none⟩), .pointer (some ⟨wc.heap.size + 1, 0, none⟩)], .int .u8 34] zRule _ sizRule rfl (rule_one _ _ _ _) rfl rfl (HL2.out.below (below_alloc1 _ _)).r ?_))
    have hsz := lt_heap HL.out.r
    refine bodyPost_ret (res_rowc (P := Tryd.prog) (T := 98) (T' := 98) rfl _ _ (w.heap.size + 1) #[.func (.func 66) #[] #[.pointer (some ⟨wc.heap.size, 0, none⟩), .pointer (some ⟨wc.heap.size + 1, 0, none⟩)], .int .u8 34] (0, 0) rfl (setRow_at (HL2.out.below (below_alloc1 _ _)).r) Tryd.underlying98 rfl sizRule) rfl ⟨setRow_below (HL2.out.below (below_alloc1 _ _)).bel (by omega) _, _, rfl, ⟨_, _, rfl, keepC HC1.out (by omega), keepC HC2.out (by omega)⟩⟩
/-- A language's group. -/
def grpL (l : List UInt8) : Nat := if l = [106, 97] then 1 else if l = [107, 111] then 1 else if l = [122, 104] then 1 else if l = [118, 105] then 1 else if l = [116, 104] then 1 else if l = [105, 100] then 1 else if l = [102, 114] then 2 else if l = [112, 116] then 2 else if l = [114, 117] then 3 else if l = [117, 107] then 3 else if l = [115, 114] then 3 else if l = [112, 108] then 4 else if l = [99, 115] then 5 else if l = [115, 107] then 5 else if l = [97, 114] then 6 else if l = [108, 116] then 7 else 0
theorem rule_any (b : List UInt8) (w : World) (hb : b.length = 10) (hmx : MX w) : Calls Tryd.prog 56 #[.agg (bC b)] w fun e w' => RulePost (grpL (langB b)) w e w' := by
  unfold grpL
  by_cases h0 : langB b = [106, 97]
  · rw [if_pos h0]; exact rule_ja b _ w hb hmx rfl h0
  rw [if_neg h0]
  by_cases h1 : langB b = [107, 111]
  · rw [if_pos h1]; exact rule_ko b _ w hb hmx rfl h1
  rw [if_neg h1]
  by_cases h2 : langB b = [122, 104]
  · rw [if_pos h2]; exact rule_zh b _ w hb hmx rfl h2
  rw [if_neg h2]
  by_cases h3 : langB b = [118, 105]
  · rw [if_pos h3]; exact rule_vi b _ w hb hmx rfl h3
  rw [if_neg h3]
  by_cases h4 : langB b = [116, 104]
  · rw [if_pos h4]; exact rule_th b _ w hb hmx rfl h4
  rw [if_neg h4]
  by_cases h5 : langB b = [105, 100]
  · rw [if_pos h5]; exact rule_id b _ w hb hmx rfl h5
  rw [if_neg h5]
  by_cases h6 : langB b = [102, 114]
  · rw [if_pos h6]; exact rule_fr b _ w hb hmx rfl h6
  rw [if_neg h6]
  by_cases h7 : langB b = [112, 116]
  · rw [if_pos h7]; exact rule_pt b _ w hb hmx rfl h7
  rw [if_neg h7]
  by_cases h8 : langB b = [114, 117]
  · rw [if_pos h8]; exact rule_ru b _ w hb hmx rfl h8
  rw [if_neg h8]
  by_cases h9 : langB b = [117, 107]
  · rw [if_pos h9]; exact rule_uk b _ w hb hmx rfl h9
  rw [if_neg h9]
  by_cases h10 : langB b = [115, 114]
  · rw [if_pos h10]; exact rule_sr b _ w hb hmx rfl h10
  rw [if_neg h10]
  by_cases h11 : langB b = [112, 108]
  · rw [if_pos h11]; exact rule_pl b _ w hb hmx rfl h11
  rw [if_neg h11]
  by_cases h12 : langB b = [99, 115]
  · rw [if_pos h12]; exact rule_cs b _ w hb hmx rfl h12
  rw [if_neg h12]
  by_cases h13 : langB b = [115, 107]
  · rw [if_pos h13]; exact rule_sk b _ w hb hmx rfl h13
  rw [if_neg h13]
  by_cases h14 : langB b = [97, 114]
  · rw [if_pos h14]; exact rule_ar b _ w hb hmx rfl h14
  rw [if_neg h14]
  by_cases h15 : langB b = [108, 116]
  · rw [if_pos h15]; exact rule_lt b _ w hb hmx rfl h15
  rw [if_neg h15]
  exact rule_none b _ w hb hmx rfl (fun l hl => by
    simp only [langsL, List.mem_cons, List.mem_nil_iff, or_false] at hl
    rcases hl with rfl | rfl | rfl | rfl | rfl | rfl | rfl | rfl | rfl | rfl | rfl | rfl | rfl | rfl | rfl | rfl <;> assumption)
end Go.Proofs.YtnambaiafailaaaDoor
