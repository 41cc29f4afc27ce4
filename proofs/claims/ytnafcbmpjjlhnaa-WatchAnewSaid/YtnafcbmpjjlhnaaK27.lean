/- The chapter's example. -/
import Derived.Test.YtnafcbmpjjlhnaaK26
namespace Go.Proofs.Ytnafcbmpjjlhnaa
open Go.RowKit

def ka : List UInt8 := [1, 0, 0, 0, 0, 0, 0, 0, 0, 0, 0, 0, 0, 0, 0, 0, 0, 0, 0, 0, 0, 0, 0, 0, 0]
def kb : List UInt8 := [1, 1, 0, 0, 0, 0, 0, 0, 0, 0, 0, 0, 0, 0, 0, 0, 0, 0, 0, 0, 0, 0, 0, 0, 0]
def wA : Wr := ⟨ka, true, wr0.rest, rfl, rfl, rfl⟩
def wB : Wr := ⟨kb, false, wr0.rest, rfl, rfl, rfl⟩
theorem builtA : Try.prog.built 30 [(0, .int .u8 1)] = some (bC ka) := by kernel_rfl
theorem builtB : Try.prog.built 30 [(0, .int .u8 1), (1, .int .u8 1)] = some (bC kb) := by kernel_rfl
theorem builtPA : Try.prog.built 32 [(0, .agg (bC ka)), (1, .int .i64 2)] = some (pC ka 2).toArray := by kernel_rfl
theorem builtWA : Try.prog.built 58 [(0, .agg (bC ka)), (1, .bool true)] = some (wrC wA).toArray := by kernel_rfl
theorem builtWB : Try.prog.built 58 [(0, .agg (bC kb))] = some (wrC wB).toArray := by kernel_rfl
def eA : Ev := ⟨4, ka, true, false, rfl⟩
theorem builtEA : Try.prog.built 52 [(0, .int .u64 4), (1, .agg (bC ka)), (2, .bool true)] = some (evC eA).toArray := by kernel_rfl
def x0 : Wt := ⟨ka, 2, 3, [], false, rfl⟩
theorem srt_ab : srt [wB, wA] = [wA, wB] := by kernel_rfl
theorem pub_ab : (pubP x0 4 [wA, wB]).2 = 1 ∧ (pubP x0 4 [wA, wB]).1 = ⟨ka, 2, 3, [eA], false, rfl⟩ := ⟨by kernel_rfl, by kernel_rfl⟩
def k25 : Array Value := #[Value.int IntKind.u8 0, Value.int IntKind.u8 0, Value.int IntKind.u8 0, Value.int IntKind.u8 0, Value.int IntKind.u8 0, Value.int IntKind.u8 0, Value.int IntKind.u8 0, Value.int IntKind.u8 0, Value.int IntKind.u8 0, Value.int IntKind.u8 0, Value.int IntKind.u8 0, Value.int IntKind.u8 0, Value.int IntKind.u8 0, Value.int IntKind.u8 0, Value.int IntKind.u8 0, Value.int IntKind.u8 0, Value.int IntKind.u8 0, Value.int IntKind.u8 0, Value.int IntKind.u8 0, Value.int IntKind.u8 0, Value.int IntKind.u8 0, Value.int IntKind.u8 0, Value.int IntKind.u8 0, Value.int IntKind.u8 0, Value.int IntKind.u8 0]
def two (w : World) : World := (w.alloc (.cells k25 30)).alloc (.cells k25 30)
theorem two_a (w : World) : (two w).heap[w.heap.size]? = some (.cells k25 30 (0, 0)) := (heap_alloc_old _ _ (by simp)).trans (heap_alloc_new _ _)
theorem two_b (w : World) : (two w).heap[w.heap.size + 1]? = some (.cells k25 30 (0, 0)) := by
  have := heap_alloc_new (w.alloc (.cells k25 30)) (.cells k25 30)
  simpa [two] using this
theorem wl_strG {P : Program} {ops : Array Oper} {rest : List Oper} {o : Oper} {a : Act} {w : World} {Q : Exit → Act → World → Prop} (hgd : o.guard = none) (T : TypeId) (x y : Operand) (ho : o.op = .store T x y) (g : Nat) (cs old : Array Value) (T' : TypeId)
    (hi : (P.info? T).map (·.size) = some cs.size) (hs : cs.size = old.size) (h1 : cs.all (·.oneCell') = true) (hx : a.eval x = .pointer (some ⟨g, 0, none⟩)) (hy : a.eval y = .agg cs) (hg : w.heap[g]? = some (.cells old T' (0, 0)))
    (h : ∀ w', w'.heap[g]? = some (.cells cs T' (0, 0)) → Turn [g] w w' → wpList P ops Q rest (a.put o.dst undef) w') : wpList P ops Q (o :: rest) a w :=
  wpList_store_row hgd T x y ho g cs hx hy T' old hg hi hs.symm h1 (h _ (setRow_at hg) ⟨rfl, rfl, rfl, by simp, fun b _ hr => setRow_other _ _ _ _ (by simpa using hr)⟩)
theorem wl_bs2 {P : Program} {α : Type} {enc : α → List Value} {k : Nat} {ops : Array Oper} {rest : List Oper} {o : Oper} {a : Act} {w : World} {Q : Exit → Act → World → Prop} (T E : TypeId) (bytes : Nat) (z : Value) (hT : P.underlying T = some (.slice E)) (hinf : (P.info? E).map (fun i => (i.zero, i.size, i.bytes)) = some (some z, k, bytes)) (hk0 : 0 < k) (hk2 : k ≤ 1000000) (hk : ∀ x, (enc x).length = k)
    (hw : Region.wanted o (yielded ops a.tmps) = true) (x x' : Operand) (ho : o.op = .buildSlice T 2 #[(0, x), (1, x')]) (y y' : α) (hx : a.eval x = .agg (enc y).toArray) (hx' : a.eval x' = .agg (enc y').toArray)
    (h : wpList P ops Q rest (a.put o.dst (.slice (some ⟨w.heap.size, 0, none⟩) 2 2)) (w.alloc (.cells (enc y ++ enc y').toArray E))) : wpList P ops Q (o :: rest) a w :=
  wpList_step fun _ hK => by
    rw [if_pos hw]
    obtain ⟨ie, hie, hz, hsz, hby⟩ := info_parts hinf
    have hb := run_buildSlice (P := P) w T E 2 #[(0, .agg (enc y).toArray), (1, .agg (enc y').toArray)] (enc y ++ enc y').toArray ie z hT hie hz (by rw [hsz]; omega) (by rw [hsz]; omega) (by
      rw [hsz]
      have := Great.fill_whole (s := k) hk0 [.agg (enc y).toArray, .agg (enc y').toArray] ((Array.range (2 * k)).map (z.cells[· % z.cells.size]!)) (fun v hv => by
        simp at hv
        rcases hv with rfl | rfl
        · show (enc y).toArray.size = k; simp [hk]
        · show (enc y').toArray.size = k; simp [hk]) (by simp)
      simp only [List.zipIdx_cons, List.zipIdx_nil, List.map_cons, List.map_nil] at this
      rw [this]
      simp [Value.cells])
    unfold Oper.wp execOp
    have hp : (#[(0, x), (1, x')].map fun (p : Nat × Operand) => (p.1, a.eval p.2)) = #[(0, Value.agg (enc y).toArray), (1, Value.agg (enc y').toArray)] := by simp [hx, hx']
    simp only [ho, Sem.run_bind, hp, hb, Result.andThen_ok]
    exact hK _ _ h
set_option maxRecDepth 100000 in
set_option maxHeartbeats 8000000 in
theorem known_any (w : World) : Calls Try.prog 6 #[] w fun e w' => e = .returned (.bool true) ∧ Below w.heap.size w w' := by
  go_enter Try.func6, Try.ntmps6
  go_upto_region 2 with fail
  rw [show (Obj.cells #[Value.pointer none, Value.pointer none, Value.pointer none, Value.pointer none, Value.pointer none, Value.pointer none, Value.pointer none, Value.pointer none] 37) = Obj.cells rg0.toArray 37 from rfl]
  have HB1 := Lib.hid (below_alloc1 w (.cells rg0.toArray 37))
  have HG1 : Hid ((w.alloc (.cells rg0.toArray 37)).heap[w.heap.size]? = some (.cells rg0.toArray 37 (0, 0))) := heap_alloc_new _ _
  generalize w.alloc (.cells rg0.toArray 37) = W1 at *
  go_upto_region 3 with (first
    | ((with_reducible refine gate_bd 30 _ rfl ?_); refine wl_bd rfl _ [(0, .const (.int .u8 1))] rfl [(0, .int .u8 1)] rfl (bC ka) builtA ?_) | ((with_reducible refine gate_bd 30 _ rfl ?_); refine wl_bd rfl _ [(0, .const (.int .u8 1)), (1, .const (.int .u8 1))] rfl [(0, .int .u8 1), (1, .int .u8 1)] rfl (bC kb) builtB ?_)
    | ((with_reducible refine gate_st 30 (.tmp 2) _ rfl ?_); refine wl_strG rfl 30 _ _ rfl W1.heap.size (bC ka) k25 30 (by kernel_rfl) rfl (by kernel_rfl) rfl rfl (two_a W1) (fun W2 h1 h2 => ?_); have HA2 := Lib.hid h1; have HT2 : Hid (Turn [W1.heap.size] (two W1) W2) := h2; have HZ2 : Hid (W2.heap[W1.heap.size + 1]? = some (.cells k25 30 (0, 0))) := (HT2.out.block _ (by simp [two]) (by simp)).trans (two_b W1); clear h1 h2)
    | ((with_reducible refine gate_st 30 (.tmp 3) _ rfl ?_); refine wl_strG rfl 30 _ _ rfl (W1.heap.size + 1) (bC kb) k25 30 (by kernel_rfl) rfl (by kernel_rfl) rfl rfl HZ2.out (fun W3 h1 h2 => ?_); have HB3 := Lib.hid h1; have HT3 : Hid (Turn [W1.heap.size + 1] W2 W3) := h2; clear h1 h2))
  have HS3 : Hid (W1.heap.size + 2 ≤ W3.heap.size) := by have h1 := HT3.out.size; have h2 := HT2.out.size; simp [two] at h2; show _ ≤ _; omega
  have HT13 : Hid (Turn [W1.heap.size, W1.heap.size + 1] W1 W3) := ((Turn.alloc _ _ _).trans (Turn.alloc _ _ _)).trans ((HT2.out.mono (fun k _ hk => by simp at hk; simp [hk])).trans (HT3.out.mono (fun k _ hk => by simp at hk; simp [hk])))
  have HA3 : Hid (W3.heap[W1.heap.size]? = some (.cells (bC ka) 30 (0, 0))) := (HT3.out.block _ (lt_heap HA2.out) (by simp)).trans HA2.out
  have HG3 : Hid (W3.heap[w.heap.size]? = some (.cells rg0.toArray 37 (0, 0))) := (HT13.out.block _ (lt_heap HG1.out) (by have := lt_heap HG1.out; simp; omega)).trans HG1.out
  have HB13 : Hid (Below w.heap.size w W3) := HB1.out.trans (HT13.out.below (fun k hk => by have := lt_heap HG1.out; simp at hk; omega) HB1.out.size)
  have HBA : Hid (w.heap.size < W1.heap.size) := lt_heap HG1.out
  clear HA2 HT2 HZ2 HT3 HT13 HB1 HG1
  obtain ⟨ba, hba⟩ : ∃ b, b = W1.heap.size := ⟨_, rfl⟩
  rw [← hba] at HA3 HS3 HB3 HBA ⊢
  clear hba
  obtain ⟨g, hg⟩ : ∃ g, g = w.heap.size := ⟨_, rfl⟩
  rw [← hg] at HG3 ⊢
  have HGw := Lib.hid hg
  clear hg
  have KW := Lib.hid (watch_any g 2 (by omega) ka rfl 2 3 W3 HG3.out rfl)
  have HAr := Lib.hid (range_whole (vs := (bC ka).toList) HA3.out)
  go_upto_region 4 with (first
    | ((with_reducible refine gate_ld 30 (.tmp 2) rfl ?_); refine wl_ldr rfl 30 _ rfl ba 0 (bC ka).toList _ Try.underlying30 rfl (by rw [sizKey]; rfl) rfl HAr.out ?_)
    | ((with_reducible refine gate_bd 32 _ rfl ?_); refine wl_bd rfl _ [(0, .tmp 10), (1, .const (.int .i64 2))] rfl [(0, .agg (bC ka)), (1, .int .i64 2)] rfl (pC ka 2).toArray builtPA ?_)
    | (go_at_call 5; (refine KW.out.mono ?_); rintro e W4 ⟨rfl, hp4, hg4, ht4⟩; have HP4 := Lib.hid hp4; have HG4 := Lib.hid hg4; have HT4 := Lib.hid ht4; clear hp4 hg4 ht4))
  have hgb : g < ba := HGw.out ▸ HBA.out
  have HA4 : Hid (W4.heap[ba]? = some (.cells (bC ka) 30 (0, 0))) := (HT4.out.block _ (lt_heap HA3.out) (by simp; omega)).trans HA3.out
  have HB4 : Hid (W4.heap[ba + 1]? = some (.cells (bC kb) 30 (0, 0))) := (HT4.out.block _ (lt_heap HB3.out) (by simp; omega)).trans HB3.out
  have HW4 : Hid (WtAt w.heap.size W4 (W3.heap.size + 1) x0 (.slice none 0 0)) := ⟨HP4.out, OwnE.nil _ _, by have := HB13.out.size; omega⟩
  have HB14 : Hid (Below w.heap.size w W4) := HB13.out.trans (HT4.out.below (fun k hk => by have := HGw.out; simp at hk; omega) HB13.out.size)
  obtain ⟨p, hp⟩ : ∃ p, p = W3.heap.size + 1 := ⟨_, rfl⟩
  rw [← hp] at HW4 HG4
  have hps : p < W4.heap.size := lt_heap HW4.out.blk
  clear HA3 HB3 HS3 HG3 HB13 HAr KW HP4 HT4 hp HBA
  have HAr := Lib.hid (range_whole (vs := (bC ka).toList) HA4.out)
  have HBr := Lib.hid (range_whole (vs := (bC kb).toList) HB4.out)
  obtain ⟨W5, hW5⟩ : ∃ W5, W5 = W4.alloc (.cells (wrC wB ++ wrC wA).toArray 58) := ⟨_, rfl⟩
  have HN5 : Hid (W5.heap[W4.heap.size]? = some (.cells (wrC wB ++ wrC wA).toArray 58 (0, 0))) := by rw [hW5]; exact heap_alloc_new _ _
  have HB5 : Hid (Below W4.heap.size W4 W5) := by rw [hW5]; exact below_alloc1 _ _
  have HS5 : Hid (SlAt wrC 35 W5 (some ⟨W4.heap.size, 0, none⟩) [wB, wA]) := fun i hi => ⟨W4.heap.size, 0, rfl, lt_heap HN5.out, range_nth wrC_len (xs := [wB, wA]) (by simpa using range_whole HN5.out) i hi⟩
  have KP := Lib.hid (publish_any w.heap.size g 2 p (by omega) x0 (.slice none 0 0) 4 (some ⟨W4.heap.size, 0, none⟩) 2 2 [wB, wA] W5 ((HB5.out.block _ (lt_heap HG4.out)).trans HG4.out) (HW4.out.below HB5.out) (by have := HB14.out.size; have := HB5.out.size; omega) rfl HS5.out (fun e => by cases e) (by omega) (by decide))
  rw [srt_ab, pub_ab.1, pub_ab.2] at KP
  have HW5 := Lib.hid hW5
  clear hW5
  go_upto_region 5 with (first
    | ((with_reducible refine gate_ld 30 (.tmp 2) rfl ?_); refine wl_ldr rfl 30 _ rfl ba 0 (bC ka).toList _ Try.underlying30 rfl (by rw [sizKey]; rfl) rfl HAr.out ?_)
    | ((with_reducible refine gate_ld 30 (.tmp 3) rfl ?_); refine wl_ldr rfl 30 _ rfl (ba + 1) 0 (bC kb).toList _ Try.underlying30 rfl (by rw [sizKey]; rfl) rfl HBr.out ?_)
    | ((with_reducible refine gate_bd 58 _ rfl ?_); refine wl_bd rfl _ [(0, .tmp 13)] rfl [(0, .agg (bC kb))] rfl (wrC wB).toArray builtWB ?_)
    | ((with_reducible refine gate_bd 58 _ rfl ?_); refine wl_bd rfl _ [(0, .tmp 15), (1, .const (.bool true))] rfl [(0, .agg (bC ka)), (1, .bool true)] rfl (wrC wA).toArray builtWA ?_)
    | (refine wl_bs2 (k := 35) 42 58 72 (.agg (wrC wr0).toArray) Try.underlying42 infoW (by omega) (by omega) wrC_len rfl (.tmp 14) (.tmp 16) rfl wB wA rfl rfl ?_; rw [← HW5.out])
    | (go_at_call 7; (refine KP.out.mono ?_); rintro e W6 ⟨rfl, q6, hx6, ht6, _⟩; have HX6 := Lib.hid hx6; have HT6 := Lib.hid ht6; clear hx6 ht6))
  have HT6' : Hid (Turn [p] W5 W6) := HT6.out
  have hpg : p ≠ g := fun e => by
    have h1 := HW4.out.blk
    rw [e, HG4.out] at h1
    simp only [Option.some.injEq, Obj.cells.injEq] at h1
    exact absurd h1.2.1 (by decide)
  have hpa : p ≠ ba := fun e => by
    have h1 := HW4.out.blk
    rw [e, HA4.out] at h1
    simp only [Option.some.injEq, Obj.cells.injEq] at h1
    exact absurd h1.2.1 (by decide)
  have HG6 : Hid (W6.heap[g]? = some (.cells (rgC 2 (.pointer (some ⟨p, 0, none⟩))).toArray 37 (0, 0))) := (HT6'.out.block _ (Nat.lt_of_lt_of_le (lt_heap HG4.out) HB5.out.size) (by simp; omega)).trans ((HB5.out.block _ (lt_heap HG4.out)).trans HG4.out)
  have HA6 : Hid (W6.heap[ba]? = some (.cells (bC ka) 30 (0, 0))) := (HT6'.out.block _ (Nat.lt_of_lt_of_le (lt_heap HA4.out) HB5.out.size) (by simp; omega)).trans ((HB5.out.block _ (lt_heap HA4.out)).trans HA4.out)
  have HB16 : Hid (Below w.heap.size w W6) := HB14.out.trans ((HB5.out.mono HB14.out.size).trans (HT6'.out.below (fun k hk => by have := HW4.out.low; simp at hk; omega) (by have := HB14.out.size; have := HB5.out.size; omega)))
  have KD := Lib.hid (drain_any w.heap.size g 2 p (by omega) _ q6 W6 (by rw [cell_blk HG6.out]; rfl) HX6.out 5 (by decide) (by decide))
  clear KP HS5 HN5 HAr HBr HG4 HA4 HB4 HW4 HB14 HT6 HW5 HB5
  go_upto_region 6 with (first
    | (go_at_call 10; (refine KD.out.mono ?_); rintro e W7 ⟨q7, c7, rfl, _, hs7, ht7, _⟩; have HS7 := Lib.hid hs7; have HT7 := Lib.hid ht7; clear hs7 ht7))
  have HA7 : Hid (W7.heap[ba]? = some (.cells (bC ka) 30 (0, 0))) := (HT7.out.block _ (lt_heap HA6.out) (by simp; omega)).trans HA6.out
  have HAr := Lib.hid (range_whole (vs := (bC ka).toList) HA7.out)
  obtain ⟨b7, o7, rfl, hb7, hr7⟩ := HS7.out 0 (by decide)
  have HR7 : Hid (W7.rangeAt b7 o7 (evC eA)) := by show W7.rangeAt _ _ _; simpa using hr7
  have HB17 : Hid (Below w.heap.size w W7) := HB16.out.trans (HT7.out.below (fun k hk => by have := HX6.out.low; simp at hk; omega) HB16.out.size)
  clear KD HS7 HT7 HA6 HG6 HX6 HB16 HT6' hr7
  refine wp_region_quiet_below (by kernel_rfl) (by kernel_rfl) ?_
  repeat (first
    | (refine wq_ldr rfl 30 (.tmp 2) rfl ba 0 (bC ka).toList _ Try.underlying30 rfl (by rw [sizKey]; rfl) rfl HAr.out (lt_heap HA7.out) ?_; simp only [Act.put, List.setIfInBounds_toArray, List.set_cons_zero, List.set_cons_succ])
    | (refine wq_ldr rfl 52 (.tmp 36) rfl b7 o7 (evC eA) _ Try.underlying52 rfl (by rw [sizEv]; rfl) rfl HR7.out hb7 ?_; simp only [Act.put, List.setIfInBounds_toArray, List.set_cons_zero, List.set_cons_succ])
    | (refine wq_bd _ rfl 52 [(0, .const (.int .u64 4)), (1, .tmp 38), (2, .const (.bool true))] rfl [(0, .int .u64 4), (1, .agg (bC ka)), (2, .bool true)] rfl (evC eA).toArray builtEA ?_; simp only [Act.put, List.setIfInBounds_toArray, List.set_cons_zero, List.set_cons_succ])
    | (refine wq_val (.bool true) rfl (fun w => exec_eqlEv w (.tmp 37) (.tmp 39) rfl eA rfl rfl) ?_; simp only [Act.put, List.setIfInBounds_toArray, List.set_cons_zero, List.set_cons_succ])
    | go_big_quiet_step (fail))
  refine wpQuiet_nil ?_
  rintro _ ⟨⟨dq, osq⟩, rfl⟩
  have HB18 := Lib.hid (HB17.out.trans ((below_regrown W7 dq osq).mono HB17.out.size))
  go_wp2_with fail
  go_ret
  exact ⟨rfl, HB18.out⟩
end Go.Proofs.Ytnafcbmpjjlhnaa
