/- Len, Has at a set; Add at a set that has its map; Add at one that has none. -/
import Derived.Test.YtbflliiaigkmgaaS2
namespace Go.Proofs.Ytbflliiaigkmgaa
open Go.RowKit

/-- One name more: what Add makes of what is held. -/
def add1 (ks : List (List UInt8)) (n : List UInt8) : List (List UInt8) := if rightB n && !inL ks n && decide (ks.length < 64) then ks ++ [n] else ks
def addL (ks ns : List (List UInt8)) : List (List UInt8) := ns.foldl add1 ks
theorem addL_snoc (ks ns : List (List UInt8)) (k : Nat) (h : k < ns.length) : addL ks (ns.take (k + 1)) = add1 (addL ks (ns.take k)) ns[k] := by
  unfold addL
  rw [List.take_succ_eq_append_getElem h, List.foldl_append]; rfl
theorem add1_le (ks : List (List UInt8)) (n : List UInt8) : ks.length ≤ (add1 ks n).length ∧ (add1 ks n).length ≤ ks.length + 1 := by
  unfold add1; split <;> simp
theorem addL_le (ks : List (List UInt8)) : ∀ (ns : List (List UInt8)), ks.length ≤ (addL ks ns).length ∧ (addL ks ns).length ≤ ks.length + ns.length := by
  intro ns
  induction ns generalizing ks with
  | nil => simp [addL]
  | cons n ns ih =>
    have h1 := add1_le ks n
    have h2 := ih (add1 ks n)
    have e : addL ks (n :: ns) = addL (add1 ks n) ns := rfl
    rw [e]
    simp only [List.length_cons]
    omega

/-- The blocks of S alone may have turned; blocks may have been laid. -/
structure Turn (S : List Nat) (w w' : World) : Prop where
  os : w'.os = w.os
  tape : w'.tape = w.tape
  output : w'.output = w.output
  size : w.heap.size ≤ w'.heap.size
  block : ∀ k, k < w.heap.size → k ∉ S → w'.heap[k]? = w.heap[k]?
theorem Turn.refl (S : List Nat) (w : World) : Turn S w w := ⟨rfl, rfl, rfl, Nat.le_refl _, fun _ _ _ => rfl⟩
theorem Turn.trans {S : List Nat} {a b c : World} (h : Turn S a b) (k : Turn S b c) : Turn S a c :=
  ⟨k.os.trans h.os, k.tape.trans h.tape, k.output.trans h.output, Nat.le_trans h.size k.size, fun i hi hr => (k.block i (by have := h.size; omega) hr).trans (h.block i hi hr)⟩
theorem Turn.mono {S T : List Nat} {w w' : World} (h : Turn S w w') (hs : ∀ k, k < w.heap.size → k ∈ S → k ∈ T) : Turn T w w' :=
  ⟨h.os, h.tape, h.output, h.size, fun k hk ht => h.block k hk fun hm => ht (hs k hk hm)⟩
theorem Turn.of_below {S : List Nat} {w w' : World} (h : Below w.heap.size w w') : Turn S w w' := ⟨h.os, h.tape, h.output, h.size, fun k hk _ => h.block k hk⟩
theorem Turn.put (r : Nat) (w : World) (o : Obj) : Turn [r] w (putO w r o) := ⟨rfl, rfl, rfl, by rw [putO_size]; exact Nat.le_refl _, fun k _ hr => putO_other w r k o (by simpa using hr)⟩
theorem Turn.below {S : List Nat} {B : Nat} {w w' : World} (h : Turn S w w') (hS : ∀ k ∈ S, B ≤ k) (hB : B ≤ w.heap.size) : Below B w w' :=
  ⟨h.os, h.tape, h.output, h.size, fun k hk => h.block k (by omega) (fun hm => by have := hS k hm; omega)⟩
theorem Turn.drew (S : List Nat) (w : World) : Turn S w { w with drawn := w.drawn + 1 } := ⟨rfl, rfl, rfl, Nat.le_refl _, fun _ _ _ => rfl⟩

theorem HeldIs.size {w : World} {r : Nat} {ks : List (List UInt8)} (h : HeldIs w r ks) : ∃ l c, w.heap[r]? = some (mObj l c) ∧ l.length = ks.length := by
  obtain ⟨l, c, h1, rfl, _⟩ := h
  exact ⟨l, c, h1, by simp⟩

theorem wl_len37 {ops : Array Oper} {rest : List Oper} {o : Oper} {a : Act} {w : World} {Q : Exit → Act → World → Prop} (hw : Region.wanted o (yielded ops a.tmps) = true) (x : Operand)
    (ho : o.op = .call { callee := .builtin .len, args := #[x], argTypes := #[37] }) (r : Nat) (hx : a.eval x = .map (some r)) (ks : List (List UInt8)) (hs : HeldIs w r ks)
    (h : wpList Try.prog ops Q rest (a.put o.dst (.int .i64 (ks.length : Nat))) w) : wpList Try.prog ops Q (o :: rest) a w :=
  wpList_step fun K hK => by
    rw [if_pos hw]
    obtain ⟨l, c, hr, hl⟩ := HeldIs.size hs
    have hg : (getObj r).run Try.prog w = .ok (mObj l c) w := by simp [getObj, Sem.run, hr, mObj]
    unfold Oper.wp
    simp [execOp, ho, resolve, invoke, builtin, hx, Builtin.len_, run_underlying Try.underlying37, hg, mObj, Result.andThen, goInt]
    rw [hl]
    exact hK _ _ h
theorem wl_upd37 {ops : Array Oper} {rest : List Oper} {o : Oper} {a : Act} {w : World} {Q : Exit → Act → World → Prop} (hw : Region.wanted o (yielded ops a.tmps) = true) (x y : Operand)
    (ho : o.op = .mapUpdate 37 x y (.const (.bool true))) (r : Nat) (hx : a.eval x = .map (some r)) (k : List UInt8) (hy : a.eval y = .agg (bC k)) (hk : k.length = 12) (ks : List (List UInt8)) (hs : HeldIs w r ks) (hn : inL ks k = false)
    (h : ∀ w', HeldIs w' r (ks ++ [k]) → Turn [r] w w' → wpList Try.prog ops Q rest (a.put o.dst undef) w') : wpList Try.prog ops Q (o :: rest) a w :=
  wpList_step fun K hK => by
    rw [if_pos hw]
    obtain ⟨ob, h1, h2⟩ := hs.update k hk hn
    unfold Oper.wp execOp
    simp only [ho, hx, hy, show a.eval (.const (.bool true)) = .bool true from rfl, Sem.run_bind, h1, Result.andThen_ok, Sem.run_pure]
    exact hK _ _ (h _ h2 (Turn.put r w ob))

set_option maxHeartbeats 400000 in
theorem len_some (sp r : Nat) (ks : List (List UInt8)) (w : World) (hs : SetAt w sp (some r) ks) :
    Calls Try.prog 20 #[.pointer (some ⟨sp, 0, none⟩)] w fun e w' => e = .returned (.int .i64 ks.length) ∧ w = w' := by
  have hcell := hs.cell
  have HS : Hid (HeldIs w r ks) := hs.2
  clear hs
  go_enter Try.func20, Try.ntmps20
  go_wp2_with (with_reducible refine wl_len37 rfl _ rfl r rfl ks HS.out ?_)
  go_ret
  exact ⟨rfl, rfl⟩

set_option maxHeartbeats 400000 in
theorem len_none (sp : Nat) (ks : List (List UInt8)) (w : World) (hs : SetAt w sp none ks) :
    Calls Try.prog 20 #[.pointer (some ⟨sp, 0, none⟩)] w fun e w' => e = .returned (.int .i64 ks.length) ∧ w = w' := by
  have hcell := hs.cell
  have hk : ks = [] := hs.2
  subst hk
  clear hs
  go_enter Try.func20, Try.ntmps20
  go_wp2
  go_ret
  exact ⟨rfl, rfl⟩

theorem ws_load23 {ops : Array Oper} {rest : List Oper} {o : Oper} {a : Act} {W : World} {Q : Act → Prop} (x : Operand) (g : Nat) (l : List UInt8) (fr : Nat × Nat) (hw : Region.wanted o (yielded ops a.tmps) = true) (ho : o.op = .load 23 x)
    (hx : a.eval x = .pointer (some ⟨g, 0, none⟩)) (hg : W.heap[g]? = some (.cells (bC l) 23 fr)) (hl : l.length = 12)
    (h : wpStill Try.prog ops W Q rest (a.put o.dst (.agg (bC l)))) : wpStill Try.prog ops W Q (o :: rest) a := by
  have hload := run_loadVar_row (P := Try.prog) W g 23 23 (bC l) fr _ hg Try.underlying23 rfl (by rw [info23, bC_size, hl])
  unfold wpStill
  rw [if_pos hw]
  unfold Oper.still execOp
  simp only [ho, hx, Instr.loadAt, Instr.sureAddr, Sem.run_bind, Sem.run_pure, Result.andThen_ok, hload]
  exact ⟨rfl, h⟩

set_option maxHeartbeats 1000000 in
theorem add_some (sp r b n : Nat) (ks ns : List (List UInt8)) (w : World) (hs : SetAt w sp (some r) ks) (hb : NamesAt w b ns) (hn : ns.length = n) (h12 : ∀ n ∈ ns, n.length = 12) (h64 : n ≤ 64) (hk64 : ks.length ≤ 64) :
    Calls Try.prog 18 #[.pointer (some ⟨sp, 0, none⟩), .slice (some ⟨b, 0, none⟩) n n] w fun e w' => e = .returned (.int .i64 (((addL ks ns).length : Int) - ks.length)) ∧ Turn [r] w w' ∧ SetAt w' sp (some r) (addL ks ns) := by
  have hcell := hs.cell
  have hsp : sp < w.heap.size ∧ sp ≠ r := by
    obtain ⟨l, c, h2, _⟩ := hs.2
    refine ⟨?_, fun e => by subst e; rw [hs.1] at h2; cases h2⟩
    rcases Nat.lt_or_ge sp w.heap.size with h' | h'
    · exact h'
    · have := hs.1; simp [Array.getElem?_eq_none h'] at this
  have hbb : b < w.heap.size ∧ b ≠ r := by
    obtain ⟨l, c, h2, _⟩ := hs.2
    refine ⟨?_, fun e => by subst e; rw [hb] at h2; cases h2⟩
    rcases Nat.lt_or_ge b w.heap.size with h' | h'
    · exact h'
    · have := hb; simp [NamesAt, Array.getElem?_eq_none h'] at this
  have HN := Lib.hid hn
  have H12 := Lib.hid h12
  have HB := Lib.hid hb
  have HS := Lib.hid hs
  have HSP := Lib.hid hsp
  have HBB := Lib.hid hbb
  clear hn h12 hb hs hsp hbb
  have hnil : ∀ W : World, (binOp .eql 37 (.map (some r)) (.map none)).run Try.prog W = .ok (.bool false) W := fun W => run_eql_map_nil W 37 _ _ (some r) Try.underlying37
  go_enter Try.func18, Try.ntmps18
  go_wp2_with fail
  go_loopw [5, 21] (fun c i wr => ∃ k : Nat, k ≤ n ∧ i = .int .i64 k ∧ c = .int .i64 (((addL ks (ns.take k)).length : Int) - ks.length) ∧ Hid (Turn [r] w wr) ∧ Hid (HeldIs wr r (addL ks (ns.take k)))) (fun _ i _ => n - (intOf i).toNat)
  case atStart => exact ⟨0, Nat.zero_le _, rfl, by simp [addL], Turn.refl _ _, HS.out.2⟩
  case round =>
    obtain ⟨k, hk, rfl, rfl, HT, HH⟩ := hrel
    by_cases hlt : k < n
    · have hk2 : k < ns.length := by rw [HN.out]; exact hlt
      have hbk : wr.heap[b]? = w.heap[b]? := HT.out.block b HBB.out.1 (by simpa using HBB.out.2)
      have hsk : wr.heap[sp]? = w.heap[sp]? := HT.out.block sp HSP.out.1 (by simpa using HSP.out.2)
      have hnk : Hid (ns[k].length = 12) := H12.out _ (List.getElem_mem hk2)
      have hrg : Hid (wr.rangeAt b (k * 12) (bC ns[k]).toList) := NamesAt.range (w := wr) (hbk.trans HB.out) H12.out k hk2
      have HA : Hid (addL ks (ns.take (k + 1)) = add1 (addL ks (ns.take k)) ns[k]) := addL_snoc ks ns k hk2
      have HSk : Hid (SetAt wr sp (some r) (addL ks (ns.take k))) := ⟨hsk.trans HS.out.1, HH.out⟩
      have hz : w.heap.size ≤ wr.heap.size := HT.out.size
      have hle := addL_le ks (ns.take k)
      clear hbk hsk
      have hck := HSk.out.cell
      generalize ns[k] = nk at *
      generalize addL ks (ns.take k) = kk at *
      have HHas : Hid (∀ W, SetAt W sp (some r) kk → Calls Try.prog 19 #[.pointer (some ⟨sp, 0, none⟩), .agg (bC nk)] W fun e w' => e = .returned (.bool (inL kk nk)) ∧ Below W.heap.size W w') := fun W hW => has_any sp (some r) kk nk W hW hnk.out
      have HR : Hid (∀ W : World, Calls Try.prog 13 #[.agg (bC nk)] W fun e w' => e = .returned (.bool (rightB nk)) ∧ Below W.heap.size W w') := fun W => right_any nk W hnk.out
      cases hr : rightB nk
      · have HX : Hid (add1 kk nk = kk) := by show add1 kk nk = kk; rw [add1, hr]; rfl
        rw [hr] at HR
        clear hr hck
        go_wp2_with (first
          | (with_reducible refine ldmid rfl _ rfl b k rfl nk hnk.out hrg.out ?_)
          | (with_reducible refine ld23g rfl _ rfl wr.heap.size rfl nk hnk.out (0, 0) (heap_alloc_new _ _) ?_)
          | (rw [← bC_z12]; with_reducible refine st23n rfl _ _ rfl nk rfl rfl hnk.out ?_)
          | (go_at_call 13; (with_reducible refine (HR.out _).mono ?_); rintro e w1 ⟨rfl, hb1⟩; have s1 : wr.heap.size + 1 ≤ w1.heap.size := (by have := hb1.size; simpa using this)))
        have HT1 : Hid (Turn [r] w w1) := HT.out.trans ((Turn.of_below (below_alloc1 wr _)).trans (Turn.of_below hb1))
        have HS1 : Hid (SetAt w1 sp (some r) kk) := (HSk.out.below (below_alloc1 wr _) (Nat.le_refl _)).below hb1 (Nat.le_refl _)
        go_roundw
        case rel =>
          refine ⟨k + 1, by omega, by go_num, ?_, ?_, ?_⟩
          · rw [HA.out, HX.out]
          · exact HT1.out
          · rw [HA.out, HX.out]; exact HS1.out.2
        case measure => simp [intOf]; omega
      · rw [hr] at HR
        cases hi : inL kk nk
        · by_cases h64 : kk.length < 64
          · have HX : Hid (add1 kk nk = kk ++ [nk]) := by
              show add1 kk nk = kk ++ [nk]
              rw [add1, hi, hr, decide_eq_true h64]; rfl
            rw [hi] at HHas
            have HI := Lib.hid hi
            clear hr hi hck
            go_upto_region 10 with (first
              | (with_reducible refine ldmid rfl _ rfl b k rfl nk hnk.out hrg.out ?_)
              | (with_reducible refine ld23g rfl _ rfl wr.heap.size rfl nk hnk.out (0, 0) (heap_alloc_new _ _) ?_)
              | (rw [← bC_z12]; with_reducible refine st23n rfl _ _ rfl nk rfl rfl hnk.out ?_)
              | (go_at_call 13; (with_reducible refine (HR.out _).mono ?_); rintro e w1 ⟨rfl, hb1⟩; have s1 : wr.heap.size + 1 ≤ w1.heap.size := (by have := hb1.size; simpa using this); have HG1 : Hid (w1.heap[wr.heap.size]? = some (.cells (bC nk) 23)) := (hb1.block _ (by simp)).trans (heap_alloc_new _ _); have HS1 : Hid (SetAt w1 sp (some r) kk) := (HSk.out.below (below_alloc1 wr _) (Nat.le_refl _)).below hb1 (Nat.le_refl _))
              | (with_reducible refine ld23g rfl _ rfl wr.heap.size rfl nk hnk.out (0, 0) HG1.out ?_)
              | (go_at_call 19; (with_reducible refine (HHas.out _ HS1.out).mono ?_); rintro e w2 ⟨rfl, hb2⟩; have s2 : w1.heap.size ≤ w2.heap.size := hb2.size; have HS2 : Hid (SetAt w2 sp (some r) kk) := HS1.out.below hb2 (Nat.le_refl _); have HH2 : Hid (HeldIs w2 r kk) := HS2.out.2; have hck2 := HS2.out.cell)
              | (with_reducible refine wl_len37 rfl _ rfl r rfl kk HH2.out ?_))
            have HG2 : Hid (w2.heap[wr.heap.size]? = some (.cells (bC nk) 23)) := (hb2.block _ (by omega)).trans HG1.out
            have HT2 : Hid (Turn [r] w w2) := HT.out.trans ((Turn.of_below (below_alloc1 wr _)).trans ((Turn.of_below hb1).trans (Turn.of_below hb2)))
            refine wp_region_still_tail 5 (by kernel_rfl) (by kernel_rfl) ?_
            simp only [List.take_succ_cons, List.take_zero, List.drop_succ_cons, List.drop_zero]
            repeat (first
              | (with_reducible refine ws_load23 _ wr.heap.size nk (0, 0) rfl rfl rfl HG2.out hnk.out ?_; simp only [Act.put, List.setIfInBounds_toArray, List.set_cons_zero, List.set_cons_succ])
              | still_step)
            refine wpStill_nil ?_
            have HH3 : Hid (HeldIs { w2 with drawn := w2.drawn + 1 } r kk) := HH2.out
            have HT3 : Hid (Turn [r] w { w2 with drawn := w2.drawn + 1 }) := HT2.out.trans (Turn.drew _ _)
            generalize { w2 with drawn := w2.drawn + 1 } = w3 at *
            refine wl_upd37 rfl _ _ rfl r rfl nk rfl hnk.out kk HH3.out HI.out ?_
            intro w4 hh4 ht4
            have HH4 := Lib.hid hh4
            have HT4 : Hid (Turn [r] w w4) := HT3.out.trans ht4
            clear hh4 ht4
            simp only [Act.put]
            refine wpList_nil ?_
            go_wp2_with fail
            go_roundw
            case rel =>
              refine ⟨k + 1, by omega, by go_num, ?_, HT4.out, ?_⟩
              · rw [HA.out, HX.out]
                simp only [List.length_append, List.length_cons, List.length_nil, Nat.zero_add]
                congr 1
                omega
              · rw [HA.out, HX.out]; exact HH4.out
            case measure => simp [intOf]; omega
          · have HX : Hid (add1 kk nk = kk) := by
              show add1 kk nk = kk
              rw [add1, hi, hr, decide_eq_false h64]; rfl
            rw [hi] at HHas
            have h64'' : (64 : Int) ≤ (kk.length : Nat) := by omega
            clear hr hi hck h64
            go_wp2_with (first
              | (with_reducible refine ldmid rfl _ rfl b k rfl nk hnk.out hrg.out ?_)
              | (with_reducible refine ld23g rfl _ rfl wr.heap.size rfl nk hnk.out (0, 0) (heap_alloc_new _ _) ?_)
              | (rw [← bC_z12]; with_reducible refine st23n rfl _ _ rfl nk rfl rfl hnk.out ?_)
              | (go_at_call 13; (with_reducible refine (HR.out _).mono ?_); rintro e w1 ⟨rfl, hb1⟩; have s1 : wr.heap.size + 1 ≤ w1.heap.size := (by have := hb1.size; simpa using this); have HG1 : Hid (w1.heap[wr.heap.size]? = some (.cells (bC nk) 23)) := (hb1.block _ (by simp)).trans (heap_alloc_new _ _); have HS1 : Hid (SetAt w1 sp (some r) kk) := (HSk.out.below (below_alloc1 wr _) (Nat.le_refl _)).below hb1 (Nat.le_refl _))
              | (with_reducible refine ld23g rfl _ rfl wr.heap.size rfl nk hnk.out (0, 0) HG1.out ?_)
              | (go_at_call 19; (with_reducible refine (HHas.out _ HS1.out).mono ?_); rintro e w2 ⟨rfl, hb2⟩; have s2 : w1.heap.size ≤ w2.heap.size := hb2.size; have HS2 : Hid (SetAt w2 sp (some r) kk) := HS1.out.below hb2 (Nat.le_refl _); have HH2 : Hid (HeldIs w2 r kk) := HS2.out.2; have hck2 := HS2.out.cell)
              | (with_reducible refine wl_len37 rfl _ rfl r rfl kk HH2.out ?_))
            have HT2 : Hid (Turn [r] w w2) := HT.out.trans ((Turn.of_below (below_alloc1 wr _)).trans ((Turn.of_below hb1).trans (Turn.of_below hb2)))
            go_roundw
            case rel =>
              refine ⟨k + 1, by omega, by go_num, ?_, ?_, ?_⟩
              · rw [HA.out, HX.out]
              · exact HT2.out
              · rw [HA.out, HX.out]; exact HS2.out.2
            case measure => simp [intOf]; omega
        · have HX : Hid (add1 kk nk = kk) := by show add1 kk nk = kk; rw [add1, hi, hr]; rfl
          rw [hi] at HHas
          clear hr hi hck
          go_wp2_with (first
            | (with_reducible refine ldmid rfl _ rfl b k rfl nk hnk.out hrg.out ?_)
            | (with_reducible refine ld23g rfl _ rfl wr.heap.size rfl nk hnk.out (0, 0) (heap_alloc_new _ _) ?_)
            | (rw [← bC_z12]; with_reducible refine st23n rfl _ _ rfl nk rfl rfl hnk.out ?_)
            | (go_at_call 13; (with_reducible refine (HR.out _).mono ?_); rintro e w1 ⟨rfl, hb1⟩; have s1 : wr.heap.size + 1 ≤ w1.heap.size := (by have := hb1.size; simpa using this); have HG1 : Hid (w1.heap[wr.heap.size]? = some (.cells (bC nk) 23)) := (hb1.block _ (by simp)).trans (heap_alloc_new _ _); have HS1 : Hid (SetAt w1 sp (some r) kk) := (HSk.out.below (below_alloc1 wr _) (Nat.le_refl _)).below hb1 (Nat.le_refl _))
            | (with_reducible refine ld23g rfl _ rfl wr.heap.size rfl nk hnk.out (0, 0) HG1.out ?_)
            | (go_at_call 19; (with_reducible refine (HHas.out _ HS1.out).mono ?_); rintro e w2 ⟨rfl, hb2⟩; have s2 : w1.heap.size ≤ w2.heap.size := hb2.size; have HS2 : Hid (SetAt w2 sp (some r) kk) := HS1.out.below hb2 (Nat.le_refl _); have HH2 : Hid (HeldIs w2 r kk) := HS2.out.2; have hck2 := HS2.out.cell)
            | (with_reducible refine wl_len37 rfl _ rfl r rfl kk HH2.out ?_))
          have HT2 : Hid (Turn [r] w w2) := HT.out.trans ((Turn.of_below (below_alloc1 wr _)).trans ((Turn.of_below hb1).trans (Turn.of_below hb2)))
          go_roundw
          case rel =>
            refine ⟨k + 1, by omega, by go_num, ?_, ?_, ?_⟩
            · rw [HA.out, HX.out]
            · exact HT2.out
            · rw [HA.out, HX.out]; exact HS2.out.2
          case measure => simp [intOf]; omega
    · obtain rfl : k = n := by omega
      have HE : Hid (ns.take k = ns) := List.take_of_length_le (by rw [HN.out]; exact Nat.le_refl _)
      rw [HE.out] at HH
      have hend : Ending.returned (.int .i64 (((addL ks (ns.take k)).length : Int) - ks.length)) = Ending.returned (.int .i64 (((addL ks ns).length : Int) - ks.length)) := by rw [HE.out]
      have HEnd := Lib.hid hend
      clear hend HE
      go_wp2_with fail
      go_ret
      exact ⟨HEnd.out, HT.out, (HT.out.block sp HSP.out.1 (by simpa using HSP.out.2)).trans HS.out.1, HH.out⟩
end Go.Proofs.Ytbflliiaigkmgaa
