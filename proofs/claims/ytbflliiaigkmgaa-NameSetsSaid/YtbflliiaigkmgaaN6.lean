/- Pieces of NameSorts' walk. -/
import Derived.Test.YtbflliiaigkmgaaP6
namespace Go.Proofs.Ytbflliiaigkmgaa
open Go.RowKit

theorem neq9 (n : List UInt8) (W : World) : (binOp .neq 9 (.string ⟨(textL n).toArray⟩) (.string ⟨#[]⟩)).run Try.prog W = .ok (.bool (rightB n)) W := by
  cases h : rightB n
  · rw [textL_no h]; go_simp
  · have h1 := textL_yes h
    have h2 : (⟨(textL n).toArray⟩ : ByteArray) ≠ ⟨#[]⟩ := fun e => by
      have : (textL n).toArray = #[] := congrArg ByteArray.data e
      have : textL n = [] := by simpa using this
      rw [this] at h1; simp at h1
    generalize (⟨(textL n).toArray⟩ : ByteArray) = s at *
    go_simp
    rw [ByteArray.toList_eq]
    intro e
    exact h2 (ByteArray.ext (Array.toList_inj.1 e))

theorem Own.shape {w : World} {base : Nat} {E : TypeId} {v : Value} {ns : List (List UInt8)} (h : Own w base E v ns) (h12 : All12 ns) : ∃ p cap, v = .slice p ns.length cap ∧ ∀ i (hi : i < ns.length), ∃ g, p = some ⟨g, 0, none⟩ ∧ base ≤ g ∧ g < w.heap.size ∧ w.rangeAt g (0 + i * 12) (bC ns[i]).toList := by
  rcases h.rows with ⟨rfl, rfl⟩ | ⟨b, o, cap, rfl, hc, hb, hr⟩
  · exact ⟨none, 0, rfl, fun i hi => by simp at hi⟩
  · refine ⟨_, _, rfl, fun i hi => ?_⟩
    have hl := h.lt b rfl
    obtain ⟨h1, h2 | ⟨g', cap', cur, hv, hg', hh, r⟩⟩ := h
    · cases h2.1
    · simp only [Value.slice.injEq, Option.some.injEq, Addr.mk.injEq] at hv
      obtain ⟨⟨rfl, rfl, _⟩, _⟩ := hv
      exact ⟨b, rfl, hl.1, hl.2, range_elem hr h12 i hi⟩

section
variable {ops : Array Oper} {Q : Act → Prop} {a : Act} {o : Oper} {rest : List Oper}
theorem wq_look49 {W : World} (x y : Operand) (r : Nat) (ns : List (List UInt8)) (k : List UInt8) (hw : Region.wanted o (yielded ops a.tmps) = true) (ho : o.op = .lookup 49 x y false)
    (hx : a.eval x = .map (some r)) (hy : a.eval y = .agg (bC k)) (hs : CntIs W r ns) (hk : k.length = 12)
    (h : wpQuiet Try.prog ops (fun w' => ∃ p : Regrown, w' = Sort.grow (redrawn W p.d) p.os) Q rest (a.put o.dst (.int .i64 (ns.count k : Nat)))) : wpQuiet Try.prog ops (fun w' => ∃ p : Regrown, w' = Sort.grow (redrawn W p.d) p.os) Q (o :: rest) a := by
  refine wq_valC _ hw (fun w hC => ?_) h
  obtain ⟨⟨dq, osq⟩, rfl⟩ := hC
  unfold execOp
  simp only [ho, hx, hy, Sem.run_bind, (hs.block ((below_regrown W dq osq).block r hs.lt)).look k hk, Result.andThen_ok, Sem.run_pure]
theorem wq_ldmid23 {W : World} (x : Operand) (b i : Nat) (n : List UInt8) (hw : Region.wanted o (yielded ops a.tmps) = true) (ho : o.op = .load 23 x)
    (hx : a.eval x = .pointer (some ⟨b, i, none⟩)) (hc : W.rangeAt b i (bC n).toList) (hb : b < W.heap.size) (hn : n.length = 12)
    (h : wpQuiet Try.prog ops (fun w' => ∃ p : Regrown, w' = Sort.grow (redrawn W p.d) p.os) Q rest (a.put o.dst (.agg (bC n)))) : wpQuiet Try.prog ops (fun w' => ∃ p : Regrown, w' = Sort.grow (redrawn W p.d) p.os) Q (o :: rest) a :=
  wq_ldmid 23 x b i n hw ho hx hc hb _ Try.underlying23 rfl info23 hn h
end
theorem wl_len49 {ops : Array Oper} {rest : List Oper} {o : Oper} {a : Act} {w : World} {Q : Exit → Act → World → Prop} (hw : Region.wanted o (yielded ops a.tmps) = true) (x : Operand)
    (ho : o.op = .call { callee := .builtin .len, args := #[x], argTypes := #[49] }) (r : Nat) (hx : a.eval x = .map (some r)) (l : List Ent) (c : Nat) (hr : w.heap[r]? = some (mObj l c)) (m : Nat) (hl : l.length = m)
    (h : wpList Try.prog ops Q rest (a.put o.dst (.int .i64 (m : Nat))) w) : wpList Try.prog ops Q (o :: rest) a w :=
  wpList_step fun K hK => by
    rw [if_pos hw]
    have hg : (getObj r).run Try.prog w = .ok (mObj l c) w := by simp [getObj, Sem.run, hr, mObj]
    unfold Oper.wp
    simp [execOp, ho, resolve, invoke, builtin, hx, Builtin.len_, run_underlying Try.underlying49, hg, mObj, Result.andThen, goInt]
    rw [hl]
    exact hK _ _ h

set_option maxHeartbeats 400000 in
theorem sortN_zero (q : Option Addr) (cap : Nat) (w : World) :
    Calls Try.prog 23 #[.slice q 0 cap] w fun e w' => Below w.heap.size w w' ∧ ∃ v', e = .returned v' ∧ Own w' w.heap.size 23 v' [] := by
  have HO : Hid (∀ W : World, Calls Try.prog 32 #[.slice none 0 0] W fun e w' => e = .returned (.slice none 0 0) ∧ Below W.heap.size W w' ∧ Own w' W.heap.size 23 (.slice none 0 0) (insAll [])) := fun W => ordered_any _ [] W.heap.size W (Own.nil _ _ _) (fun x hx => by simp at hx) (Nat.le_refl _) (by simp)
  go_enter Try.func23, Try.ntmps23
  go_wp2_with fail
  go_loop [3, 8] (fun c i => c = .slice none 0 0 ∧ i = .int .i64 0) (fun _ _ => 0)
  case atStart => exact ⟨rfl, rfl⟩
  case round =>
    obtain ⟨rfl, rfl⟩ := hrel
    go_wp2_with (first
      | (go_at_call 32; (with_reducible refine (HO.out _).mono ?_); rintro e w1 ⟨rfl, hb1, ho1⟩))
    go_ret
    exact ⟨hb1, _, rfl, ho1⟩
theorem count_zero (q : Option Addr) (cap : Nat) (w : World) :
    Calls Try.prog 24 #[.slice q 0 cap] w fun e w' => Below w.heap.size w w' ∧ e = .returned (.map (some w.heap.size)) ∧ CntIs w' w.heap.size [] := by
  have hmm := @run_makeMap Try.prog
  have HC0 : Hid (CntIs (w.alloc (.map #[] 0)) w.heap.size []) := .nil (heap_alloc_new _ _)
  go_enter Try.func24, Try.ntmps24
  go_wp2_with fail
  go_loop [9] (fun i => i = .int .i64 0) (fun _ => 0)
  case atStart => rfl
  case round =>
    obtain rfl := hrel
    go_wp2_with fail
    go_ret
    exact ⟨below_alloc1 _ _, rfl, HC0.out⟩
end Go.Proofs.Ytbflliiaigkmgaa
