/- A region that draws its order, inside the wide fence: one operation at a time; a call of yield among them. -/
import Derived.Test.YtagdedjclbmlkaaGF
import Derived.OrdersIn
namespace Go.Proofs.Ytagdedjclbmlkaa
open Go.RowKit
section
variable {n : Nat} {P : Program} {md : Region.Mode} {ops : Array Oper} {Q : Exit → Act → World → Prop} {fuel : Nat} {listed : Array Bool} {a : Act} {w : World}
theorem takeW {i : Nat} {oi : Oper} {v : Value} (d : Nat) (hi : ops[i]? = some oi) (hd : oi.dst = some d) (hs : Region.noSelect ops = true) (hf : Region.free md ops listed i = true) (hr : (Region.ready md ops listed).contains i = true)
    (hQ : ∀ c a w, Q (.panic c) (a.put (some d) v) w → Q (.panic c) a w) (hy : YieldsFenced P ops oi v a) (h : wpAnyIn Fence.wide n P md ops Q fuel (listed.setIfInBounds i true) (a.put (some d) v) w) : wpAnyIn Fence.wide n P md ops Q (fuel + 1) listed a w :=
  wpAnyIn_take rfl hi hs hf hr (by rw [hd]; exact hQ) hy (by rw [hd]; exact h)
theorem readyW {i : Nat} {o : Oper} (hr : Region.ready md ops listed = [i]) (ho : ops[i]? = some o) (hw : Region.wanted o (yielded ops a.tmps) = true)
    (h : o.uponIn Fence.wide n P a (wpAnyIn Fence.wide n P md ops Q fuel (listed.setIfInBounds i true)) Q ((execOp a.eval o).run P w)) : wpAnyIn Fence.wide n P md ops Q (fuel + 1) listed a w := by
  refine wpAnyIn_all hr (by simp) fun j hj => ?_
  rw [List.mem_singleton] at hj
  subst hj
  refine wpOpIn_step ho fun K hK => ?_
  rw [if_pos hw]
  refine Oper.wpIn_mono (fun a w h => hK a w h) ⟨fun _ _ => trivial, ?_⟩
  exact h
theorem readyW_val {i : Nat} {o : Oper} (d : Nat) (hr : Region.ready md ops listed = [i]) (ho : ops[i]? = some o) (hd : o.dst = some d) (hw : Region.wanted o (yielded ops a.tmps) = true) (v : Value) (w' : World) (hrun : (execOp a.eval o).run P w = .ok (.value v) w')
    (h : wpAnyIn Fence.wide n P md ops Q fuel (listed.setIfInBounds i true) (a.put (some d) v) w') : wpAnyIn Fence.wide n P md ops Q (fuel + 1) listed a w := by
  refine readyW hr ho hw ?_
  rw [hrun, Oper.uponIn_value, hd]
  exact h
theorem readyW_call {i : Nat} {o : Oper} (d : Nat) (hr : Region.ready md ops listed = [i]) (ho : ops[i]? = some o) (hd : o.dst = some d) (hw : Region.wanted o (yielded ops a.tmps) = true) (f : FuncId) (args : Array Value) (hrun : (execOp a.eval o).run P w = .ok (.enter f args) w)
    (h : Calls P f args w fun e w' => ∃ v, e = .returned v ∧ wpAnyIn Fence.wide n P md ops Q fuel (listed.setIfInBounds i true) (a.put (some d) v) w') : wpAnyIn Fence.wide n P md ops Q (fuel + 1) listed a w := by
  refine readyW hr ho hw ?_
  rw [hrun, Oper.uponIn_enter, hd]
  refine ⟨fun h' => (by cases h'), (callsIn_wide.2 h).mono fun e w' ⟨v, he, hw'⟩ => ?_⟩
  subst he
  exact hw'
theorem readyW_round {i : Nat} {o : Oper} (d : Nat) (hr : Region.ready md ops listed = [i]) (ho : ops[i]? = some o) (hd : o.dst = some d) (hw : Region.wanted o (yielded ops a.tmps) = true) (l : Nat) (fn : FuncId) (tmps : Array Value) (assign body : Code) (hrun : (execOp a.eval o).run P w = .ok (.round l fn tmps assign body) w)
    (h : RoundIn Fence.wide (n - 1) P l fn tmps assign body w fun e w' => ∃ v, e = .returned v ∧ wpAnyIn Fence.wide n P md ops Q fuel (listed.setIfInBounds i true) (a.put (some d) v) w') : wpAnyIn Fence.wide n P md ops Q (fuel + 1) listed a w := by
  refine readyW hr ho hw ?_
  rw [hrun, Oper.uponIn_round, hd]
  refine ⟨fun h' => (by cases h'), h.mono fun e w' ⟨v, he, hw'⟩ => ?_⟩
  subst he
  exact hw'
end
theorem round_wide {n m : Nat} {P : Program} {l : Nat} {f : FuncId} {tmps : Array Value} {assign body : Code} {w : World} {R : Ending → World → Prop} (h : RoundIn Fence.wide n P l f tmps assign body w R) : RoundIn Fence.wide m P l f tmps assign body w R :=
  ⟨h.1, fun c cs _ => h.2 c cs (room_wide _)⟩
theorem yield_wide {n m : Nat} {P : Program} {l : Nat} {args : Array Value} {W : World} {R : Ending → World → Prop} (h : YieldAt Fence.wide n P l args W R) : YieldAt Fence.wide m P l args W R := by
  obtain ⟨fn, tmps, assign, body, h1, h2⟩ := h
  exact ⟨fn, tmps, assign, body, h1, round_wide h2⟩
/-- A call of yield, as an operation runs it. -/
theorem exec_yield {P : Program} {o : Oper} {a : Act} {w : World} {l : Nat} {fn : FuncId} {tmps : Array Value} {assign body : Code} (x y : Operand) (ts : Array TypeId) (ho : o.op = .call { callee := .value x, args := #[y], argTypes := ts }) (v : Value) (hx : a.eval x = .func (.yield l) #[] #[]) (hy : a.eval y = v) (h : (Instr.yield l #[v]).run P w = .ok (.round l fn tmps assign body) w) : (execOp a.eval o).run P w = .ok (.round l fn tmps assign body) w := by
  unfold execOp
  simp only [ho, resolve, hx, List.map_toArray, List.map_cons, List.map_nil, hy]
  simp [go_sem, invoke, h]
end Go.Proofs.Ytagdedjclbmlkaa
