/- A region that draws its order, within a round: out of its plain walk. -/
import Derived.Test.YtagdedjclbmlkaaGR
import Derived.Test.YtagdedjclbmlkaaGQ
namespace Go.Proofs.Ytagdedjclbmlkaa
open Go.RowKit

def noDefer (ops : Array Oper) : Bool := ops.all fun o => match o.op with | .defer _ => false | _ => true
theorem noDefer_at {ops : Array Oper} (h : noDefer ops = true) {i : Nat} {o : Oper} (hi : ops[i]? = some o) : ∀ c, o.op ≠ .defer c := by
  intro c hc
  have := Array.all_eq_true_iff_forall_mem.1 h o (Array.mem_of_getElem? hi)
  rw [hc] at this
  cases this
theorem op_round {P : Program} {l n : Nat} {o : Oper} {a : Act} {w : World} {K : Act → World → Prop} {Q : Exit → Act → World → Prop} (hd : ∀ c, o.op ≠ .defer c) (h : o.wp P a w K Q) : o.wpIn (Fence.wide.inRound l) n P a w K Q := by
  refine ⟨fun _ _ => trivial, ?_⟩
  rw [Oper.semAt_plain _ _ _ hd]
  unfold Oper.wp at h
  generalize (execOp a.eval o).run P w = r at *
  cases r with
  | ok x w' =>
    cases x with
    | value v => exact h
    | skip => exact h
    | defer d => exact h
    | enter f args =>
      refine ⟨fun h' => (by cases h'), ?_⟩
      have h2 : CallsIn Fence.wide (n - 1) P f args w' _ := callsIn_wide.2 h
      exact h2
    | row row args =>
      refine ⟨fun h' => (by cases h'), ?_⟩
      have h2 : RowsIn Fence.wide (n - 1) P row args w' fun v w'' => K (a.put o.dst v) w'' := fun c cs _ =>
        let ⟨v, w2, r, s⟩ := (show Rows P row args w' _ from h) c cs
        ⟨v, w2, r, stepsIn_wide.2 s⟩
      exact h2
    | _ => exact h.elim
  | halt x w' =>
    cases x <;> first | exact h | exact h.elim
theorem wpOp_round {P : Program} {l n : Nat} {ops : Array Oper} (hd : noDefer ops = true) {i : Nat} {a : Act} {w : World} {K K' : Act → World → Prop} {Q : Exit → Act → World → Prop} (hQ : ¬ LetsOut Q) (hK : ∀ a w, K a w → K' a w) (h : wpOp P ops Q i K a w) : wpOpIn (Fence.wide.inRound l) n P ops Q i K' a w := by
  unfold wpOp at h
  unfold wpOpIn
  cases ho : ops[i]? with
  | none => rw [ho] at h; exact hK _ _ h
  | some o =>
    rw [ho] at h
    simp only at h ⊢
    split
    · rename_i hw
      rw [if_pos hw] at h
      rcases h with h | h
      · exact Oper.wpIn_mono hK (op_round (noDefer_at hd ho) h)
      · exact absurd h.2 hQ
    · rename_i hw
      rw [if_neg hw] at h
      exact ⟨fun _ _ => trivial, hK _ _ h⟩
theorem any_round {P : Program} {md : Region.Mode} {l n : Nat} {ops : Array Oper} (hd : noDefer ops = true) {Q : Exit → Act → World → Prop} (hQ : ¬ LetsOut Q) : ∀ (fuel : Nat) (listed : Array Bool) (a : Act) (w : World), wpAny P md ops Q fuel listed a w → wpAnyIn (Fence.wide.inRound l) n P md ops Q fuel listed a w
  | 0, _, _, _, h => h
  | fuel + 1, listed, _, _, h => ⟨h.1, fun i hi => wpOp_round hd hQ (fun a' w' h' => any_round hd hQ fuel (listed.setIfInBounds i true) a' w' h') (h.2 i hi)⟩
/-- The head quiet in the class, the tail walked at every world of the class: in a round. -/
theorem wpIn_round_tail {P : Program} {id r m : Nat} {Q : Exit → Act → World → Prop} {a : Act} {w : World} {l : List Oper} (n : Nat) (hm : P.follows .mixedOrders = true) (hd : noDefer l.toArray = true) (hQ : ¬ LetsOut Q) (hB : Region.lexTailB .any l.toArray n = true)
    (h : wpQuiet P l.toArray (fun w' => ∃ p : Regrown, w' = Sort.grow (redrawn w p.d) p.os) (fun a' => ∀ w', (∃ p : Regrown, w' = Sort.grow (redrawn w p.d) p.os) → wpList P l.toArray Q (l.drop n) a' w') (l.take n) a) : (Code.region id l.toArray true).wpIn (Fence.wide.inRound r) m P Q a w := by
  have hC : ∃ p : Regrown, ({ w with drawn := w.drawn + 1 } : World) = Sort.grow (redrawn w p.d) p.os := ⟨⟨w.drawn + 1, #[]⟩, by rw [Sort.grow_empty]; rfl⟩
  simp only [Region.lexTailB, Bool.and_eq_true, decide_eq_true_eq] at hB
  obtain ⟨⟨⟨⟨hsel, hn⟩, hs⟩, hc⟩, hlex⟩ := hB
  have hn' : n < l.length := by simpa using hn
  have htl : (l.take n).length = n := by simp; omega
  have hdl : (l.drop n).length = l.toArray.size - n := by simp
  have inv0 : HeadInv .any l.toArray n (Array.replicate l.toArray.size false) :=
    ⟨by simp, fun j oj _ hl => (by rw [getD_replicate_false] at hl; cases hl), fun t _ ht => getD_in (by simpa using ht) (getD_replicate_false _ _)⟩
  have H := wpAnyLQ_lex (md := .any) (g := l.toArray.size - n) hsel hs hc hn (l.take n) 0 _ a (fun j hj => by
    have hj' : j < n := by rw [htl] at hj; exact hj
    simp [hj']) (by simpa using htl) inv0 (by rw [htl]; exact hlex) h
  refine wpIn_region_any hm (any_round hd hQ _ _ _ _ ?_)
  have := wpAny_of_headQ (Q' := Q) (g := l.toArray.size - n) (fun listed a' w' hw' hL => by
    have := wpAny_of_seq (md := .any) (Q' := Q) (l.drop n) n listed a' w' (fun j => by simp [List.getElem?_drop]) (by rw [hdl]; exact hL.1) (hL.2 w' hw')
    rwa [hdl] at this) _ _ _ _ hC H
  rw [htl, show n + (l.toArray.size - n) = l.toArray.size by omega] at this
  exact this
/-- A region in the order of the text, in a round, out of its plain walk. -/
theorem wpIn_round_list {P : Program} {id r m : Nat} {Q : Exit → Act → World → Prop} {a : Act} {w : World} {l : List Oper} (hd : noDefer l.toArray = true) (hQ : ¬ LetsOut Q) (h : wpList P l.toArray Q l a w) : (Code.region id l.toArray false).wpIn (Fence.wide.inRound r) m P Q a w := by
  refine wpIn_region_lit ?_
  have main : ∀ (rest : List Oper) (a : Act) (w : World), (∀ o ∈ rest, ∀ c, o.op ≠ .defer c) → wpList P l.toArray Q rest a w → wpListIn (Fence.wide.inRound r) m P l.toArray Q rest a w := by
    intro rest
    induction rest with
    | nil => intro a w _ h; exact h
    | cons o rest ih =>
      intro a w hd' h
      unfold wpList at h
      unfold wpListIn
      split
      · rename_i hw
        rw [if_pos hw] at h
        rcases h with h | h
        · exact Oper.wpIn_mono (fun a w h' => ih a w (fun o ho => hd' o (List.mem_cons_of_mem _ ho)) h') (op_round (hd' o (by simp)) h)
        · exact absurd h.2 hQ
      · rename_i hw
        rw [if_neg hw] at h
        exact ⟨fun _ _ => trivial, ih _ _ (fun o ho => hd' o (List.mem_cons_of_mem _ ho)) h⟩
  exact main l a w (fun o ho => by
    obtain ⟨i, hi, rfl⟩ := List.getElem_of_mem ho
    exact noDefer_at hd (i := i) (by simp [hi])) h
end Go.Proofs.Ytagdedjclbmlkaa
