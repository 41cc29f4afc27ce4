/- Publish: the row that it sorts; frames put together. -/
import Derived.Test.YtnafcbmpjjlhnaaK19
namespace Go.Proofs.Ytnafcbmpjjlhnaa
open Go.RowKit

/-- A slice of writes that the call itself made. -/
def Rows (B : Nat) (w : World) (v : Value) (ds : List Wr) : Prop :=
  (v = .slice none 0 0 ∧ ds = []) ∨ ∃ g cap tail, v = .slice (some ⟨g, 0, none⟩) ds.length cap ∧ B ≤ g ∧ WRow w g ds.toArray tail 58
theorem rows_of {B : Nat} {w : World} {v : Value} {ws : List Wr} (h : OwnE wrC 58 35 w B v ws) : Rows B w v ws := by
  obtain ⟨h1, ⟨rfl, h3⟩ | ⟨g, cap, cur, rfl, h4, hh, h5, h6, h7, h8⟩⟩ := h
  · exact Or.inl ⟨rfl, by simpa using h3⟩
  · refine Or.inr ⟨g, cap, cur.toList.drop (ws.length * 35), rfl, h4, ?_⟩
    unfold WRow
    rw [hh]
    have : (ws.toArray.toList.flatMap wrC ++ cur.toList.drop (ws.length * 35)) = cur.toList := by
      show ws.flatMap wrC ++ _ = _
      rw [← h8, List.take_append_drop]
    rw [this]
theorem Rows.slice {B : Nat} {w : World} {v : Value} {ds : List Wr} (h : Rows B w v ds) : ∃ (q : Option Addr) (cap : Nat), v = Value.slice q ds.length cap := by
  obtain ⟨rfl, rfl⟩ | ⟨g, cap, tail, rfl, _⟩ := h
  · exact ⟨Option.none, 0, rfl⟩
  · exact ⟨_, _, rfl⟩
set_option maxRecDepth 100000 in
theorem sortR_any (B : Nat) (v : Value) (ws : List Wr) (w : World) (h : Rows B w v ws) (hsz : ws.length ≤ 20) (hB : B ≤ w.heap.size) :
    Calls Try.prog 17 #[v, .func (.func 18) #[] #[]] w fun e w' => e = .returned (.tuple #[]) ∧ Rows B w' v (srt ws) ∧ Below B w w' := by
  obtain ⟨rfl, rfl⟩ | ⟨g, cap, tail, rfl, hb, hr⟩ := h
  · refine (sortN_any w).mono ?_
    rintro e w' ⟨rfl, rfl⟩
    refine ⟨rfl, Or.inl ⟨rfl, ?_⟩, Below.refl _ _⟩
    exact List.length_eq_zero_iff.1 (size_srt [])
  · refine (sortW_any g cap ws.toArray tail _ w hr (by simpa using hsz)).mono ?_
    rintro e w' ⟨rfl, h1, h2⟩
    refine ⟨rfl, Or.inr ⟨g, cap, tail, by rw [size_srt], hb, ?_⟩, h2.below (fun k hk => by simp at hk; omega) hB⟩
    unfold srt
    simpa using h1
/-- One turn behind another. -/
theorem turn_chain {p : Nat} {q0 q1 : Option Nat} {w wr w' : World} (h : Turn (p :: q0.toList) w wr) (h' : Turn (p :: q1.toList) wr w') (hq : q1 = q0 ∨ ∃ g, q1 = some g ∧ w.heap.size ≤ g) : Turn (p :: q0.toList) w w' := by
  refine ⟨h'.os.trans h.os, h'.tape.trans h.tape, h'.output.trans h.output, Nat.le_trans h.size h'.size, fun k hk hm => ?_⟩
  refine (h'.block k (Nat.lt_of_lt_of_le hk h.size) fun hm' => ?_).trans (h.block k hk hm)
  rcases hq with rfl | ⟨g, rfl, hg⟩
  · exact hm hm'
  · rcases List.mem_cons.1 hm' with rfl | hm'
    · exact hm List.mem_cons_self
    · simp at hm'; omega
theorem Rows.keep {B : Nat} {w w' : World} {v : Value} {ds : List Wr} (h : Rows B w v ds) (hk : ∀ (g : Nat) (cs : Array Value) (T : TypeId) (fr : Nat × Nat), w.heap[g]? = some (Obj.cells cs T fr) → T = 58 → w'.heap[g]? = w.heap[g]?) : Rows B w' v ds := by
  obtain h | ⟨g, cap, tail, rfl, hb, hr⟩ := h
  · exact Or.inl h
  · exact Or.inr ⟨g, cap, tail, rfl, hb, (hk g _ _ _ hr rfl).trans hr⟩
end Go.Proofs.Ytnafcbmpjjlhnaa
