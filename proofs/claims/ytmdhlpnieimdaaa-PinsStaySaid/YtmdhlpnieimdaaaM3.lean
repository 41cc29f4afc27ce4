/- delete from the map of counts. -/
import Derived.Test.YtmdhlpnieimdaaaM2
namespace Go.Proofs.Ytmdhlpnieimdaaa
open Go.RowKit

theorem eraseIdx_mapN {α β : Type} (f : α → β) : ∀ (l : List α) (j : Nat), (l.map f).eraseIdx j = (l.eraseIdx j).map f
  | [], _ => by simp
  | x :: l, 0 => rfl
  | x :: l, j + 1 => by simp [eraseIdx_mapN f l j]
theorem eraseIdx_findN {k : Nat} : ∀ {l : List EntN} {i j : Nat} {v : Value}, findN k l i = some (j, v) → ∃ m, j = i + m ∧ m < l.length ∧ (l.eraseIdx m).map EntN.k = (l.map EntN.k).erase k
  | [], _, _, _, h => by simp [findN] at h
  | e :: l, i, j, v, h => by
    by_cases he : k = e.k
    · rw [findN, if_pos he] at h
      simp only [Option.some.injEq, Prod.mk.injEq] at h
      exact ⟨0, by omega, by simp, by simp [he]⟩
    · rw [findN, if_neg he] at h
      obtain ⟨m, h1, h2, h3⟩ := eraseIdx_findN h
      refine ⟨m + 1, by omega, by simpa using h2, ?_⟩
      have : ¬ (e.k == k) = true := fun hh => he (by rw [beq_iff_eq] at hh; exact hh.symm)
      simp only [List.eraseIdx_cons_succ, List.map_cons, h3, List.erase_cons, this]
      simp
theorem CntN.del {w : World} {r : Nat} {f : Nat → Nat} {K : List Nat} (h : CntN w r f K) (k : Nat) (hk : k ∈ K) (h0 : f k = 0) :
    ∃ o, (∀ t, (Builtin.delete_ #[25, 23] t #[.map (some r), .int .u64 k]).run Try.prog w = .ok (.tuple #[]) (putB w r o)) ∧ CntN (putB w r o) r f (K.erase k) := by
  obtain ⟨l, c, h1, rfl, h3, h4, h5, h6⟩ := h
  rcases findN_spec (k := k) l 0 with ⟨_, e2⟩ | ⟨j, hj, hf, hjk⟩
  · obtain ⟨e, he, hek⟩ := List.mem_map.1 hk
    exact absurd hek (e2 e he)
  rw [Nat.zero_add] at hf
  obtain ⟨m, hm, hml, hme⟩ := eraseIdx_findN hf
  obtain rfl : j = m := by omega
  have hg : (getObj r).run Try.prog w = .ok (mObjN l c) w := by simp [getObj, Sem.run, h1, mObjN]
  have hc : ∀ b, (Instr.checkKey b 10000 23 (.int .u64 k)).run Try.prog w = .ok () w := fun b => MapKept.run_checkKey Try.underlying23 (by simp [MapKept.IsKey]) b 9999
  refine ⟨mObjN (l.eraseIdx j) c, fun t => ?_, l.eraseIdx j, c, putB_same _ _ _ _ h1, hme, fun e he => h3 e (List.mem_of_mem_eraseIdx he), ?_, h5.erase k, fun x hx => ?_⟩
  · simp only [Builtin.delete_]
    have hh : (setObj r (.map ((l.map EntN.e).eraseIdx j).toArray c)).run Try.prog w = .ok () (putB w r (mObjN (l.eraseIdx j) c)) := by
      rw [MapKept.run_setObj_map _ h1, eraseIdx_mapN]; rfl
    simp [Sem.run_bind, run_underlying Try.underlying25, hg, mObjN, hc, run_findKeyN w k l, hf]
    rw [hh]
    rfl
  · rw [← eraseIdx_mapN]
    exact h4.sublist (List.eraseIdx_sublist _ _)
  · have hne : x ≠ k := fun e => by subst e; exact hx h0
    exact (List.mem_erase_of_ne hne).2 (h6 x hx)
end Go.Proofs.Ytmdhlpnieimdaaa
