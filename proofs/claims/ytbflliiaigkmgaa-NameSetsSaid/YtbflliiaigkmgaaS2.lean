/- Slices of names that a literal lays; Add, Del, Len. -/
import Derived.Test.YtbflliiaigkmgaaS1
namespace Go.Proofs.Ytbflliiaigkmgaa
open Go.RowKit

theorem zero23 : ((Try.prog.info? 23).bind (·.zero)).isSome = true := by kernel_rfl

theorem run_names (w : World) (vs : List Value) (ns : List (List UInt8)) (hv : vs = ns.map fun n => .agg (bC n)) (h12 : ∀ n ∈ ns, n.length = 12) (h0 : 0 < ns.length) (h2 : ns.length ≤ 64) :
    (Instr.buildSlice 45 ns.length ((vs.zipIdx 0).map fun x => (x.2, x.1)).toArray).run Try.prog w = .ok (.slice (some ⟨w.heap.size, 0, none⟩) ns.length ns.length) (w.alloc (.cells (bC ns.flatten) 23)) := by
  have hsz := info23
  have hz := zero23
  cases hie : Try.prog.info? 23 with
  | none => simp [hie] at hsz
  | some ie =>
    simp only [hie, Option.map_some, Option.some.injEq, Option.bind_some] at hsz hz
    obtain ⟨z, hzz⟩ := Option.isSome_iff_exists.1 hz
    refine run_buildSlice w 45 23 ns.length _ _ ie z Try.underlying45 hie hzz (by rw [hsz]; omega) (by rw [hsz]; omega) ?_
    have hlen : vs.length = ns.length := by rw [hv]; simp
    have := Great.fill_whole (s := 12) (by omega) vs ((Array.range (ns.length * ie.size)).map (z.cells[· % z.cells.size]!)) (fun v hv' => by
      rw [hv] at hv'
      obtain ⟨n, hn, rfl⟩ := List.mem_map.1 hv'
      show (bC n).size = 12
      rw [bC_size, h12 n hn]) (by rw [hlen]; simp [hsz])
    rw [hsz] at this ⊢
    rw [List.toList_toArray, this]
    congr 1
    apply Array.toList_inj.1
    rw [hv]
    simp only [List.toList_toArray, bC]
    rw [List.flatMap_map, List.map_flatten, List.flatMap_def]
    congr 1

theorem bs45 {ops : Array Oper} {rest : List Oper} {o : Oper} {a : Act} {w : World} {Q : Exit → Act → World → Prop} (hw : Region.wanted o (yielded ops a.tmps) = true) (n : Nat) (parts : Array (Nat × Operand)) (ho : o.op = .buildSlice 45 n parts)
    (ns : List (List UInt8)) (hn : n = ns.length) (hp : (parts.map fun (i, x) => (i, a.eval x)) = (((ns.map fun m => Value.agg (bC m)).zipIdx 0).map fun x => (x.2, x.1)).toArray) (h12 : ∀ n ∈ ns, n.length = 12) (h0 : 0 < ns.length) (h2 : ns.length ≤ 64)
    (h : wpList Try.prog ops Q rest (a.put o.dst (.slice (some ⟨w.heap.size, 0, none⟩) ns.length ns.length)) (w.alloc (.cells (bC ns.flatten) 23))) : wpList Try.prog ops Q (o :: rest) a w :=
  wpList_step fun _ hK => by
    rw [if_pos hw]
    subst hn
    unfold Oper.wp execOp
    simp only [ho, Sem.run_bind, hp, run_names w _ ns rfl h12 h0 h2, Result.andThen_ok]
    exact hK _ _ h

theorem bs45_1 {ops : Array Oper} {rest : List Oper} {o : Oper} {a : Act} {w : World} {Q : Exit → Act → World → Prop} (hw : Region.wanted o (yielded ops a.tmps) = true) (x : Operand) (ho : o.op = .buildSlice 45 1 #[(0, x)])
    (n : List UInt8) (hx : a.eval x = .agg (bC n)) (h12 : n.length = 12)
    (h : wpList Try.prog ops Q rest (a.put o.dst (.slice (some ⟨w.heap.size, 0, none⟩) 1 1)) (w.alloc (.cells (bC [n].flatten) 23))) : wpList Try.prog ops Q (o :: rest) a w :=
  bs45 hw 1 _ ho [n] rfl (by simp [hx]) (by simpa using h12) (by simp) (by simp) h
theorem bs45_2 {ops : Array Oper} {rest : List Oper} {o : Oper} {a : Act} {w : World} {Q : Exit → Act → World → Prop} (hw : Region.wanted o (yielded ops a.tmps) = true) (x y : Operand) (ho : o.op = .buildSlice 45 2 #[(0, x), (1, y)])
    (n m : List UInt8) (hx : a.eval x = .agg (bC n)) (hy : a.eval y = .agg (bC m)) (h12 : n.length = 12) (h12' : m.length = 12)
    (h : wpList Try.prog ops Q rest (a.put o.dst (.slice (some ⟨w.heap.size, 0, none⟩) 2 2)) (w.alloc (.cells (bC [n, m].flatten) 23))) : wpList Try.prog ops Q (o :: rest) a w :=
  bs45 hw 2 _ ho [n, m] rfl (by simp [hx, hy]) (by intro k hk; simp at hk; rcases hk with rfl | rfl <;> assumption) (by simp) (by simp) h

def NamesAt (w : World) (b : Nat) (ns : List (List UInt8)) : Prop := w.heap[b]? = some (.cells (bC ns.flatten) 23)

theorem names1 {w : World} {b : Nat} {n : List UInt8} (h : w.heap[b]? = some (.cells (bC n) 23)) : NamesAt w b [n] := by unfold NamesAt; simpa using h
theorem names2 {w : World} {b : Nat} {n m : List UInt8} (h : w.heap[b]? = some (.cells (bC (n ++ m)) 23)) : NamesAt w b [n, m] := by unfold NamesAt; simpa using h

theorem flatten_get : ∀ (ns : List (List UInt8)) (i j : Nat), (∀ n ∈ ns, n.length = 12) → (hi : i < ns.length) → j < 12 → ns.flatten[i * 12 + j]? = ns[i][j]?
  | n :: ns, 0, j, h, _, hj => by
    simp only [List.flatten_cons, List.getElem_cons_zero]
    rw [List.getElem?_append_left (by rw [h n (by simp)]; omega)]
    congr 1; omega
  | n :: ns, i + 1, j, h, hi, hj => by
    simp only [List.flatten_cons, List.getElem_cons_succ]
    have hn := h n (by simp)
    rw [List.getElem?_append_right (by omega), ← flatten_get ns i j (fun m hm => h m (by simp [hm])) (by simpa using hi) hj]
    congr 1; omega

theorem NamesAt.range {w : World} {b : Nat} {ns : List (List UInt8)} (h : NamesAt w b ns) (h12 : ∀ n ∈ ns, n.length = 12) (i : Nat) (hi : i < ns.length) : w.rangeAt b (i * 12) (bC ns[i]).toList := by
  intro j v hv
  have hl : ns[i].length = 12 := h12 _ (List.getElem_mem hi)
  have hj : j < 12 := by
    have := (List.getElem?_eq_some_iff.1 hv).1
    simpa [bC, hl] using this
  rw [cell_of_row w b _ _ _ _ h]
  have e := flatten_get ns i j h12 hi hj
  simp only [bC, List.toList_toArray, List.getElem?_map, List.getElem?_toArray] at hv ⊢
  rw [e, hv]

theorem ldmid {ops : Array Oper} {rest : List Oper} {o : Oper} {a : Act} {w : World} {Q : Exit → Act → World → Prop} (hgd : o.guard = none) (x : Operand) (ho : o.op = .load 23 x)
    (b i : Nat) (hx : a.eval x = .pointer (some ⟨b, i * 12, none⟩)) (n : List UInt8) (hn : n.length = 12) (hc : w.rangeAt b (i * 12) (bC n).toList)
    (h : wpList Try.prog ops Q rest (a.put o.dst (.agg (bC n))) w) : wpList Try.prog ops Q (o :: rest) a w := by
  refine wpList_load_mid hgd 23 x ho b (i * 12) hx (bC n).toList _ hc Try.underlying23 rfl ?_ ?_
  · rw [info23]; simp [bC, hn]
  · simpa using h

set_option maxHeartbeats 400000 in
theorem del_nil (b n : Nat) (ns : List (List UInt8)) (w : World) (hb : NamesAt w b ns) (hn : ns.length = n) (hbl : b < w.heap.size) (h12 : ∀ n ∈ ns, n.length = 12) (h64 : n ≤ 64) :
    Calls Try.prog 21 #[.pointer none, .slice (some ⟨b, 0, none⟩) n n] w fun e w' => e = .returned (.int .i64 0) ∧ Below w.heap.size w w' := by
  have HN := Lib.hid hn
  have H12 := Lib.hid h12
  have HB := Lib.hid hb
  clear hn h12 hb
  go_enter Try.func21, Try.ntmps21
  go_wp2_with fail
  go_loopw [5, 10] (fun c i wr => ∃ k : Nat, k ≤ n ∧ i = .int .i64 k ∧ c = .int .i64 0 ∧ Below w.heap.size w wr) (fun _ i _ => n - (intOf i).toNat)
  case atStart => exact ⟨0, Nat.zero_le _, rfl, rfl, Below.refl _ _⟩
  case round =>
    obtain ⟨k, hk, rfl, rfl, hbel⟩ := hrel
    by_cases hlt : k < n
    · have hk2 : k < ns.length := by rw [HN.out]; exact hlt
      have hnk : Hid (ns[k].length = 12) := H12.out _ (List.getElem_mem hk2)
      have hrg : Hid (wr.rangeAt b (k * 12) (bC ns[k]).toList) := NamesAt.range (w := wr) ((hbel.block b hbl).trans HB.out) H12.out k hk2
      generalize ns[k] = nk at *
      have hz : w.heap.size ≤ wr.heap.size := hbel.size
      go_wp2_with (first
        | (with_reducible refine ldmid rfl _ rfl b k rfl nk hnk.out hrg.out ?_)
        | (with_reducible refine ld23 rfl _ rfl wr.heap.size rfl nk hnk.out (0, 0) (heap_alloc_new _ _) ?_)
        | (rw [← bC_z12]; with_reducible refine st23n rfl _ _ rfl nk rfl rfl hnk.out ?_)
        | (go_at_call 19; (with_reducible refine (has_nil nk _ hnk.out).mono ?_); rintro e w1 ⟨rfl, hb1⟩))
      go_roundw
      case rel =>
        refine ⟨k + 1, by omega, by go_num, rfl, ?_⟩
        exact (hbel.alloc hz _).trans (hb1.mono (by simp; omega))
      case measure => simp [intOf]; omega
    · go_wp2_with fail
      go_ret
      exact ⟨rfl, hbel⟩

theorem add_nil (v : Value) (w : World) : Calls Try.prog 18 #[.pointer none, v] w fun e w' => e = .returned (.int .i64 0) ∧ w = w' := by
  go_enter Try.func18, Try.ntmps18
  go_wp2
  go_ret
  exact ⟨rfl, rfl⟩
theorem list_nil (w : World) : Calls Try.prog 27 #[.pointer none] w fun e w' => e = .returned (.slice none 0 0) ∧ w = w' := by
  go_enter Try.func27, Try.ntmps27
  go_wp2
  go_ret
  exact ⟨rfl, rfl⟩

end Go.Proofs.Ytbflliiaigkmgaa
