/- The document's In; bytes.Compare. -/
import Derived.Test.YtnambaiafailaaaDoorTCh5
import Derived.Test.YtnambaiafailaaaDoorTP5
import Derived.Test.YtnambaiafailaaaDoorW5
import Derived.Lib.BytesEntry
import Derived.Lib.Bytealg
namespace Go.Proofs.YtnambaiafailaaaDoor
open Go.RowKit

def inT (t : T3) (xs : List T3) : Bool := decide (t ∈ xs)
set_option maxRecDepth 100000 in
set_option maxHeartbeats 4000000 in
theorem refIn_any (q : Option Addr) (xs : List T3) (n cap : Nat) (t : T3) (w : World) (hn : xs.length = n) (hn2 : n ≤ 1000000) (hS : SlAt e3 3 w q xs) :
    Calls Tryd.prog 30 #[.slice q n cap, .agg (tC t)] w fun e w' => e = .returned (.bool (inT t xs)) ∧ Below w.heap.size w w' := by
  have FX : Hid ((w.alloc (.cells (tC t) 23)).heap[w.heap.size]? = some (Obj.cells (tC t) 23 (0, 0))) := heap_alloc_new _ _
  have HB : Hid (Below w.heap.size w (w.alloc (.cells (tC t) 23))) := below_alloc1 _ _
  have HS := Lib.hid (hS.below (below_alloc1 w (.cells (tC t) 23)))
  have HL := Lib.hid hn
  clear hn hS
  go_enter Tryd.func30, Tryd.ntmps30
  go_wp2_with fail
  generalize (w.alloc (.cells (tC t) 23)) = W0 at *
  go_loopw [5] (fun i wr => ∃ j : Nat, j ≤ n ∧ i = .int .i64 j ∧ Hid (∀ x ∈ xs.take j, x ≠ t) ∧ Hid (Below w.heap.size w wr) ∧ Hid (SlAt e3 3 wr q xs) ∧ Hid (wr.heap[w.heap.size]? = some (Obj.cells (tC t) 23 (0, 0)))) (fun i _ => n - (intOf i).toNat)
  case atStart => exact ⟨0, Nat.zero_le _, rfl, fun x hx => by simp at hx, HB.out, HS.out, FX.out⟩
  case round =>
    obtain ⟨j, hj, rfl, HN, HB1, HS1, FX1⟩ := hrel
    clear HB HS FX
    by_cases hlt : j < n
    · have hli : (j : Int) < n := by omega
      have hjx : j < xs.length := by rw [HL.out]; exact hlt
      obtain ⟨b, f, rfl, hb, hr⟩ := HS1.out j hjx
      have HR := Lib.hid (InRow.mk hb hr)
      have HM : Hid (xs[j] ∈ xs) := List.getElem_mem _
      have HT : Hid (xs.take (j + 1) = xs.take j ++ [xs[j]]) := List.take_succ_eq_append_getElem hjx
      clear hb hr
      generalize xs[j] = x at *
      by_cases hx : x = t
      · have hq : ∀ W, (binOp .eql 23 (.agg (tC x)) (.agg (tC t))).run Tryd.prog W = .ok (.bool true) W := fun W => by rw [eql3, decide_eq_true hx]
        have HX := Lib.hid hx
        clear hx
        go_upto_region 4 with fail
        refine wp_region_quiet_below (by kernel_rfl) (by kernel_rfl) ?_
        repeat (first
          | (refine wq_ix _ rfl 48 23 _ _ rfl Tryd.underlying48 3 siz23 b f _ cap j rfl rfl hlt ?_; simp only [Act.put, List.setIfInBounds_toArray, List.set_cons_zero, List.set_cons_succ])
          | (refine wq_e3 rfl _ rfl b (f + j * 3) x rfl HR.out.row HR.out.lt ?_; simp only [Act.put, List.setIfInBounds_toArray, List.set_cons_zero, List.set_cons_succ])
          | (with_reducible refine wq_3 rfl _ rfl w.heap.size t rfl FX1.out ?_; simp only [Act.put, List.setIfInBounds_toArray, List.set_cons_zero, List.set_cons_succ])
          | go_big_quiet_step (fail))
        refine wpQuiet_nil ?_
        rintro _ ⟨⟨dq, osq⟩, rfl⟩
        have HB2 := bt HB1 (below_regrown wr dq osq)
        go_wp2_with fail
        go_ret
        exact ⟨ret_bool (by unfold inT; rw [← HX.out]; exact (decide_eq_true HM.out).symm), HB2.out⟩
      · have HN2 : Hid (∀ y ∈ xs.take (j + 1), y ≠ t) := fun y hy => by
          rw [HT.out, List.mem_append, List.mem_singleton] at hy
          rcases hy with hy | hy
          · exact HN.out y hy
          · rw [hy]; exact hx
        have hq : ∀ W, (binOp .eql 23 (.agg (tC x)) (.agg (tC t))).run Tryd.prog W = .ok (.bool false) W := fun W => by rw [eql3, decide_eq_false hx]
        have HX := Lib.hid hx
        clear hx
        go_upto_region 4 with fail
        refine wp_region_quiet_below (by kernel_rfl) (by kernel_rfl) ?_
        repeat (first
          | (refine wq_ix _ rfl 48 23 _ _ rfl Tryd.underlying48 3 siz23 b f _ cap j rfl rfl hlt ?_; simp only [Act.put, List.setIfInBounds_toArray, List.set_cons_zero, List.set_cons_succ])
          | (refine wq_e3 rfl _ rfl b (f + j * 3) x rfl HR.out.row HR.out.lt ?_; simp only [Act.put, List.setIfInBounds_toArray, List.set_cons_zero, List.set_cons_succ])
          | (with_reducible refine wq_3 rfl _ rfl w.heap.size t rfl FX1.out ?_; simp only [Act.put, List.setIfInBounds_toArray, List.set_cons_zero, List.set_cons_succ])
          | go_big_quiet_step (fail))
        refine wpQuiet_nil ?_
        rintro _ ⟨⟨dq, osq⟩, rfl⟩
        have hbq := below_regrown wr dq osq
        have HB2 := bt HB1 hbq
        have HS2 := ks HS1 hbq
        have FX2 := kp FX1 hbq
        clear hbq HB1 HS1 FX1
        generalize Sort.grow (redrawn wr dq) osq = W2 at *
        go_wp2_with fail
        go_roundw
        case rel => exact ⟨j + 1, by omega, by go_num, HN2.out, HB2.out, HS2.out, FX2.out⟩
        case measure => simp [intOf]; omega
    · obtain rfl : j = n := by omega
      have HX : Hid (inT t xs = false) := by
        refine decide_eq_false fun hm => ?_
        have := HN.out t (by rw [List.take_of_length_le (Nat.le_of_eq HL.out)]; exact hm)
        exact this rfl
      go_wp2_with fail
      go_ret
      exact ⟨ret_bool HX.out.symm, HB1.out⟩
/-- The model's entry bytealg.Compare at two slices. -/
theorem run_load5 {P : Program} (w : World) (b o : Nat) (xs : List UInt8) (h : w.rangeAt b o (bC xs).toList) : (Extern.Bytes.loadBytes ⟨b, o, none⟩ xs.length .empty).run P w = .ok ⟨xs.toArray⟩ w := by
  have hl := Lib.run_loadBytesX (P := P) w (xs.map fun x => (x.toNat : Int)) ⟨b, o, none⟩ .empty (fun j x hj => by
    rw [Addr.add_mid]
    rw [List.getElem?_map] at hj
    obtain ⟨y, hy, rfl⟩ := Option.map_eq_some_iff.1 hj
    exact h j _ (by simp [bC, hy]))
  rw [List.length_map] at hl
  rw [hl]
  congr 1
  refine ByteArray.ext (Array.toList_inj.1 ?_)
  show (#[] ++ (Lib.bytesOf (xs.map fun x => (x.toNat : Int))).toArray : Array UInt8).toList = xs
  simp only [Lib.bytesOf, Array.empty_append, List.map_map]
  conv => rhs; rw [← List.map_id xs]
  apply List.map_congr_left
  intro x _
  simp
theorem run_compare5 {P : Program} (w : World) (b o n c b' o' n' c' : Nat) (xs ys : List UInt8) (hx : xs.length = n) (hy : ys.length = n') (h : w.rangeAt b o (bC xs).toList) (h' : w.rangeAt b' o' (bC ys).toList) :
    (Extern.BytealgCompare.compare #[.slice (some ⟨b, o, none⟩) n c, .slice (some ⟨b', o', none⟩) n' c']).run P w = .ok (.int .i64 (Lib.compareBytes xs ys)) w := by
  have h1 := run_load5 (P := P) w b o xs h
  have h2 := run_load5 (P := P) w b' o' ys h'
  rw [hx] at h1
  rw [hy] at h2
  change Sem.run P (do pure (goInt (Extern.BytealgCompare.cmp (← Extern.Bytes.bytesOf (.slice (some ⟨b, o, none⟩) n c)) (← Extern.Bytes.bytesOf (.slice (some ⟨b', o', none⟩) n' c'))))) w = _
  simp only [Extern.Bytes.bytesOf, Sem.run_bind, Sem.run_pure, h1, h2, Result.andThen_ok]
  rw [Lib.cmp_eq]
  rfl
set_option maxRecDepth 100000 in
theorem compare_any (b o n c b' o' n' c' : Nat) (xs ys : List UInt8) (w : World) (hx : xs.length = n) (hy : ys.length = n') (h : w.rangeAt b o (bC xs).toList) (h' : w.rangeAt b' o' (bC ys).toList) :
    Calls Tryd.prog 58 #[.slice (some ⟨b, o, none⟩) n c, .slice (some ⟨b', o', none⟩) n' c'] w fun e w' => e = .returned (.int .i64 (Lib.compareBytes xs ys)) ∧ w = w' := by
  have hc := run_compare5 (P := Tryd.prog) w b o n c b' o' n' c' xs ys hx hy h h'
  clear h h'
  go_enter Tryd.func58, Tryd.ntmps58
  go_wp2_with fail
  rw [run_callFunc_extern Tryd.func80 (by kernel_rfl) (by kernel_rfl) (by kernel_rfl) (e := Extern.BytealgCompare.compare) (by kernel_rfl), hc]
  simp only [Result.andThen]
  rw [Oper.upon_value]
  go_wp2_with fail
  go_ret
  exact ⟨rfl, rfl⟩
end Go.Proofs.YtnambaiafailaaaDoor
