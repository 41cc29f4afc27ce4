/- Keys: bytes copied, Tag's Bytes, Key's Bytes, bytes.Compare, Less. -/
import Derived.Test.YtagdedjclbmlkaaG3
import Derived.Test.YtagdedjclbmlkaaG4
import Derived.Test.YtagdedjclbmlkaaG5
import Derived.Test.YtagdedjclbmlkaaGI
import Derived.Laws.CopyOwn
import Derived.StillTailTactics
import Derived.Lib.BytesEntry
import Derived.Lib.Bytealg
import Derived.Lib.SmallJoins
namespace Go.Proofs.Ytagdedjclbmlkaa
open Go.RowKit

def tag0 : List UInt8 := List.replicate 10 0
theorem siz10A : (Try.prog.info? 38).map (·.size) = some 10 := by kernel_rfl
def ovl (c : List UInt8) (o : Nat) (l : List UInt8) : List UInt8 := c.take o ++ l ++ c.drop (o + l.length)
theorem ovl_len {c : List UInt8} {o : Nat} {l : List UInt8} (h : o + l.length ≤ c.length) : (ovl c o l).length = c.length := by
  unfold ovl; simp; omega
theorem range_sub {w : World} {g o : Nat} {b : List UInt8} (h : w.rangeAt g o (bC b).toList) (s n : Nat) : w.rangeAt g (o + s) (bC ((b.drop s).take n)).toList := fun j v hv => by
  have hj : j < ((b.drop s).take n).length := by have := (List.getElem?_eq_some_iff.1 hv).1; simpa [bC] using this
  rw [Nat.add_assoc]
  refine h (s + j) v ?_
  rw [← hv]
  simp only [bC, List.getElem?_map]
  congr 1
  rw [List.length_take, List.length_drop] at hj
  rw [List.getElem?_take_of_lt (by omega), List.getElem?_drop]
section
variable {ops : Array Oper} {rest : List Oper} {o : Oper} {a : Act} {w : World} {Q : Exit → Act → World → Prop}
/-- copy of bytes into a row of bytes. -/
theorem cp_bytes (hgd : o.guard = none) (d s : Operand) (ho : o.op = .call { callee := .builtin .copy, args := #[d, s], argTypes := #[109, 109] }) (g off dLen dCap b so sLen sCap : Nat)
    (hd : a.eval d = .slice (some ⟨g, off, none⟩) dLen dCap) (hs : a.eval s = .slice (some ⟨b, so, none⟩) sLen sCap) (c : List UInt8) (t : TypeId) (hg : w.heap[g]? = some (.cells (bC c) t (0, 0))) (l : List UInt8) (hn : l.length = Nat.min sLen dLen)
    (hr : w.rangeAt b so (bC l).toList) (hfit : off + l.length ≤ c.length)
    (h : wpList Try.prog ops Q rest (a.put o.dst (goInt l.length)) (w.setRow g (bC (ovl c off l)))) : wpList Try.prog ops Q (o :: rest) a w := by
  have hl : (bC l).toList.length = l.length := by simp [bC]
  refine wpList_copy_own hgd d s 109 109 ho 5 Try.underlying109 (by kernel_rfl) g off dLen dCap ⟨b, so, none⟩ sLen sCap hd hs (bC c) t hg (bC l).toList (by rw [hl, hn]) (fun j v hv => by rw [Addr.add_mid]; exact hr j v hv) (by rw [hl, bC_size]; exact hfit) (fun v hv => by
    obtain ⟨x, _, rfl⟩ := List.mem_map.1 (by simpa [bC] using hv : v ∈ l.map fun b => Value.int .u8 (b.toNat : Int)); rfl) ?_
  rw [hl]
  have e : ((bC c).toList.take off ++ ((bC l).toList ++ (bC c).toList.drop (off + l.length))).toArray = bC (ovl c off l) := by
    simp [bC, ovl, List.map_take, List.map_drop]
  rw [e]; exact h
end
section
variable {ops : Array Oper} {rest : List Oper} {o : Oper} {a : Act} {w : World} {Q : Exit → Act → World → Prop}
/-- A row of bytes stored into the middle of another one. -/
theorem st_mid (hgd : o.guard = none) (ty : TypeId) (x y : Operand) (ho : o.op = .store ty x y) (g off : Nat) (c l : List UInt8) (t : TypeId) (hg : w.heap[g]? = some (.cells (bC c) t (0, 0)))
    (hx : a.eval x = .pointer (some ⟨g, off, none⟩)) (hy : a.eval y = .agg (bC l)) (hi : (Try.prog.info? ty).map (·.size) = some l.length) (hfit : off + l.length ≤ c.length)
    (h : wpList Try.prog ops Q rest (a.put o.dst undef) (w.setRow g (bC (ovl c off l)))) : wpList Try.prog ops Q (o :: rest) a w := by
  refine wpList_plain hgd fun K hK => ?_
  have hst := run_storeCells_at Try.prog g off t (bC l).toList 0 (bC c) w hg (by rw [bC_size]; simpa [bC] using hfit) (fun v hv => (Array.all_eq_true_iff_forall_mem.1 (bC_one l)) v (by simpa using hv))
  have e : ((bC c).toList.take off ++ (bC l).toList ++ (bC c).toList.drop (off + (bC l).toList.length)).toArray = bC (ovl c off l) := by
    simp [bC, ovl, List.map_take, List.map_drop]
  simp only [Nat.add_zero] at hst
  rw [e] at hst
  unfold Oper.wp execOp
  cases hq : Try.prog.info? ty with
  | none => simp [hq] at hi
  | some i =>
    have hs : l.length = i.size := by simp [hq] at hi; omega
    have hs2 : (bC l).size = i.size := by rw [bC_size, hs]
    have hrun : (storeVar ty ⟨g, off, none⟩ (.agg (bC l))).run Try.prog w = .ok () (w.setRow g (bC (ovl c off l))) := by
      simp [storeVar, sizeOf, typeInfo, hq, Value.cells, hs2, hst]
    simp only [ho, hx, hy, Instr.storeAt, Instr.sureAddr, Sem.run_bind, Sem.run_pure, Result.andThen_ok, hrun]
    exact hK _ _ h
/-- A row of bytes out of the middle of another one. -/
theorem ld_mid (hgd : o.guard = none) (ty : TypeId) (x : Operand) (ho : o.op = .load ty x) (g off : Nat) (c : List UInt8) (n : Nat) (t : TypeId) (d : TypeDesc) (hu : Try.prog.underlying ty = some d) (hd : d.isRow = true) (hg : w.heap[g]? = some (.cells (bC c) t (0, 0)))
    (hx : a.eval x = .pointer (some ⟨g, off, none⟩)) (hi : (Try.prog.info? ty).map (·.size) = some n) (hfit : off + n ≤ c.length)
    (h : wpList Try.prog ops Q rest (a.put o.dst (.agg (bC ((c.drop off).take n)))) w) : wpList Try.prog ops Q (o :: rest) a w := by
  have hr := range_sub (range_whole (w := w) (g := g) (vs := (bC c).toList) (by simpa using hg)) off n
  rw [Nat.zero_add] at hr
  refine wl_ldr (by unfold Region.wanted; rw [hgd]) ty x ho g off (bC ((c.drop off).take n)).toList d hu hd (by rw [hi]; simp [bC]; omega) hx hr (by simpa using h)
end
theorem eqInB (w : World) (d : Nat) (ty : TypeId) (n : Nat) (hu : Try.prog.underlying ty = some (.array n 5)) (xs ys : List UInt8) (hx : xs.length = n) (hy : ys.length = n) : (Op.equalIn (d + 2) ty (.agg (bC xs)) (.agg (bC ys))).run Try.prog w = .ok (xs == ys) w := by
  have := run_equalIn_bytes (P := Try.prog) w d ty 5 n hu Try.underlying5 (fun _ => by kernel_rfl) xs ys hx hy
  exact this
theorem neqB (w : World) (ty : TypeId) (n : Nat) (hu : Try.prog.underlying ty = some (.array n 5)) (xs ys : List UInt8) (hx : xs.length = n) (hy : ys.length = n) : (binOp .neq ty (.agg (bC xs)) (.agg (bC ys))).run Try.prog w = .ok (.bool (!(xs == ys))) w := by
  rw [run_neq_struct]
  show ((Op.equalIn (9998 + 2) ty (.agg (bC xs)) (.agg (bC ys))).run Try.prog w).andThen _ = _
  rw [eqInB w 9998 ty n hu xs ys hx hy]; rfl
theorem ovl_three (b : List UInt8) (hb : b.length = 10) : ovl (ovl (ovl tag0 0 (b.take 3)) 3 ((b.drop 3).take 4)) 7 (b.drop 7) = b := by
  obtain ⟨c0, c1, c2, c3, c4, c5, c6, c7, c8, c9, rfl⟩ : ∃ c0 c1 c2 c3 c4 c5 c6 c7 c8 c9, b = [c0, c1, c2, c3, c4, c5, c6, c7, c8, c9] := by
    rcases b with _ | ⟨c0, _ | ⟨c1, _ | ⟨c2, _ | ⟨c3, _ | ⟨c4, _ | ⟨c5, _ | ⟨c6, _ | ⟨c7, _ | ⟨c8, _ | ⟨c9, _ | ⟨c10, n⟩⟩⟩⟩⟩⟩⟩⟩⟩⟩⟩ <;> simp at hb
    exact ⟨c0, c1, c2, c3, c4, c5, c6, c7, c8, c9, rfl⟩
  rfl
structure CpSt (w : World) (b c : List UInt8) (T T' : TypeId) (wx : World) : Prop where
  bel : Below w.heap.size w wx
  src : wx.heap[w.heap.size]? = some (.cells (bC b) T (0, 0))
  res : ∃ r, r.length = 10 ∧ wx.heap[w.heap.size + 1]? = some (.cells (bC r) T' (0, 0))
  dst : wx.heap[w.heap.size + 1 + 1]? = some (.cells (bC c) T' (0, 0))
theorem CpSt.step {w wx : World} {b c c' : List UInt8} {T T' : TypeId} (h : CpSt w b c T T' wx) : CpSt w b c' T T' (wx.setRow (w.heap.size + 1 + 1) (bC c')) := by
  obtain ⟨r, hr, hr2⟩ := h.res
  exact ⟨setRow_below h.bel (by omega) _, by rw [setRow_other _ _ _ _ (by omega)]; exact h.src, ⟨r, hr, by rw [setRow_other _ _ _ _ (by omega)]; exact hr2⟩, setRow_at h.dst⟩
theorem CpSt.start (w : World) (b : List UInt8) (T T' : TypeId) : CpSt w b tag0 T T' (((w.alloc (.cells (bC b) T)).alloc (.cells (bC tag0) T')).alloc (.cells (bC tag0) T')) := by
  refine ⟨(below_alloc2 _ _ _).alloc (by simp; omega) _, ?_, ⟨tag0, rfl, ?_⟩, ?_⟩
  · rw [heap_alloc_old _ _ (by simp; omega)]; exact heap_alloc2_old _ _ _
  · rw [heap_alloc_old _ _ (by simp)]; exact heap_alloc2_new _ _ _
  · have := heap_alloc_new ((w.alloc (.cells (bC b) T)).alloc (.cells (bC tag0) T')) (.cells (bC tag0) T'); simpa using this
theorem CpSt.drew {w wx : World} {b c : List UInt8} {T T' : TypeId} (h : CpSt w b c T T' wx) : CpSt w b c T T' wx.drew := ⟨h.bel.drew, h.src, h.res, h.dst⟩
set_option maxRecDepth 100000 in
set_option maxHeartbeats 4000000 in
theorem tagBytes_any (b : List UInt8) (w : World) (hb : b.length = 10) :
    Calls Try.prog 49 #[.agg (bC b)] w fun e w' => e = .returned (.agg (bC b)) ∧ Below w.heap.size w w' := by
  have H10 := Lib.hid hb
  have HO := Lib.hid (ovl_three b hb)
  have HS0 : Hid (CpSt w b tag0 28 38 (((w.alloc (.cells (bC b) 28)).alloc (.cells (bC tag0) 38)).alloc (.cells (bC tag0) 38))) := CpSt.start w b _ _
  clear hb
  go_enter Try.func49, Try.ntmps49
  go_upto_region 2 with fail
  rw [show (Obj.cells #[Value.int IntKind.u8 0, Value.int IntKind.u8 0, Value.int IntKind.u8 0, Value.int IntKind.u8 0, Value.int IntKind.u8 0, Value.int IntKind.u8 0, Value.int IntKind.u8 0, Value.int IntKind.u8 0, Value.int IntKind.u8 0, Value.int IntKind.u8 0] 38) = Obj.cells (bC tag0) 38 from rfl]
  generalize (((w.alloc (.cells (bC b) 28)).alloc (.cells (bC tag0) 38)).alloc (.cells (bC tag0) 38)) = W1 at *
  go_still_tail 3, (by kernel_rfl)
  refine cp_bytes (w := W1.drew) rfl (.tmp 4) (.tmp 6) rfl (w.heap.size + 1 + 1) 0 3 10 w.heap.size 0 3 3 rfl rfl tag0 _ HS0.out.drew.dst (b.take 3) (by simp [H10.out]) (by have := range_sub (range_whole (w := W1.drew) (g := w.heap.size) (vs := (bC b).toList) (by simpa using HS0.out.drew.src)) 0 3; simpa using this) (by simp [ovl, tag0, H10.out]) ?_
  have HS1 := Lib.hid (CpSt.step (c' := ovl tag0 0 (b.take 3)) HS0.out.drew)
  generalize W1.drew.setRow (w.heap.size + 1 + 1) (bC (ovl tag0 0 (b.take 3))) = W2 at *
  go_wp2_with fail
  go_still_tail 3, (by kernel_rfl)
  refine cp_bytes (w := W2.drew) rfl (.tmp 8) (.tmp 10) rfl (w.heap.size + 1 + 1) 3 4 7 w.heap.size 3 4 4 rfl rfl (ovl tag0 0 (b.take 3)) _ HS1.out.drew.dst ((b.drop 3).take 4) (by simp [H10.out]) (by have := range_sub (range_whole (w := W2.drew) (g := w.heap.size) (vs := (bC b).toList) (by simpa using HS1.out.drew.src)) 3 4; simpa using this) (by simp [ovl, tag0, H10.out]) ?_
  have HS2 := Lib.hid (CpSt.step (c' := ovl (ovl tag0 0 (b.take 3)) 3 ((b.drop 3).take 4)) HS1.out.drew)
  generalize W2.drew.setRow (w.heap.size + 1 + 1) (bC (ovl (ovl tag0 0 (b.take 3)) 3 ((b.drop 3).take 4))) = W3 at *
  go_wp2_with fail
  go_still_tail 3, (by kernel_rfl)
  refine cp_bytes (w := W3.drew) rfl (.tmp 12) (.tmp 14) rfl (w.heap.size + 1 + 1) 7 3 3 w.heap.size 7 3 3 rfl rfl (ovl (ovl tag0 0 (b.take 3)) 3 ((b.drop 3).take 4)) _ HS2.out.drew.dst ((b.drop 7).take 3) (by simp [H10.out]) (by have := range_sub (range_whole (w := W3.drew) (g := w.heap.size) (vs := (bC b).toList) (by simpa using HS2.out.drew.src)) 7 3; simpa using this) (by simp [ovl, tag0, H10.out]) ?_
  have HS3 := Lib.hid (CpSt.step (c' := ovl (ovl (ovl tag0 0 (b.take 3)) 3 ((b.drop 3).take 4)) 7 ((b.drop 7).take 3)) HS2.out.drew)
  generalize W3.drew.setRow (w.heap.size + 1 + 1) (bC (ovl (ovl (ovl tag0 0 (b.take 3)) 3 ((b.drop 3).take 4)) 7 ((b.drop 7).take 3))) = W4 at *
  have e7 : (b.drop 7).take 3 = b.drop 7 := List.take_of_length_le (by simp [H10.out])
  rw [e7, HO.out] at HS3
  clear HS0 HS1 HS2 HO e7
  obtain ⟨r, hr, hr2⟩ := HS3.out.res
  have HR2 := Lib.hid hr2
  have HR := Lib.hid hr
  clear hr hr2
  go_wp2_with (first
    | ((with_reducible refine gate_ld 38 _ rfl ?_); refine wl_ldr rfl _ _ rfl (w.heap.size + 1 + 1) 0 (bC b).toList _ Try.underlying38 rfl (by rw [siz10A]; simp [bC, H10.out]) rfl (range_whole (by simpa using HS3.out.dst)) ?_)
    | ((with_reducible refine gate_st 38 _ _ rfl ?_); refine wl_str rfl 38 _ _ rfl (w.heap.size + 1) (bC b) (bC r) _ (by rw [siz10A, bC_size, H10.out]) (by rw [bC_size, bC_size, H10.out, HR.out]) (bC_one _) rfl rfl HR2.out ?_))
  refine bodyPost_ret (res_rowc (P := Try.prog) (T := 38) (T' := 38) rfl _ _ (w.heap.size + 1) (bC b) (0, 0) rfl (setRow_at HR2.out) Try.underlying38 rfl (by rw [siz10A, bC_size, H10.out])) rfl ⟨rfl, setRow_below HS3.out.bel (by omega) _⟩
theorem rg_callB {W : World} {f : FuncId} {args : Array Value} {v : Value} (h : ∀ w, Below W.heap.size W w → Calls Try.prog f args w fun e w' => e = .returned v ∧ Below w.heap.size w w') (d : Nat) (os : Array Obj) :
    Calls Try.prog f args (Sort.grow (redrawn W d) os) fun e w'' => e = .returned v ∧ ∃ p : Regrown, w'' = Sort.grow (redrawn W p.d) p.os := Calls.regrown_of (h _ (below_regrown W d os))
theorem kp {k : Nat} {X : Obj} {W W' : World} (h : Hid (W.heap[k]? = some X)) (hb : Below W.heap.size W W') : Hid (W'.heap[k]? = some X) := (hb.block k (lt_heap h.out)).trans h.out
theorem bt {w W W' : World} (h : Hid (Below w.heap.size w W)) (hb : Below W.heap.size W W') : Hid (Below w.heap.size w W') := h.out.trans (hb.mono h.out.size)
/-- The model's entry bytealg.Compare at two slices. -/
theorem run_load5 {P : Program} (w : World) (b o : Nat) (xs : List UInt8) (h : w.rangeAt b o (bC xs).toList) : (Extern.Bytes.loadBytes ⟨b, o, none⟩ xs.length .empty).run P w = .ok ⟨xs.toArray⟩ w := by
  have hl := Lib.run_loadBytesX (P := P) w (xs.map fun x => (x.toNat : Int)) ⟨b, o, none⟩ .empty (fun j x hj => by
    rw [Addr.add_mid]
    rw [List.getElem?_map] at hj
    obtain ⟨y, hy, rfl⟩ := Option.map_eq_some_iff.1 hj
    exact h j _ (by simp [bC, hy]))
  rw [List.length_map] at hl
  rw [hl]
  congr 1
  refine ByteArray.ext (Array.toList_inj.1 ?_)
  show (#[] ++ (Lib.bytesOf (xs.map fun x => (x.toNat : Int))).toArray : Array UInt8).toList = xs
  simp only [Lib.bytesOf, Array.empty_append, List.map_map]
  conv => rhs; rw [← List.map_id xs]
  apply List.map_congr_left
  intro x _
  simp
theorem run_compare5 {P : Program} (w : World) (b o n c b' o' n' c' : Nat) (xs ys : List UInt8) (hx : xs.length = n) (hy : ys.length = n') (h : w.rangeAt b o (bC xs).toList) (h' : w.rangeAt b' o' (bC ys).toList) :
    (Extern.BytealgCompare.compare #[.slice (some ⟨b, o, none⟩) n c, .slice (some ⟨b', o', none⟩) n' c']).run P w = .ok (.int .i64 (Lib.compareBytes xs ys)) w := by
  have h1 := run_load5 (P := P) w b o xs h
  have h2 := run_load5 (P := P) w b' o' ys h'
  rw [hx] at h1
  rw [hy] at h2
  change Sem.run P (do pure (goInt (Extern.BytealgCompare.cmp (← Extern.Bytes.bytesOf (.slice (some ⟨b, o, none⟩) n c)) (← Extern.Bytes.bytesOf (.slice (some ⟨b', o', none⟩) n' c'))))) w = _
  simp only [Extern.Bytes.bytesOf, Sem.run_bind, Sem.run_pure, h1, h2, Result.andThen_ok]
  rw [Lib.cmp_eq]
  rfl
set_option maxRecDepth 100000 in
theorem compare_any (b o n c b' o' n' c' : Nat) (xs ys : List UInt8) (w : World) (hx : xs.length = n) (hy : ys.length = n') (h : w.rangeAt b o (bC xs).toList) (h' : w.rangeAt b' o' (bC ys).toList) :
    Calls Try.prog 48 #[.slice (some ⟨b, o, none⟩) n c, .slice (some ⟨b', o', none⟩) n' c'] w fun e w' => e = .returned (.int .i64 (Lib.compareBytes xs ys)) ∧ w = w' := by
  have hc := run_compare5 (P := Try.prog) w b o n c b' o' n' c' xs ys hx hy h h'
  clear h h'
  go_enter Try.func48, Try.ntmps48
  go_wp2_with fail
  rw [run_callFunc_extern Try.func62 (by kernel_rfl) (by kernel_rfl) (by kernel_rfl) (e := Extern.BytealgCompare.compare) (by kernel_rfl), hc]
  simp only [Result.andThen]
  rw [Oper.upon_value]
  go_wp2_with fail
  go_ret
  exact ⟨rfl, rfl⟩
end Go.Proofs.Ytagdedjclbmlkaa
