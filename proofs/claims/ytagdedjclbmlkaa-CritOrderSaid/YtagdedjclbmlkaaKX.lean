/- Texts joined: KX. -/
import Derived.Test.YtagdedjclbmlkaaGX
import Derived.Laws.CopyOwn
import Derived.StillTailTactics
import Derived.Lib.BytesEntry
import Derived.Lib.Bytealg
import Derived.Lib.SmallJoins
import Derived.Laws.StructEq
/- Keys: bytes copied, Tag's Bytes, Key's Bytes, bytes.Compare, Less. -/
namespace Go.Proofs.Ytagdedjclbmlkaa
open Go.RowKit

def tag0 : List UInt8 := List.replicate 10 0
theorem siz10A : (Try.prog.info? 38).map (·.size) = some 10 := by kernel_rfl
def ovl (c : List UInt8) (o : Nat) (l : List UInt8) : List UInt8 := c.take o ++ l ++ c.drop (o + l.length)
theorem ovl_len {c : List UInt8} {o : Nat} {l : List UInt8} (h : o + l.length ≤ c.length) : (ovl c o l).length = c.length := by
  unfold ovl; simp; omega
theorem range_sub {w : World} {g o : Nat} {b : List UInt8} (h : w.rangeAt g o (bC b).toList) (s n : Nat) : w.rangeAt g (o + s) (bC ((b.drop s).take n)).toList := fun j v hv => by
  have hj : j < ((b.drop s).take n).length := by have := (List.getElem?_eq_some_iff.1 hv).1; simpa [bC] using this
  rw [Nat.add_assoc]
  refine h (s + j) v ?_
  rw [← hv]
  simp only [bC, List.getElem?_map]
  congr 1
  rw [List.length_take, List.length_drop] at hj
  rw [List.getElem?_take_of_lt (by omega), List.getElem?_drop]
section
variable {ops : Array Oper} {rest : List Oper} {o : Oper} {a : Act} {w : World} {Q : Exit → Act → World → Prop}
/-- copy of bytes into a row of bytes. -/
theorem cp_bytes (hgd : o.guard = none) (d s : Operand) (ho : o.op = .call { callee := .builtin .copy, args := #[d, s], argTypes := #[109, 109] }) (g off dLen dCap b so sLen sCap : Nat)
    (hd : a.eval d = .slice (some ⟨g, off, none⟩) dLen dCap) (hs : a.eval s = .slice (some ⟨b, so, none⟩) sLen sCap) (c : List UInt8) (t : TypeId) (hg : w.heap[g]? = some (.cells (bC c) t (0, 0))) (l : List UInt8) (hn : l.length = Nat.min sLen dLen)
    (hr : w.rangeAt b so (bC l).toList) (hfit : off + l.length ≤ c.length)
    (h : wpList Try.prog ops Q rest (a.put o.dst (goInt l.length)) (w.setRow g (bC (ovl c off l)))) : wpList Try.prog ops Q (o :: rest) a w := by
  have hl : (bC l).toList.length = l.length := by simp [bC]
  refine wpList_copy_own hgd d s 109 109 ho 5 Try.underlying109 (by kernel_rfl) g off dLen dCap ⟨b, so, none⟩ sLen sCap hd hs (bC c) t hg (bC l).toList (by rw [hl, hn]) (fun j v hv => by rw [Addr.add_mid]; exact hr j v hv) (by rw [hl, bC_size]; exact hfit) (fun v hv => by
    obtain ⟨x, _, rfl⟩ := List.mem_map.1 (by simpa [bC] using hv : v ∈ l.map fun b => Value.int .u8 (b.toNat : Int)); rfl) ?_
  rw [hl]
  have e : ((bC c).toList.take off ++ ((bC l).toList ++ (bC c).toList.drop (off + l.length))).toArray = bC (ovl c off l) := by
    simp [bC, ovl, List.map_take, List.map_drop]
  rw [e]; exact h
end
section
variable {ops : Array Oper} {rest : List Oper} {o : Oper} {a : Act} {w : World} {Q : Exit → Act → World → Prop}
/-- A row of bytes stored into the middle of another one. -/
theorem st_mid (hgd : o.guard = none) (ty : TypeId) (x y : Operand) (ho : o.op = .store ty x y) (g off : Nat) (c l : List UInt8) (t : TypeId) (hg : w.heap[g]? = some (.cells (bC c) t (0, 0)))
    (hx : a.eval x = .pointer (some ⟨g, off, none⟩)) (hy : a.eval y = .agg (bC l)) (hi : (Try.prog.info? ty).map (·.size) = some l.length) (hfit : off + l.length ≤ c.length)
    (h : wpList Try.prog ops Q rest (a.put o.dst undef) (w.setRow g (bC (ovl c off l)))) : wpList Try.prog ops Q (o :: rest) a w := by
  refine wpList_plain hgd fun K hK => ?_
  have hst := run_storeCells_at Try.prog g off t (bC l).toList 0 (bC c) w hg (by rw [bC_size]; simpa [bC] using hfit) (fun v hv => (Array.all_eq_true_iff_forall_mem.1 (bC_one l)) v (by simpa using hv))
  have e : ((bC c).toList.take off ++ (bC l).toList ++ (bC c).toList.drop (off + (bC l).toList.length)).toArray = bC (ovl c off l) := by
    simp [bC, ovl, List.map_take, List.map_drop]
  simp only [Nat.add_zero] at hst
  rw [e] at hst
  unfold Oper.wp execOp
  cases hq : Try.prog.info? ty with
  | none => simp [hq] at hi
  | some i =>
    have hs : l.length = i.size := by simp [hq] at hi; omega
    have hs2 : (bC l).size = i.size := by rw [bC_size, hs]
    have hrun : (storeVar ty ⟨g, off, none⟩ (.agg (bC l))).run Try.prog w = .ok () (w.setRow g (bC (ovl c off l))) := by
      simp [storeVar, sizeOf, typeInfo, hq, Value.cells, hs2, hst]
    simp only [ho, hx, hy, Instr.storeAt, Instr.sureAddr, Sem.run_bind, Sem.run_pure, Result.andThen_ok, hrun]
    exact hK _ _ h
/-- A row of bytes out of the middle of another one. -/
theorem ld_mid (hgd : o.guard = none) (ty : TypeId) (x : Operand) (ho : o.op = .load ty x) (g off : Nat) (c : List UInt8) (n : Nat) (t : TypeId) (d : TypeDesc) (hu : Try.prog.underlying ty = some d) (hd : d.isRow = true) (hg : w.heap[g]? = some (.cells (bC c) t (0, 0)))
    (hx : a.eval x = .pointer (some ⟨g, off, none⟩)) (hi : (Try.prog.info? ty).map (·.size) = some n) (hfit : off + n ≤ c.length)
    (h : wpList Try.prog ops Q rest (a.put o.dst (.agg (bC ((c.drop off).take n)))) w) : wpList Try.prog ops Q (o :: rest) a w := by
  have hr := range_sub (range_whole (w := w) (g := g) (vs := (bC c).toList) (by simpa using hg)) off n
  rw [Nat.zero_add] at hr
  refine wl_ldr (by unfold Region.wanted; rw [hgd]) ty x ho g off (bC ((c.drop off).take n)).toList d hu hd (by rw [hi]; simp [bC]; omega) hx hr (by simpa using h)
end
theorem eqInB (w : World) (d : Nat) (ty : TypeId) (n : Nat) (hu : Try.prog.underlying ty = some (.array n 5)) (xs ys : List UInt8) (hx : xs.length = n) (hy : ys.length = n) : (Op.equalIn (d + 2) ty (.agg (bC xs)) (.agg (bC ys))).run Try.prog w = .ok (xs == ys) w := by
  have := run_equalIn_bytes (P := Try.prog) w d ty 5 n hu Try.underlying5 (fun _ => by kernel_rfl) xs ys hx hy
  exact this
theorem neqB (w : World) (ty : TypeId) (n : Nat) (hu : Try.prog.underlying ty = some (.array n 5)) (xs ys : List UInt8) (hx : xs.length = n) (hy : ys.length = n) : (binOp .neq ty (.agg (bC xs)) (.agg (bC ys))).run Try.prog w = .ok (.bool (!(xs == ys))) w := by
  rw [run_neq_struct]
  show ((Op.equalIn (9998 + 2) ty (.agg (bC xs)) (.agg (bC ys))).run Try.prog w).andThen _ = _
  rw [eqInB w 9998 ty n hu xs ys hx hy]; rfl
theorem ovl_three (b : List UInt8) (hb : b.length = 10) : ovl (ovl (ovl tag0 0 (b.take 3)) 3 ((b.drop 3).take 4)) 7 (b.drop 7) = b := by
  obtain ⟨c0, c1, c2, c3, c4, c5, c6, c7, c8, c9, rfl⟩ : ∃ c0 c1 c2 c3 c4 c5 c6 c7 c8 c9, b = [c0, c1, c2, c3, c4, c5, c6, c7, c8, c9] := by
    rcases b with _ | ⟨c0, _ | ⟨c1, _ | ⟨c2, _ | ⟨c3, _ | ⟨c4, _ | ⟨c5, _ | ⟨c6, _ | ⟨c7, _ | ⟨c8, _ | ⟨c9, _ | ⟨c10, n⟩⟩⟩⟩⟩⟩⟩⟩⟩⟩⟩ <;> simp at hb
    exact ⟨c0, c1, c2, c3, c4, c5, c6, c7, c8, c9, rfl⟩
  rfl
structure CpSt (w : World) (b c : List UInt8) (T T' : TypeId) (wx : World) : Prop where
  bel : Below w.heap.size w wx
  src : wx.heap[w.heap.size]? = some (.cells (bC b) T (0, 0))
  res : ∃ r, r.length = 10 ∧ wx.heap[w.heap.size + 1]? = some (.cells (bC r) T' (0, 0))
  dst : wx.heap[w.heap.size + 1 + 1]? = some (.cells (bC c) T' (0, 0))
theorem CpSt.step {w wx : World} {b c c' : List UInt8} {T T' : TypeId} (h : CpSt w b c T T' wx) : CpSt w b c' T T' (wx.setRow (w.heap.size + 1 + 1) (bC c')) := by
  obtain ⟨r, hr, hr2⟩ := h.res
  exact ⟨setRow_below h.bel (by omega) _, by rw [setRow_other _ _ _ _ (by omega)]; exact h.src, ⟨r, hr, by rw [setRow_other _ _ _ _ (by omega)]; exact hr2⟩, setRow_at h.dst⟩
theorem CpSt.start (w : World) (b : List UInt8) (T T' : TypeId) : CpSt w b tag0 T T' (((w.alloc (.cells (bC b) T)).alloc (.cells (bC tag0) T')).alloc (.cells (bC tag0) T')) := by
  refine ⟨(below_alloc2 _ _ _).alloc (by simp; omega) _, ?_, ⟨tag0, rfl, ?_⟩, ?_⟩
  · rw [heap_alloc_old _ _ (by simp; omega)]; exact heap_alloc2_old _ _ _
  · rw [heap_alloc_old _ _ (by simp)]; exact heap_alloc2_new _ _ _
  · have := heap_alloc_new ((w.alloc (.cells (bC b) T)).alloc (.cells (bC tag0) T')) (.cells (bC tag0) T'); simpa using this
theorem CpSt.drew {w wx : World} {b c : List UInt8} {T T' : TypeId} (h : CpSt w b c T T' wx) : CpSt w b c T T' wx.drew := ⟨h.bel.drew, h.src, h.res, h.dst⟩
set_option maxRecDepth 100000 in
set_option maxHeartbeats 4000000 in
theorem tagBytes_any (b : List UInt8) (w : World) (hb : b.length = 10) :
    Calls Try.prog 49 #[.agg (bC b)] w fun e w' => e = .returned (.agg (bC b)) ∧ Below w.heap.size w w' := by
  have H10 := Lib.hid hb
  have HO := Lib.hid (ovl_three b hb)
  have HS0 : Hid (CpSt w b tag0 28 38 (((w.alloc (.cells (bC b) 28)).alloc (.cells (bC tag0) 38)).alloc (.cells (bC tag0) 38))) := CpSt.start w b _ _
  clear hb
  go_enter Try.func49, Try.ntmps49
  go_upto_region 2 with fail
  rw [show (Obj.cells #[Value.int IntKind.u8 0, Value.int IntKind.u8 0, Value.int IntKind.u8 0, Value.int IntKind.u8 0, Value.int IntKind.u8 0, Value.int IntKind.u8 0, Value.int IntKind.u8 0, Value.int IntKind.u8 0, Value.int IntKind.u8 0, Value.int IntKind.u8 0] 38) = Obj.cells (bC tag0) 38 from rfl]
  generalize (((w.alloc (.cells (bC b) 28)).alloc (.cells (bC tag0) 38)).alloc (.cells (bC tag0) 38)) = W1 at *
  go_still_tail 3, (by kernel_rfl)
  refine cp_bytes (w := W1.drew) rfl (.tmp 4) (.tmp 6) rfl (w.heap.size + 1 + 1) 0 3 10 w.heap.size 0 3 3 rfl rfl tag0 _ HS0.out.drew.dst (b.take 3) (by simp [H10.out]) (by have := range_sub (range_whole (w := W1.drew) (g := w.heap.size) (vs := (bC b).toList) (by simpa using HS0.out.drew.src)) 0 3; simpa using this) (by simp [ovl, tag0, H10.out]) ?_
  have HS1 := Lib.hid (CpSt.step (c' := ovl tag0 0 (b.take 3)) HS0.out.drew)
  generalize W1.drew.setRow (w.heap.size + 1 + 1) (bC (ovl tag0 0 (b.take 3))) = W2 at *
  go_wp2_with fail
  go_still_tail 3, (by kernel_rfl)
  refine cp_bytes (w := W2.drew) rfl (.tmp 8) (.tmp 10) rfl (w.heap.size + 1 + 1) 3 4 7 w.heap.size 3 4 4 rfl rfl (ovl tag0 0 (b.take 3)) _ HS1.out.drew.dst ((b.drop 3).take 4) (by simp [H10.out]) (by have := range_sub (range_whole (w := W2.drew) (g := w.heap.size) (vs := (bC b).toList) (by simpa using HS1.out.drew.src)) 3 4; simpa using this) (by simp [ovl, tag0, H10.out]) ?_
  have HS2 := Lib.hid (CpSt.step (c' := ovl (ovl tag0 0 (b.take 3)) 3 ((b.drop 3).take 4)) HS1.out.drew)
  generalize W2.drew.setRow (w.heap.size + 1 + 1) (bC (ovl (ovl tag0 0 (b.take 3)) 3 ((b.drop 3).take 4))) = W3 at *
  go_wp2_with fail
  go_still_tail 3, (by kernel_rfl)
  refine cp_bytes (w := W3.drew) rfl (.tmp 12) (.tmp 14) rfl (w.heap.size + 1 + 1) 7 3 3 w.heap.size 7 3 3 rfl rfl (ovl (ovl tag0 0 (b.take 3)) 3 ((b.drop 3).take 4)) _ HS2.out.drew.dst ((b.drop 7).take 3) (by simp [H10.out]) (by have := range_sub (range_whole (w := W3.drew) (g := w.heap.size) (vs := (bC b).toList) (by simpa using HS2.out.drew.src)) 7 3; simpa using this) (by simp [ovl, tag0, H10.out]) ?_
  have HS3 := Lib.hid (CpSt.step (c' := ovl (ovl (ovl tag0 0 (b.take 3)) 3 ((b.drop 3).take 4)) 7 ((b.drop 7).take 3)) HS2.out.drew)
  generalize W3.drew.setRow (w.heap.size + 1 + 1) (bC (ovl (ovl (ovl tag0 0 (b.take 3)) 3 ((b.drop 3).take 4)) 7 ((b.drop 7).take 3))) = W4 at *
  have e7 : (b.drop 7).take 3 = b.drop 7 := List.take_of_length_le (by simp [H10.out])
  rw [e7, HO.out] at HS3
  clear HS0 HS1 HS2 HO e7
  obtain ⟨r, hr, hr2⟩ := HS3.out.res
  have HR2 := Lib.hid hr2
  have HR := Lib.hid hr
  clear hr hr2
  go_wp2_with (first
    | ((with_reducible refine gate_ld 38 _ rfl ?_); refine wl_ldr rfl _ _ rfl (w.heap.size + 1 + 1) 0 (bC b).toList _ Try.underlying38 rfl (by rw [siz10A]; simp [bC, H10.out]) rfl (range_whole (by simpa using HS3.out.dst)) ?_)
    | ((with_reducible refine gate_st 38 _ _ rfl ?_); refine wl_str rfl 38 _ _ rfl (w.heap.size + 1) (bC b) (bC r) _ (by rw [siz10A, bC_size, H10.out]) (by rw [bC_size, bC_size, H10.out, HR.out]) (bC_one _) rfl rfl HR2.out ?_))
  refine bodyPost_ret (res_rowc (P := Try.prog) (T := 38) (T' := 38) rfl _ _ (w.heap.size + 1) (bC b) (0, 0) rfl (setRow_at HR2.out) Try.underlying38 rfl (by rw [siz10A, bC_size, H10.out])) rfl ⟨rfl, setRow_below HS3.out.bel (by omega) _⟩
theorem rg_callB {W : World} {f : FuncId} {args : Array Value} {v : Value} (h : ∀ w, Below W.heap.size W w → Calls Try.prog f args w fun e w' => e = .returned v ∧ Below w.heap.size w w') (d : Nat) (os : Array Obj) :
    Calls Try.prog f args (Sort.grow (redrawn W d) os) fun e w'' => e = .returned v ∧ ∃ p : Regrown, w'' = Sort.grow (redrawn W p.d) p.os := Calls.regrown_of (h _ (below_regrown W d os))
theorem kp {k : Nat} {X : Obj} {W W' : World} (h : Hid (W.heap[k]? = some X)) (hb : Below W.heap.size W W') : Hid (W'.heap[k]? = some X) := (hb.block k (lt_heap h.out)).trans h.out
theorem bt {w W W' : World} (h : Hid (Below w.heap.size w W)) (hb : Below W.heap.size W W') : Hid (Below w.heap.size w W') := h.out.trans (hb.mono h.out.size)
/-- The model's entry bytealg.Compare at two slices. -/
theorem run_load5 {P : Program} (w : World) (b o : Nat) (xs : List UInt8) (h : w.rangeAt b o (bC xs).toList) : (Extern.Bytes.loadBytes ⟨b, o, none⟩ xs.length .empty).run P w = .ok ⟨xs.toArray⟩ w := by
  have hl := Lib.run_loadBytesX (P := P) w (xs.map fun x => (x.toNat : Int)) ⟨b, o, none⟩ .empty (fun j x hj => by
    rw [Addr.add_mid]
    rw [List.getElem?_map] at hj
    obtain ⟨y, hy, rfl⟩ := Option.map_eq_some_iff.1 hj
    exact h j _ (by simp [bC, hy]))
  rw [List.length_map] at hl
  rw [hl]
  congr 1
  refine ByteArray.ext (Array.toList_inj.1 ?_)
  show (#[] ++ (Lib.bytesOf (xs.map fun x => (x.toNat : Int))).toArray : Array UInt8).toList = xs
  simp only [Lib.bytesOf, Array.empty_append, List.map_map]
  conv => rhs; rw [← List.map_id xs]
  apply List.map_congr_left
  intro x _
  simp
theorem run_compare5 {P : Program} (w : World) (b o n c b' o' n' c' : Nat) (xs ys : List UInt8) (hx : xs.length = n) (hy : ys.length = n') (h : w.rangeAt b o (bC xs).toList) (h' : w.rangeAt b' o' (bC ys).toList) :
    (Extern.BytealgCompare.compare #[.slice (some ⟨b, o, none⟩) n c, .slice (some ⟨b', o', none⟩) n' c']).run P w = .ok (.int .i64 (Lib.compareBytes xs ys)) w := by
  have h1 := run_load5 (P := P) w b o xs h
  have h2 := run_load5 (P := P) w b' o' ys h'
  rw [hx] at h1
  rw [hy] at h2
  change Sem.run P (do pure (goInt (Extern.BytealgCompare.cmp (← Extern.Bytes.bytesOf (.slice (some ⟨b, o, none⟩) n c)) (← Extern.Bytes.bytesOf (.slice (some ⟨b', o', none⟩) n' c'))))) w = _
  simp only [Extern.Bytes.bytesOf, Sem.run_bind, Sem.run_pure, h1, h2, Result.andThen_ok]
  rw [Lib.cmp_eq]
  rfl
set_option maxRecDepth 100000 in
theorem compare_any (b o n c b' o' n' c' : Nat) (xs ys : List UInt8) (w : World) (hx : xs.length = n) (hy : ys.length = n') (h : w.rangeAt b o (bC xs).toList) (h' : w.rangeAt b' o' (bC ys).toList) :
    Calls Try.prog 48 #[.slice (some ⟨b, o, none⟩) n c, .slice (some ⟨b', o', none⟩) n' c'] w fun e w' => e = .returned (.int .i64 (Lib.compareBytes xs ys)) ∧ w = w' := by
  have hc := run_compare5 (P := Try.prog) w b o n c b' o' n' c' xs ys hx hy h h'
  clear h h'
  go_enter Try.func48, Try.ntmps48
  go_wp2_with fail
  rw [run_callFunc_extern Try.func62 (by kernel_rfl) (by kernel_rfl) (by kernel_rfl) (e := Extern.BytealgCompare.compare) (by kernel_rfl), hc]
  simp only [Result.andThen]
  rw [Oper.upon_value]
  go_wp2_with fail
  go_ret
  exact ⟨rfl, rfl⟩
end Go.Proofs.Ytagdedjclbmlkaa

/- Key's Bytes; Less. -/
namespace Go.Proofs.Ytagdedjclbmlkaa
open Go.RowKit

def k3 (a b c : UInt8) : List UInt8 := a :: b :: c :: List.replicate 22 0
theorem k3_len (a b c : UInt8) : (k3 a b c).length = 25 := rfl
def z25 : List UInt8 := List.replicate 25 0
theorem sizKey : (Try.prog.info? 30).map (·.size) = some 25 := by kernel_rfl
theorem siz25 : (Try.prog.info? 85).map (·.size) = some 25 := by kernel_rfl
theorem sizTag : (Try.prog.info? 28).map (·.size) = some 10 := by kernel_rfl
/-- Where Bytes stands. -/
structure KSt (w : World) (k c : List UInt8) (wx : World) : Prop where
  bel : Below w.heap.size w wx
  src : wx.heap[w.heap.size]? = some (.cells (bC k) 30 (0, 0))
  res : wx.heap[w.heap.size + 1]? = some (.cells (bC z25) 85 (0, 0))
  dst : wx.heap[w.heap.size + 2]? = some (.cells (bC c) 85 (0, 0))
theorem KSt.step {w wx : World} {k c : List UInt8} (h : KSt w k c wx) (c' : List UInt8) : KSt w k c' (wx.setRow (w.heap.size + 2) (bC c')) :=
  ⟨setRow_below h.bel (by omega) _, by rw [setRow_other _ _ _ _ (by omega)]; exact h.src, by rw [setRow_other _ _ _ _ (by omega)]; exact h.res, setRow_at h.dst⟩
theorem KSt.drew {w wx : World} {k c : List UInt8} (h : KSt w k c wx) : KSt w k c wx.drew := ⟨h.bel.drew, h.src, h.res, h.dst⟩
theorem KSt.below {w wx wy : World} {k c : List UInt8} (h : KSt w k c wx) (hb : Below wx.heap.size wx wy) : KSt w k c wy :=
  ⟨h.bel.trans (hb.mono h.bel.size), (hb.block _ (lt_heap h.src)).trans h.src, (hb.block _ (lt_heap h.res)).trans h.res, (hb.block _ (lt_heap h.dst)).trans h.dst⟩
theorem key_parts (k : List UInt8) (hk : k.length = 25) : ∃ a b c nm tg, k = a :: b :: c :: (nm ++ tg) ∧ nm.length = 12 ∧ tg.length = 10 := by
  match k, hk with
  | a :: b :: c :: r, hk => exact ⟨a, b, c, r.take 12, r.drop 12, by rw [List.take_append_drop], by simp at hk ⊢; omega, by simp at hk ⊢; omega⟩
set_option maxRecDepth 100000 in
set_option maxHeartbeats 4000000 in
theorem keyBytes_any (k : List UInt8) (w : World) (hk : k.length = 25) :
    Calls Try.prog 35 #[.agg (bC k)] w fun e w' => e = .returned (.agg (bC k)) ∧ Below w.heap.size w w' := by
  have HK := Lib.hid hk
  obtain ⟨x0, x1, x2, nm, tg, hkk, hnm, htg⟩ := key_parts k hk
  have HKK := Lib.hid hkk
  have HNm := Lib.hid hnm
  have HTg := Lib.hid htg
  have HD : Hid ((k.drop 15).take 10 = tg) := by
    show _ = _
    rw [hkk]
    show ((nm ++ tg).drop 12).take 10 = tg
    rw [List.drop_left' hnm, List.take_of_length_le (by omega)]
  have HN : Hid ((k.drop 3).take 12 = nm) := by
    show _ = _
    rw [hkk]
    show (nm ++ tg).take 12 = nm
    rw [List.take_left' hnm]
  have h0 : (w.alloc (.cells (bC k) 30)).heap[w.heap.size]? = some (.cells (bC k) 30 (0, 0)) := heap_alloc_new _ _
  have hbt : Try.prog.built 85 [(0, .int .u8 (x0.toNat : Int)), (1, .int .u8 (x1.toNat : Int)), (2, .int .u8 (x2.toNat : Int))] = some (bC (k3 x0 x1 x2)) := rfl
  have HS0 : Hid (KSt w k (k3 x0 x1 x2) (((w.alloc (.cells (bC k) 30)).alloc (.cells (bC z25) 85)).alloc (.cells (bC (k3 x0 x1 x2)) 85))) := by
    refine ⟨(below_alloc2 _ _ _).alloc (by simp; omega) _, ?_, ?_, ?_⟩
    · rw [heap_alloc_old _ _ (by simp; omega)]; exact heap_alloc2_old _ _ _
    · rw [heap_alloc_old _ _ (by simp)]; exact heap_alloc2_new _ _ _
    · have := heap_alloc_new ((w.alloc (.cells (bC k) 30)).alloc (.cells (bC z25) 85)) (.cells (bC (k3 x0 x1 x2)) 85); simpa using this
  have hg0 : ∀ (W : World), W.heap[w.heap.size]? = some (.cells (bC k) 30 (0, 0)) → W.cell? ⟨w.heap.size, 0, none⟩ = some (.int .u8 (x0.toNat : Int)) ∧ W.cell? ⟨w.heap.size, 1, none⟩ = some (.int .u8 (x1.toNat : Int)) ∧ W.cell? ⟨w.heap.size, 2, none⟩ = some (.int .u8 (x2.toNat : Int)) := fun W h => by
    rw [cell_blk h, cell_blk h, cell_blk h, hkk]; exact ⟨rfl, rfl, rfl⟩
  have hz : ((w.alloc (.cells (bC k) 30)).alloc (.cells #[Value.int IntKind.u8 0, Value.int IntKind.u8 0, Value.int IntKind.u8 0, Value.int IntKind.u8 0, Value.int IntKind.u8 0, Value.int IntKind.u8 0, Value.int IntKind.u8 0, Value.int IntKind.u8 0, Value.int IntKind.u8 0, Value.int IntKind.u8 0, Value.int IntKind.u8 0, Value.int IntKind.u8 0, Value.int IntKind.u8 0, Value.int IntKind.u8 0, Value.int IntKind.u8 0, Value.int IntKind.u8 0, Value.int IntKind.u8 0, Value.int IntKind.u8 0, Value.int IntKind.u8 0, Value.int IntKind.u8 0, Value.int IntKind.u8 0, Value.int IntKind.u8 0, Value.int IntKind.u8 0, Value.int IntKind.u8 0, Value.int IntKind.u8 0] 85)).heap[w.heap.size]? = some (.cells (bC k) 30 (0, 0)) := heap_alloc2_old _ _ _
  have hc0 := (hg0 _ hz).1
  have hc1 := (hg0 _ hz).2.1
  have hc2 := (hg0 _ hz).2.2
  have KT : Hid (∀ W, Calls Try.prog 49 #[.agg (bC tg)] W fun e w' => e = .returned (.agg (bC tg)) ∧ Below W.heap.size W w') := fun W => tagBytes_any tg W htg
  clear hk hkk hnm htg h0 hg0 hz
  go_enter Try.func35, Try.ntmps35
  go_upto_region 2 with (first | ((with_reducible refine gate_bd 85 _ rfl ?_); refine wl_bd rfl _ [(0, .tmp 6), (1, .tmp 8), (2, .tmp 10)] rfl [(0, .int .u8 (x0.toNat : Int)), (1, .int .u8 (x1.toNat : Int)), (2, .int .u8 (x2.toNat : Int))] rfl (bC (k3 x0 x1 x2)) hbt ?_) | ((with_reducible refine gate_st 85 _ _ rfl ?_); refine wl_strn rfl _ _ _ rfl (bC (k3 x0 x1 x2)) #[Value.int IntKind.u8 0, Value.int IntKind.u8 0, Value.int IntKind.u8 0, Value.int IntKind.u8 0, Value.int IntKind.u8 0, Value.int IntKind.u8 0, Value.int IntKind.u8 0, Value.int IntKind.u8 0, Value.int IntKind.u8 0, Value.int IntKind.u8 0, Value.int IntKind.u8 0, Value.int IntKind.u8 0, Value.int IntKind.u8 0, Value.int IntKind.u8 0, Value.int IntKind.u8 0, Value.int IntKind.u8 0, Value.int IntKind.u8 0, Value.int IntKind.u8 0, Value.int IntKind.u8 0, Value.int IntKind.u8 0, Value.int IntKind.u8 0, Value.int IntKind.u8 0, Value.int IntKind.u8 0, Value.int IntKind.u8 0, Value.int IntKind.u8 0] _ (by rw [siz25, bC_size, k3_len]) rfl (bC_one _) (by simp [Act.eval]) rfl ?_))
  rw [show (Obj.cells #[Value.int IntKind.u8 0, Value.int IntKind.u8 0, Value.int IntKind.u8 0, Value.int IntKind.u8 0, Value.int IntKind.u8 0, Value.int IntKind.u8 0, Value.int IntKind.u8 0, Value.int IntKind.u8 0, Value.int IntKind.u8 0, Value.int IntKind.u8 0, Value.int IntKind.u8 0, Value.int IntKind.u8 0, Value.int IntKind.u8 0, Value.int IntKind.u8 0, Value.int IntKind.u8 0, Value.int IntKind.u8 0, Value.int IntKind.u8 0, Value.int IntKind.u8 0, Value.int IntKind.u8 0, Value.int IntKind.u8 0, Value.int IntKind.u8 0, Value.int IntKind.u8 0, Value.int IntKind.u8 0, Value.int IntKind.u8 0, Value.int IntKind.u8 0] 85) = Obj.cells (bC z25) 85 from by simp [bC, z25, List.replicate]]
  simp only [Nat.add_assoc, Nat.reduceAdd]
  clear hc0 hc1 hc2
  generalize (((w.alloc (.cells (bC k) 30)).alloc (.cells (bC z25) 85)).alloc (.cells (bC (k3 x0 x1 x2)) 85)) = W1 at *
  go_upto_region 3 with (first
    | ((with_reducible refine gate_ld 28 _ rfl ?_); refine ld_mid rfl 28 _ rfl w.heap.size 15 k 10 _ _ Try.underlying28 rfl HS0.out.src rfl sizTag (by rw [HK.out]; omega) ?_; rw [HD.out])
    | (go_at_call 49; (refine (KT.out _).mono ?_); rintro e W2 ⟨rfl, hb2⟩; have HSz2 : Hid (w.heap.size + 2 < W2.heap.size) := Nat.lt_of_lt_of_le (lt_heap HS0.out.dst) hb2.size; have HS1 := Lib.hid ((HS0.out.below hb2).below (below_alloc1 W2 (.cells (bC tg) 38))); have HG4 : Hid ((W2.alloc (.cells (bC tg) 38)).heap[W2.heap.size]? = some (.cells (bC tg) 38 (0, 0))) := heap_alloc_new _ _; clear hb2)
    | ((with_reducible refine gate_st 38 _ _ rfl ?_); refine wl_strn rfl _ _ _ rfl (bC tg) #[Value.int IntKind.u8 0, Value.int IntKind.u8 0, Value.int IntKind.u8 0, Value.int IntKind.u8 0, Value.int IntKind.u8 0, Value.int IntKind.u8 0, Value.int IntKind.u8 0, Value.int IntKind.u8 0, Value.int IntKind.u8 0, Value.int IntKind.u8 0] _ (by rw [siz10A, bC_size, HTg.out]) (by rw [bC_size, HTg.out]; rfl) (bC_one _) rfl rfl ?_))
  have HN4 : Hid (w.heap.size + 2 < W2.heap.size ∧ W2.heap.size < (W2.alloc (.cells (bC tg) 38)).heap.size) := ⟨HSz2.out, by simp⟩
  generalize W2.alloc (.cells (bC tg) 38) = W3 at *
  generalize W2.heap.size = g4 at *
  clear HS0 HSz2 KT
  go_still_tail 3, (by kernel_rfl)
  refine cp_bytes (w := W3.drew) rfl (.tmp 15) (.tmp 17) rfl (w.heap.size + 2) 3 12 22 w.heap.size 3 12 12 rfl rfl (k3 x0 x1 x2) _ HS1.out.drew.dst ((k.drop 3).take 12) (by rw [HN.out, HNm.out]; rfl) (by have := range_sub (range_whole (w := W3.drew) (g := w.heap.size) (vs := (bC k).toList) (by simpa using HS1.out.drew.src)) 3 12; simpa using this) (by rw [HN.out, HNm.out, k3_len]; omega) ?_
  have HS2 := Lib.hid (HS1.out.drew.step (ovl (k3 x0 x1 x2) 3 ((k.drop 3).take 12)))
  have HG5 : Hid ((W3.drew.setRow (w.heap.size + 2) (bC (ovl (k3 x0 x1 x2) 3 ((k.drop 3).take 12)))).heap[g4]? = some (.cells (bC tg) 38 (0, 0))) := by show _ = _; rw [setRow_other _ _ _ _ (by have := HN4.out.1; omega)]; exact HG4.out
  generalize W3.drew.setRow (w.heap.size + 2) (bC (ovl (k3 x0 x1 x2) 3 ((k.drop 3).take 12))) = W4 at *
  go_wp2_with fail
  go_still_tail 2, (by kernel_rfl)
  have hl25 : (ovl (k3 x0 x1 x2) 3 ((k.drop 3).take 12)).length = 25 := by rw [ovl_len (by rw [HN.out, HNm.out, k3_len]; omega), k3_len]
  refine cp_bytes (w := W4.drew) rfl (.tmp 19) (.tmp 20) rfl (w.heap.size + 2) 15 10 10 g4 0 10 10 rfl rfl (ovl (k3 x0 x1 x2) 3 ((k.drop 3).take 12)) _ HS2.out.drew.dst tg (by rw [HTg.out]; rfl) (show W4.drew.rangeAt g4 0 (bC tg).toList from range_whole (w := W4) (g := g4) (vs := (bC tg).toList) (by simpa using HG5.out)) (by rw [hl25, HTg.out]; omega) ?_
  have HOv : Hid (ovl (ovl (k3 x0 x1 x2) 3 ((k.drop 3).take 12)) 15 tg = k) := by
    show _ = _
    rw [HN.out]
    conv => rhs; rw [HKK.out]
    unfold ovl k3
    simp [HNm.out, HTg.out]
  have HS3 := Lib.hid (HS2.out.drew.step (ovl (ovl (k3 x0 x1 x2) 3 ((k.drop 3).take 12)) 15 tg))
  rw [HOv.out] at HS3 ⊢
  generalize W4.drew.setRow (w.heap.size + 2) (bC k) = W5 at *
  clear HS1 HS2 hl25 HOv HG4 HG5 HN4 HD HN HKK
  go_wp2_with (first
    | ((with_reducible refine gate_ld 85 _ rfl ?_); refine wl_ldr rfl _ _ rfl (w.heap.size + 2) 0 (bC k).toList _ Try.underlying85 rfl (by rw [siz25]; simp [bC, HK.out]) rfl (range_whole (by simpa using HS3.out.dst)) ?_)
    | ((with_reducible refine gate_st 85 _ _ rfl ?_); refine wl_str rfl 85 _ _ rfl (w.heap.size + 1) (bC k) (bC z25) _ (by rw [siz25, bC_size, HK.out]) (by rw [bC_size, bC_size, HK.out]; rfl) (bC_one _) rfl rfl HS3.out.res ?_))
  refine bodyPost_ret (res_rowc (P := Try.prog) (T := 85) (T' := 85) rfl _ _ (w.heap.size + 1) (bC k) (0, 0) rfl (setRow_at HS3.out.res) Try.underlying85 rfl (by rw [siz25, bC_size, HK.out])) rfl ⟨rfl, setRow_below HS3.out.bel (by omega) _⟩
end Go.Proofs.Ytagdedjclbmlkaa

/- Key's Less. -/
namespace Go.Proofs.Ytagdedjclbmlkaa
open Go.RowKit

set_option maxRecDepth 100000 in
set_option maxHeartbeats 4000000 in
theorem keyLess_any (a b : List UInt8) (w : World) (ha : a.length = 25) (hb : b.length = 25) :
    Calls Try.prog 30 #[.agg (bC a), .agg (bC b)] w fun e w' => e = .returned (.bool (decide (Lib.compareBytes a b < 0))) ∧ Below w.heap.size w w' := by
  have FA : Hid (((w.alloc (.cells (bC a) 30)).alloc (.cells (bC b) 30)).heap[w.heap.size]? = some (Obj.cells (bC a) 30 (0, 0))) := heap_alloc2_old _ _ _
  have FB : Hid (((w.alloc (.cells (bC a) 30)).alloc (.cells (bC b) 30)).heap[w.heap.size + 1]? = some (Obj.cells (bC b) 30 (0, 0))) := heap_alloc2_new _ _ _
  have HB : Hid (Below w.heap.size w ((w.alloc (.cells (bC a) 30)).alloc (.cells (bC b) 30))) := below_alloc2 _ _ _
  have KA : Hid (∀ W, Below w.heap.size w W → Calls Try.prog 35 #[.agg (bC a)] W fun e w' => e = .returned (.agg (bC a)) ∧ Below W.heap.size W w') := fun W _ => keyBytes_any a W ha
  have KB : Hid (∀ W, Below w.heap.size w W → Calls Try.prog 35 #[.agg (bC b)] W fun e w' => e = .returned (.agg (bC b)) ∧ Below W.heap.size W w') := fun W _ => keyBytes_any b W hb
  have HLa := Lib.hid ha
  have HLb := Lib.hid hb
  clear ha hb
  go_enter Try.func30, Try.ntmps30
  go_upto_region 1 with fail
  generalize ((w.alloc (.cells (bC a) 30)).alloc (.cells (bC b) 30)) = W0 at *
  refine wp_region_pair [(7, .agg (bC a)), (8, .agg (bC a)), (9, .agg (bC b)), (10, .agg (bC b))] 5 6 (bC z25) (bC z25) (bC a) (bC b) 85 85 (by kernel_rfl) (by kernel_rfl) rfl (by simp) (by simp) _ _ _ _ rfl rfl rfl rfl
    ⟨rfl, rfl, fun a w => by kernel_rfl⟩ ⟨rfl, rfl, fun a w => by kernel_rfl⟩
    ⟨rfl, rfl, fun a' w' g hd hp hg => exec_str _ (.tmp 5) (.tmp 8) rfl g (bC a) (bC z25) _ (by rw [siz25, bC_size, HLa.out]) (by rw [bC_size, bC_size, HLa.out]; rfl) (bC_one a) hp (hd 1 (by simp) (by kernel_rfl)) hg⟩
    ⟨rfl, rfl, fun a' w' g hd hp hg => exec_str _ (.tmp 6) (.tmp 10) rfl g (bC b) (bC z25) _ (by rw [siz25, bC_size, HLb.out]) (by rw [bC_size, bC_size, HLb.out]; rfl) (bC_one b) hp (hd 3 (by simp) (by kernel_rfl)) hg⟩
    (by kernel_rfl) (by kernel_rfl) (by kernel_rfl) (by kernel_rfl) ?_ ?_
  · intro i hi a' w' hfr hdep hbel K hK
    have hi4 : i < 4 := hi
    obtain rfl | rfl | rfl | rfl : i = 0 ∨ i = 1 ∨ i = 2 ∨ i = 3 := by omega
    · exact wpOp_ldr rfl rfl _ _ rfl w.heap.size 0 (bC a).toList _ Try.underlying30 rfl (by rw [sizKey]; simp [bC_size, HLa.out]) (hfr.off 2 (by simp)) (range_of_block (range_whole (by simpa using FA.out)) (hbel.block _ (lt_heap FA.out))) (by simpa using hK w' (Below.refl _ _))
    · exact wpOp_enter rfl rfl (exec_call1 rfl (enters_of Try.func35 (by kernel_rfl) rfl) (x := .tmp 7) (v := .agg (bC a)) (hdep 0 (by simp) (by kernel_rfl)) w') (KA.out w' (HB.out.trans (hbel.mono HB.out.size))) hK
    · exact wpOp_ldr rfl rfl _ _ rfl (w.heap.size + 1) 0 (bC b).toList _ Try.underlying30 rfl (by rw [sizKey]; simp [bC_size, HLb.out]) (hfr.off 3 (by simp)) (range_of_block (range_whole (by simpa using FB.out)) (hbel.block _ (lt_heap FB.out))) (by simpa using hK w' (Below.refl _ _))
    · exact wpOp_enter rfl rfl (exec_call1 rfl (enters_of Try.func35 (by kernel_rfl) rfl) (x := .tmp 9) (v := .agg (bC b)) (hdep 2 (by simp) (by kernel_rfl)) w') (KB.out w' (HB.out.trans (hbel.mono HB.out.size))) hK
  · intro W g h hgh hg0 hh0 hbel hg hh
    have HB2 := Lib.hid (HB.out.trans (hbel.mono HB.out.size))
    have HC : Hid (∀ W', Below W.heap.size W W' → Calls Try.prog 48 #[.slice (some ⟨g, 0, none⟩) 25 25, .slice (some ⟨h, 0, none⟩) 25 25] W' fun e w' => e = .returned (.int .i64 (Lib.compareBytes a b)) ∧ Below W'.heap.size W' w') := fun W' hW =>
      (compare_any g 0 25 25 h 0 25 25 a b W' HLa.out HLb.out (range_of_block (range_whole (by simpa using hg)) (hW.block _ (lt_heap hg))) (range_of_block (range_whole (by simpa using hh)) (hW.block _ (lt_heap hh)))).mono fun e w' ⟨he, hw⟩ => ⟨he, hw ▸ Below.refl _ _⟩
    clear hg hh hbel HB FA FB KA KB hg0 hh0 hgh
    simp only [puts, List.cons_append, List.nil_append, List.setIfInBounds_toArray, List.set_cons_zero, List.set_cons_succ]
    generalize hce : Lib.compareBytes a b = c at *
    have HCe := Lib.hid hce
    clear hce
    go_wp2_with fail
    refine wp_region_quiet_below (by kernel_rfl) (by kernel_rfl) ?_
    repeat (go_big_quiet_step (first | (with_reducible exact rg_callB HC.out _ _)))
    refine wpQuiet_nil ?_
    rintro _ ⟨⟨dq, osq⟩, rfl⟩
    have HB3 := bt HB2 (below_regrown W dq osq)
    go_wp2_with fail
    go_ret
    exact ⟨ret_bool (by rw [HCe.out]), HB3.out⟩
end Go.Proofs.Ytagdedjclbmlkaa

/- Prefix: right, cut. -/
namespace Go.Proofs.Ytagdedjclbmlkaa
open Go.RowKit

def pC (k : List UInt8) (d : Int) : List Value := (bC k).toList ++ [.int .i64 d]
theorem pC_len {k : List UInt8} (hk : k.length = 25) (d : Int) : (pC k d).length = 26 := by simp [pC, bC, hk]
theorem sizPre : (Try.prog.info? 63).map (·.size) = some 26 := by kernel_rfl
theorem sizName : (Try.prog.info? 24).map (·.size) = some 12 := by kernel_rfl
theorem pC_d {k : List UInt8} (hk : k.length = 25) (d : Int) : (pC k d).toArray[25]? = some (.int .i64 d) := by
  simp [pC, bC, hk]
theorem pC_k {k : List UInt8} (d : Int) (i : Nat) (hi : i < k.length) : (pC k d).toArray[i]? = some (.int .u8 (k[i].toNat : Int)) := by
  have : i < (bC k).toList.length := by simpa [bC] using hi
  simp only [pC, List.getElem?_toArray]
  rw [List.getElem?_append_left this]
  simpa using bC_get k i hi
theorem pC_sub {W : World} {g : Nat} {k : List UInt8} {d : Int} {T : TypeId} (h : W.heap[g]? = some (.cells (pC k d).toArray T (0, 0))) (s n : Nat) : W.rangeAt g s (bC ((k.drop s).take n)).toList := by
  have := range_sub (range_app_left (range_whole h)) s n
  rwa [Nat.zero_add] at this
def depOk (d : Int) : Bool := decide (0 ≤ d ∧ d ≤ 5)
set_option maxRecDepth 100000 in
set_option maxHeartbeats 2000000 in
theorem right_any (k : List UInt8) (d : Int) (w : World) (hk : k.length = 25) :
    Calls Try.prog 59 #[.agg (pC k d).toArray] w fun e w' => e = .returned (.bool (depOk d)) ∧ Below w.heap.size w w' := by
  have hc : (w.alloc (.cells (pC k d).toArray 63)).cell? ⟨w.heap.size, 25, none⟩ = some (.int .i64 d) := by rw [cell_blk (heap_alloc_new _ _), pC_d hk]
  have HB := Lib.hid (below_alloc1 w (.cells (pC k d).toArray 63))
  by_cases h0 : 0 ≤ d
  · by_cases h5 : d ≤ 5
    · have HE : Hid (depOk d = true) := decide_eq_true ⟨h0, h5⟩
      go_enter Try.func59, Try.ntmps59
      go_wp2_with fail
      go_ret
      exact ⟨ret_bool HE.out.symm, HB.out⟩
    · have HE : Hid (depOk d = false) := decide_eq_false (fun h => h5 h.2)
      go_enter Try.func59, Try.ntmps59
      go_wp2_with fail
      go_ret
      exact ⟨ret_bool HE.out.symm, HB.out⟩
  · have HE : Hid (depOk d = false) := decide_eq_false (fun h => h0 h.1)
    go_enter Try.func59, Try.ntmps59
    go_wp2_with fail
    go_ret
    exact ⟨ret_bool HE.out.symm, HB.out⟩
/-- How many bytes count. -/
def cutN (d : Int) : Nat := if d < 1 then 0 else if d = 1 then 1 else if d = 2 then 2 else if d = 3 then 3 else if d = 4 then 15 else 25
def cutK (k : List UInt8) (d : Int) : List UInt8 := k.take (cutN d) ++ List.replicate (25 - cutN d) 0
theorem cutN_le (d : Int) : cutN d ≤ 25 := by unfold cutN; repeat' split
                                              all_goals omega
theorem cutK_len {k : List UInt8} (hk : k.length = 25) (d : Int) : (cutK k d).length = 25 := by
  have := cutN_le d
  unfold cutK; simp [hk]; omega
def k1 (a : UInt8) : List UInt8 := a :: List.replicate 24 0
theorem k1_len (a : UInt8) : (k1 a).length = 25 := rfl
theorem builtK1 (a : UInt8) : Try.prog.built 30 [(0, .int .u8 (a.toNat : Int))] = some (bC (k1 a)) := by kernel_rfl
/-- Where cut stands. -/
structure CSt (w : World) (k : List UInt8) (d : Int) (c : List UInt8) (wx : World) : Prop where
  bel : Below w.heap.size w wx
  src : wx.heap[w.heap.size]? = some (.cells (pC k d).toArray 63 (0, 0))
  res : wx.heap[w.heap.size + 1]? = some (.cells (bC z25) 30 (0, 0))
  dst : wx.heap[w.heap.size + 2]? = some (.cells (bC c) 30 (0, 0))
  len : c.length = 25
theorem CSt.row {w wx : World} {k c : List UInt8} {d : Int} (h : CSt w k d c wx) (o : Nat) (l : List UInt8) (hl : o + l.length ≤ 25) : CSt w k d (ovl c o l) (wx.setRow (w.heap.size + 2) (bC (ovl c o l))) :=
  ⟨setRow_below h.bel (by omega) _, by rw [setRow_other _ _ _ _ (by omega)]; exact h.src, by rw [setRow_other _ _ _ _ (by omega)]; exact h.res, setRow_at h.dst, by rw [ovl_len (by rw [h.len]; exact hl), h.len]⟩
theorem CSt.cell {w wx : World} {k c : List UInt8} {d : Int} (h : CSt w k d c wx) (i : Nat) (b : UInt8) : CSt w k d (c.set i b) (wx.setCell ⟨w.heap.size + 2, i, none⟩ (.int .u8 (b.toNat : Int))) :=
  ⟨h.bel.setCell (p := ⟨w.heap.size + 2, i, none⟩) (by show w.heap.size ≤ w.heap.size + 2; omega) _, (heap_setCell_other _ (by omega)).trans h.src, (heap_setCell_other _ (by omega)).trans h.res, by rw [heap_setCell_self _ h.dst, bC_set], by rw [List.length_set]; exact h.len⟩
theorem CSt.at_ {w wx : World} {k c : List UInt8} {d : Int} (h : CSt w k d c wx) (i : Nat) (hi : i < 25) : (∃ b : UInt8, wx.cell? ⟨w.heap.size + 2, i, none⟩ = some (.int .u8 (b.toNat : Int))) ∧ wx.frozen? ⟨w.heap.size + 2, i, none⟩ = false :=
  ⟨⟨c[i]'(by rw [h.len]; exact hi), by rw [cell_blk h.dst, bC_get c i (by rw [h.len]; exact hi)]⟩, by simp [World.frozen?, h.dst]⟩
theorem CSt.dep {w wx : World} {k c : List UInt8} {d : Int} (h : CSt w k d c wx) (hk : k.length = 25) : wx.cell? ⟨w.heap.size, 25, none⟩ = some (.int .i64 d) := by rw [cell_blk h.src, pC_d hk]
theorem CSt.key {w wx : World} {k c : List UInt8} {d : Int} (h : CSt w k d c wx) (i : Nat) (hi : i < k.length) : wx.cell? ⟨w.heap.size, i, none⟩ = some (.int .u8 (k[i].toNat : Int)) := by rw [cell_blk h.src, pC_k d i hi]
set_option maxRecDepth 100000 in
set_option maxHeartbeats 8000000 in
theorem cut_any (k : List UInt8) (d : Int) (w : World) (hk : k.length = 25) :
    Calls Try.prog 60 #[.agg (pC k d).toArray] w fun e w' => e = .returned (.agg (bC (cutK k d))) ∧ Below w.heap.size w w' := by
  have HK := Lib.hid hk
  obtain ⟨x0, x1, x2, nm, tg, hkk, hnm, htg⟩ := key_parts k hk
  have HNm := Lib.hid hnm
  have HTg := Lib.hid htg
  have HD : Hid ((k.drop 15).take 10 = tg) := by
    show _ = _
    rw [hkk]
    show ((nm ++ tg).drop 12).take 10 = tg
    rw [List.drop_left' hnm, List.take_of_length_le (by omega)]
  have HN : Hid ((k.drop 3).take 12 = nm) := by
    show _ = _
    rw [hkk]
    show (nm ++ tg).take 12 = nm
    rw [List.take_left' hnm]
  have HKK := Lib.hid hkk
  have hz : ((w.alloc (.cells (pC k d).toArray 63)).alloc (.cells #[Value.int IntKind.u8 0, Value.int IntKind.u8 0, Value.int IntKind.u8 0, Value.int IntKind.u8 0, Value.int IntKind.u8 0, Value.int IntKind.u8 0, Value.int IntKind.u8 0, Value.int IntKind.u8 0, Value.int IntKind.u8 0, Value.int IntKind.u8 0, Value.int IntKind.u8 0, Value.int IntKind.u8 0, Value.int IntKind.u8 0, Value.int IntKind.u8 0, Value.int IntKind.u8 0, Value.int IntKind.u8 0, Value.int IntKind.u8 0, Value.int IntKind.u8 0, Value.int IntKind.u8 0, Value.int IntKind.u8 0, Value.int IntKind.u8 0, Value.int IntKind.u8 0, Value.int IntKind.u8 0, Value.int IntKind.u8 0, Value.int IntKind.u8 0] 30)).heap[w.heap.size]? = some (.cells (pC k d).toArray 63 (0, 0)) := heap_alloc2_old _ _ _
  have hc0 : ((w.alloc (.cells (pC k d).toArray 63)).alloc (.cells #[Value.int IntKind.u8 0, Value.int IntKind.u8 0, Value.int IntKind.u8 0, Value.int IntKind.u8 0, Value.int IntKind.u8 0, Value.int IntKind.u8 0, Value.int IntKind.u8 0, Value.int IntKind.u8 0, Value.int IntKind.u8 0, Value.int IntKind.u8 0, Value.int IntKind.u8 0, Value.int IntKind.u8 0, Value.int IntKind.u8 0, Value.int IntKind.u8 0, Value.int IntKind.u8 0, Value.int IntKind.u8 0, Value.int IntKind.u8 0, Value.int IntKind.u8 0, Value.int IntKind.u8 0, Value.int IntKind.u8 0, Value.int IntKind.u8 0, Value.int IntKind.u8 0, Value.int IntKind.u8 0, Value.int IntKind.u8 0, Value.int IntKind.u8 0] 30)).cell? ⟨w.heap.size, 0, none⟩ = some (.int .u8 (x0.toNat : Int)) := by rw [cell_blk hz, pC_k d 0 (by omega)]; simp [hkk]
  have hbt := builtK1 x0
  have HS0 : Hid (CSt w k d (k1 x0) (((w.alloc (.cells (pC k d).toArray 63)).alloc (.cells (bC z25) 30)).alloc (.cells (bC (k1 x0)) 30))) := by
    refine ⟨(below_alloc2 _ _ _).alloc (by simp; omega) _, ?_, ?_, ?_, rfl⟩
    · rw [heap_alloc_old _ _ (by simp; omega)]; exact heap_alloc2_old _ _ _
    · rw [heap_alloc_old _ _ (by simp)]; exact heap_alloc2_new _ _ _
    · have := heap_alloc_new ((w.alloc (.cells (pC k d).toArray 63)).alloc (.cells (bC z25) 30)) (.cells (bC (k1 x0)) 30); simpa using this
  clear hk hkk hnm htg hz
  go_enter Try.func60, Try.ntmps60
  go_upto_region 2 with (first | ((with_reducible refine gate_bd 30 _ rfl ?_); refine wl_bd rfl _ [(0, .tmp 6)] rfl [(0, .int .u8 (x0.toNat : Int))] rfl (bC (k1 x0)) hbt ?_) | ((with_reducible refine gate_st 30 _ _ rfl ?_); refine wl_strn rfl _ _ _ rfl (bC (k1 x0)) #[Value.int IntKind.u8 0, Value.int IntKind.u8 0, Value.int IntKind.u8 0, Value.int IntKind.u8 0, Value.int IntKind.u8 0, Value.int IntKind.u8 0, Value.int IntKind.u8 0, Value.int IntKind.u8 0, Value.int IntKind.u8 0, Value.int IntKind.u8 0, Value.int IntKind.u8 0, Value.int IntKind.u8 0, Value.int IntKind.u8 0, Value.int IntKind.u8 0, Value.int IntKind.u8 0, Value.int IntKind.u8 0, Value.int IntKind.u8 0, Value.int IntKind.u8 0, Value.int IntKind.u8 0, Value.int IntKind.u8 0, Value.int IntKind.u8 0, Value.int IntKind.u8 0, Value.int IntKind.u8 0, Value.int IntKind.u8 0, Value.int IntKind.u8 0] _ (by rw [sizKey, bC_size, k1_len]) rfl (bC_one _) (by simp [Act.eval]) rfl ?_))
  rw [show (Obj.cells #[Value.int IntKind.u8 0, Value.int IntKind.u8 0, Value.int IntKind.u8 0, Value.int IntKind.u8 0, Value.int IntKind.u8 0, Value.int IntKind.u8 0, Value.int IntKind.u8 0, Value.int IntKind.u8 0, Value.int IntKind.u8 0, Value.int IntKind.u8 0, Value.int IntKind.u8 0, Value.int IntKind.u8 0, Value.int IntKind.u8 0, Value.int IntKind.u8 0, Value.int IntKind.u8 0, Value.int IntKind.u8 0, Value.int IntKind.u8 0, Value.int IntKind.u8 0, Value.int IntKind.u8 0, Value.int IntKind.u8 0, Value.int IntKind.u8 0, Value.int IntKind.u8 0, Value.int IntKind.u8 0, Value.int IntKind.u8 0, Value.int IntKind.u8 0] 30) = Obj.cells (bC z25) 30 from by simp [bC, z25, List.replicate]]
  simp only [Nat.add_assoc, Nat.reduceAdd]
  clear hc0 hbt
  generalize (((w.alloc (.cells (pC k d).toArray 63)).alloc (.cells (bC z25) 30)).alloc (.cells (bC (k1 x0)) 30)) = W0 at *
  rcases (show d < 1 ∨ d = 1 ∨ d = 2 ∨ d = 3 ∨ d = 4 ∨ 4 < d by omega) with hd | hd | hd | hd | hd | hd
  · have HCN : Hid (cutN d = 0) := by show _ = _; unfold cutN; rw [if_pos hd]
    have t1 : ¬ (1 : Int) < d := by omega
    have t2 : ¬ (2 : Int) < d := by omega
    have t3 : ¬ (3 : Int) < d := by omega
    have t4 : ¬ (4 : Int) < d := by omega
    have t0 : d < 1 := by omega
    have hdp := HS0.out.dep HK.out
    obtain ⟨⟨b0, hb0⟩, hf0⟩ := HS0.out.at_ 0 (by omega)
    have HS1 : Hid (CSt w k d ((k1 x0).set 0 0) (W0.setCell ⟨w.heap.size + 2, 0, none⟩ (.int .u8 0))) := HS0.out.cell 0 0
    have HC : Hid (((k1 x0).set 0 0) = cutK k d) := by
      show _ = _
      unfold cutK; rw [HCN.out]; conv => rhs; rw [HKK.out]
      simp [k1]
    rw [HC.out] at HS1
    go_upto_region 12 with fail
    generalize W0.setCell ⟨w.heap.size + 2, 0, none⟩ (.int .u8 0) = W1 at *
    go_wp2_with (first | ((with_reducible refine gate_ld 30 _ rfl ?_); refine wl_ldr rfl 30 _ rfl (w.heap.size + 2) 0 (bC (cutK k d)).toList _ Try.underlying30 rfl (by rw [sizKey]; simp [bC, HS1.out.len]) rfl (range_whole (by simpa using HS1.out.dst)) ?_) | ((with_reducible refine gate_st 30 _ _ rfl ?_); refine wl_str rfl 30 _ _ rfl (w.heap.size + 1) (bC (cutK k d)) (bC z25) _ (by rw [sizKey, bC_size, HS1.out.len]) (by rw [bC_size, bC_size, HS1.out.len]; rfl) (bC_one _) rfl rfl HS1.out.res ?_))
    refine bodyPost_ret (res_rowc (P := Try.prog) (T := 30) (T' := 30) rfl _ _ (w.heap.size + 1) (bC (cutK k d)) (0, 0) rfl (setRow_at HS1.out.res) Try.underlying30 rfl (by rw [sizKey, bC_size, HS1.out.len])) rfl ⟨rfl, setRow_below HS1.out.bel (by omega) _⟩
  · have HCN : Hid (cutN d = 1) := by show _ = _; unfold cutN; subst hd; rfl
    have t1 : ¬ (1 : Int) < d := by omega
    have t2 : ¬ (2 : Int) < d := by omega
    have t3 : ¬ (3 : Int) < d := by omega
    have t4 : ¬ (4 : Int) < d := by omega
    have t0 : ¬ d < 1 := by omega
    have hdp := HS0.out.dep HK.out
    clear hd
    have HC : Hid ((k1 x0) = cutK k d) := by
      show _ = _
      unfold cutK; rw [HCN.out]; conv => rhs; rw [HKK.out]
      simp [k1]
    rw [HC.out] at HS0
    go_wp2_with (first | ((with_reducible refine gate_ld 30 _ rfl ?_); refine wl_ldr rfl 30 _ rfl (w.heap.size + 2) 0 (bC (cutK k d)).toList _ Try.underlying30 rfl (by rw [sizKey]; simp [bC, HS0.out.len]) rfl (range_whole (by simpa using HS0.out.dst)) ?_) | ((with_reducible refine gate_st 30 _ _ rfl ?_); refine wl_str rfl 30 _ _ rfl (w.heap.size + 1) (bC (cutK k d)) (bC z25) _ (by rw [sizKey, bC_size, HS0.out.len]) (by rw [bC_size, bC_size, HS0.out.len]; rfl) (bC_one _) rfl rfl HS0.out.res ?_))
    refine bodyPost_ret (res_rowc (P := Try.prog) (T := 30) (T' := 30) rfl _ _ (w.heap.size + 1) (bC (cutK k d)) (0, 0) rfl (setRow_at HS0.out.res) Try.underlying30 rfl (by rw [sizKey, bC_size, HS0.out.len])) rfl ⟨rfl, setRow_below HS0.out.bel (by omega) _⟩
  · have HCN : Hid (cutN d = 2) := by show _ = _; unfold cutN; subst hd; rfl
    have t1 : (1 : Int) < d := by omega
    have t2 : ¬ (2 : Int) < d := by omega
    have t3 : ¬ (3 : Int) < d := by omega
    have t4 : ¬ (4 : Int) < d := by omega
    have t0 : ¬ d < 1 := by omega
    have hdp := HS0.out.dep HK.out
    clear hd
    obtain ⟨⟨b1, hb1⟩, hf1⟩ := HS0.out.at_ 1 (by omega)
    have hk1 : W0.cell? ⟨w.heap.size, 1, none⟩ = some (.int .u8 (x1.toNat : Int)) := by have := HS0.out.key 1 (by rw [HK.out]; omega); simpa [HKK.out] using this
    have HS1 : Hid (CSt w k d ((k1 x0).set 1 x1) (W0.setCell ⟨w.heap.size + 2, 1, none⟩ (.int .u8 (x1.toNat : Int)))) := HS0.out.cell 1 x1
    go_upto_region 6 with fail
    clear hdp hb1 hf1 hk1
    generalize W0.setCell ⟨w.heap.size + 2, 1, none⟩ (.int .u8 (x1.toNat : Int)) = W1 at *
    have hdp := HS1.out.dep HK.out
    have HC : Hid (((k1 x0).set 1 x1) = cutK k d) := by
      show _ = _
      unfold cutK; rw [HCN.out]; conv => rhs; rw [HKK.out]
      simp [k1]
    rw [HC.out] at HS1
    go_wp2_with (first | ((with_reducible refine gate_ld 30 _ rfl ?_); refine wl_ldr rfl 30 _ rfl (w.heap.size + 2) 0 (bC (cutK k d)).toList _ Try.underlying30 rfl (by rw [sizKey]; simp [bC, HS1.out.len]) rfl (range_whole (by simpa using HS1.out.dst)) ?_) | ((with_reducible refine gate_st 30 _ _ rfl ?_); refine wl_str rfl 30 _ _ rfl (w.heap.size + 1) (bC (cutK k d)) (bC z25) _ (by rw [sizKey, bC_size, HS1.out.len]) (by rw [bC_size, bC_size, HS1.out.len]; rfl) (bC_one _) rfl rfl HS1.out.res ?_))
    refine bodyPost_ret (res_rowc (P := Try.prog) (T := 30) (T' := 30) rfl _ _ (w.heap.size + 1) (bC (cutK k d)) (0, 0) rfl (setRow_at HS1.out.res) Try.underlying30 rfl (by rw [sizKey, bC_size, HS1.out.len])) rfl ⟨rfl, setRow_below HS1.out.bel (by omega) _⟩
  · have HCN : Hid (cutN d = 3) := by show _ = _; unfold cutN; subst hd; rfl
    have t1 : (1 : Int) < d := by omega
    have t2 : (2 : Int) < d := by omega
    have t3 : ¬ (3 : Int) < d := by omega
    have t4 : ¬ (4 : Int) < d := by omega
    have t0 : ¬ d < 1 := by omega
    have hdp := HS0.out.dep HK.out
    clear hd
    obtain ⟨⟨b1, hb1⟩, hf1⟩ := HS0.out.at_ 1 (by omega)
    have hk1 : W0.cell? ⟨w.heap.size, 1, none⟩ = some (.int .u8 (x1.toNat : Int)) := by have := HS0.out.key 1 (by rw [HK.out]; omega); simpa [HKK.out] using this
    have HS1 : Hid (CSt w k d ((k1 x0).set 1 x1) (W0.setCell ⟨w.heap.size + 2, 1, none⟩ (.int .u8 (x1.toNat : Int)))) := HS0.out.cell 1 x1
    go_upto_region 6 with fail
    clear hdp hb1 hf1 hk1
    generalize W0.setCell ⟨w.heap.size + 2, 1, none⟩ (.int .u8 (x1.toNat : Int)) = W1 at *
    have hdp := HS1.out.dep HK.out
    obtain ⟨⟨b2, hb2⟩, hf2⟩ := HS1.out.at_ 2 (by omega)
    have hk2 : W1.cell? ⟨w.heap.size, 2, none⟩ = some (.int .u8 (x2.toNat : Int)) := by have := HS1.out.key 2 (by rw [HK.out]; omega); simpa [HKK.out] using this
    have HS2 : Hid (CSt w k d (((k1 x0).set 1 x1).set 2 x2) (W1.setCell ⟨w.heap.size + 2, 2, none⟩ (.int .u8 (x2.toNat : Int)))) := HS1.out.cell 2 x2
    go_upto_region 8 with fail
    clear hdp hb2 hf2 hk2
    generalize W1.setCell ⟨w.heap.size + 2, 2, none⟩ (.int .u8 (x2.toNat : Int)) = W2 at *
    have hdp := HS2.out.dep HK.out
    have HC : Hid ((((k1 x0).set 1 x1).set 2 x2) = cutK k d) := by
      show _ = _
      unfold cutK; rw [HCN.out]; conv => rhs; rw [HKK.out]
      simp [k1]
    rw [HC.out] at HS2
    go_wp2_with (first | ((with_reducible refine gate_ld 30 _ rfl ?_); refine wl_ldr rfl 30 _ rfl (w.heap.size + 2) 0 (bC (cutK k d)).toList _ Try.underlying30 rfl (by rw [sizKey]; simp [bC, HS2.out.len]) rfl (range_whole (by simpa using HS2.out.dst)) ?_) | ((with_reducible refine gate_st 30 _ _ rfl ?_); refine wl_str rfl 30 _ _ rfl (w.heap.size + 1) (bC (cutK k d)) (bC z25) _ (by rw [sizKey, bC_size, HS2.out.len]) (by rw [bC_size, bC_size, HS2.out.len]; rfl) (bC_one _) rfl rfl HS2.out.res ?_))
    refine bodyPost_ret (res_rowc (P := Try.prog) (T := 30) (T' := 30) rfl _ _ (w.heap.size + 1) (bC (cutK k d)) (0, 0) rfl (setRow_at HS2.out.res) Try.underlying30 rfl (by rw [sizKey, bC_size, HS2.out.len])) rfl ⟨rfl, setRow_below HS2.out.bel (by omega) _⟩
  · have HCN : Hid (cutN d = 15) := by show _ = _; unfold cutN; subst hd; rfl
    have t1 : (1 : Int) < d := by omega
    have t2 : (2 : Int) < d := by omega
    have t3 : (3 : Int) < d := by omega
    have t4 : ¬ (4 : Int) < d := by omega
    have t0 : ¬ d < 1 := by omega
    have hdp := HS0.out.dep HK.out
    clear hd
    obtain ⟨⟨b1, hb1⟩, hf1⟩ := HS0.out.at_ 1 (by omega)
    have hk1 : W0.cell? ⟨w.heap.size, 1, none⟩ = some (.int .u8 (x1.toNat : Int)) := by have := HS0.out.key 1 (by rw [HK.out]; omega); simpa [HKK.out] using this
    have HS1 : Hid (CSt w k d ((k1 x0).set 1 x1) (W0.setCell ⟨w.heap.size + 2, 1, none⟩ (.int .u8 (x1.toNat : Int)))) := HS0.out.cell 1 x1
    go_upto_region 6 with fail
    clear hdp hb1 hf1 hk1
    generalize W0.setCell ⟨w.heap.size + 2, 1, none⟩ (.int .u8 (x1.toNat : Int)) = W1 at *
    have hdp := HS1.out.dep HK.out
    obtain ⟨⟨b2, hb2⟩, hf2⟩ := HS1.out.at_ 2 (by omega)
    have hk2 : W1.cell? ⟨w.heap.size, 2, none⟩ = some (.int .u8 (x2.toNat : Int)) := by have := HS1.out.key 2 (by rw [HK.out]; omega); simpa [HKK.out] using this
    have HS2 : Hid (CSt w k d (((k1 x0).set 1 x1).set 2 x2) (W1.setCell ⟨w.heap.size + 2, 2, none⟩ (.int .u8 (x2.toNat : Int)))) := HS1.out.cell 2 x2
    go_upto_region 8 with fail
    clear hdp hb2 hf2 hk2
    generalize W1.setCell ⟨w.heap.size + 2, 2, none⟩ (.int .u8 (x2.toNat : Int)) = W2 at *
    have hdp := HS2.out.dep HK.out
    have HS3 : Hid (CSt w k d (ovl (((k1 x0).set 1 x1).set 2 x2) 3 nm) (W2.setRow (w.heap.size + 2) (bC (ovl (((k1 x0).set 1 x1).set 2 x2) 3 nm)))) := HS2.out.row 3 nm (by rw [HNm.out]; omega)
    go_upto_region 10 with (first | ((with_reducible refine gate_ld 24 _ rfl ?_); refine wl_ldr rfl 24 _ rfl w.heap.size 3 (bC nm).toList _ Try.underlying24 rfl (by rw [sizName]; simp [bC, HNm.out]) rfl (by have := pC_sub HS2.out.src 3 12; rwa [HN.out] at this) ?_) | ((with_reducible refine gate_st 24 _ _ rfl ?_); refine st_mid rfl 24 _ _ rfl (w.heap.size + 2) 3 (((k1 x0).set 1 x1).set 2 x2) nm _ HS2.out.dst rfl rfl (by rw [sizName, HNm.out]) (by rw [HS2.out.len, HNm.out]; omega) ?_))
    clear hdp
    generalize W2.setRow (w.heap.size + 2) (bC (ovl (((k1 x0).set 1 x1).set 2 x2) 3 nm)) = W3 at *
    have hdp := HS3.out.dep HK.out
    have HC : Hid ((ovl (((k1 x0).set 1 x1).set 2 x2) 3 nm) = cutK k d) := by
      show _ = _
      unfold cutK; rw [HCN.out]; conv => rhs; rw [HKK.out]
      simp [k1, ovl, HNm.out]
    rw [HC.out] at HS3
    go_wp2_with (first | ((with_reducible refine gate_ld 30 _ rfl ?_); refine wl_ldr rfl 30 _ rfl (w.heap.size + 2) 0 (bC (cutK k d)).toList _ Try.underlying30 rfl (by rw [sizKey]; simp [bC, HS3.out.len]) rfl (range_whole (by simpa using HS3.out.dst)) ?_) | ((with_reducible refine gate_st 30 _ _ rfl ?_); refine wl_str rfl 30 _ _ rfl (w.heap.size + 1) (bC (cutK k d)) (bC z25) _ (by rw [sizKey, bC_size, HS3.out.len]) (by rw [bC_size, bC_size, HS3.out.len]; rfl) (bC_one _) rfl rfl HS3.out.res ?_))
    refine bodyPost_ret (res_rowc (P := Try.prog) (T := 30) (T' := 30) rfl _ _ (w.heap.size + 1) (bC (cutK k d)) (0, 0) rfl (setRow_at HS3.out.res) Try.underlying30 rfl (by rw [sizKey, bC_size, HS3.out.len])) rfl ⟨rfl, setRow_below HS3.out.bel (by omega) _⟩
  · have HCN : Hid (cutN d = 25) := by show _ = _; unfold cutN; rw [if_neg (by omega), if_neg (by omega), if_neg (by omega), if_neg (by omega), if_neg (by omega)]
    have t1 : (1 : Int) < d := by omega
    have t2 : (2 : Int) < d := by omega
    have t3 : (3 : Int) < d := by omega
    have t4 : (4 : Int) < d := by omega
    have t0 : ¬ d < 1 := by omega
    have hdp := HS0.out.dep HK.out
    obtain ⟨⟨b1, hb1⟩, hf1⟩ := HS0.out.at_ 1 (by omega)
    have hk1 : W0.cell? ⟨w.heap.size, 1, none⟩ = some (.int .u8 (x1.toNat : Int)) := by have := HS0.out.key 1 (by rw [HK.out]; omega); simpa [HKK.out] using this
    have HS1 : Hid (CSt w k d ((k1 x0).set 1 x1) (W0.setCell ⟨w.heap.size + 2, 1, none⟩ (.int .u8 (x1.toNat : Int)))) := HS0.out.cell 1 x1
    go_upto_region 6 with fail
    clear hdp hb1 hf1 hk1
    generalize W0.setCell ⟨w.heap.size + 2, 1, none⟩ (.int .u8 (x1.toNat : Int)) = W1 at *
    have hdp := HS1.out.dep HK.out
    obtain ⟨⟨b2, hb2⟩, hf2⟩ := HS1.out.at_ 2 (by omega)
    have hk2 : W1.cell? ⟨w.heap.size, 2, none⟩ = some (.int .u8 (x2.toNat : Int)) := by have := HS1.out.key 2 (by rw [HK.out]; omega); simpa [HKK.out] using this
    have HS2 : Hid (CSt w k d (((k1 x0).set 1 x1).set 2 x2) (W1.setCell ⟨w.heap.size + 2, 2, none⟩ (.int .u8 (x2.toNat : Int)))) := HS1.out.cell 2 x2
    go_upto_region 8 with fail
    clear hdp hb2 hf2 hk2
    generalize W1.setCell ⟨w.heap.size + 2, 2, none⟩ (.int .u8 (x2.toNat : Int)) = W2 at *
    have hdp := HS2.out.dep HK.out
    have HS3 : Hid (CSt w k d (ovl (((k1 x0).set 1 x1).set 2 x2) 3 nm) (W2.setRow (w.heap.size + 2) (bC (ovl (((k1 x0).set 1 x1).set 2 x2) 3 nm)))) := HS2.out.row 3 nm (by rw [HNm.out]; omega)
    go_upto_region 10 with (first | ((with_reducible refine gate_ld 24 _ rfl ?_); refine wl_ldr rfl 24 _ rfl w.heap.size 3 (bC nm).toList _ Try.underlying24 rfl (by rw [sizName]; simp [bC, HNm.out]) rfl (by have := pC_sub HS2.out.src 3 12; rwa [HN.out] at this) ?_) | ((with_reducible refine gate_st 24 _ _ rfl ?_); refine st_mid rfl 24 _ _ rfl (w.heap.size + 2) 3 (((k1 x0).set 1 x1).set 2 x2) nm _ HS2.out.dst rfl rfl (by rw [sizName, HNm.out]) (by rw [HS2.out.len, HNm.out]; omega) ?_))
    clear hdp
    generalize W2.setRow (w.heap.size + 2) (bC (ovl (((k1 x0).set 1 x1).set 2 x2) 3 nm)) = W3 at *
    have hdp := HS3.out.dep HK.out
    have HS4 : Hid (CSt w k d (ovl (ovl (((k1 x0).set 1 x1).set 2 x2) 3 nm) 15 tg) (W3.setRow (w.heap.size + 2) (bC (ovl (ovl (((k1 x0).set 1 x1).set 2 x2) 3 nm) 15 tg)))) := HS3.out.row 15 tg (by rw [HTg.out]; omega)
    go_upto_region 12 with (first | ((with_reducible refine gate_ld 28 _ rfl ?_); refine wl_ldr rfl 28 _ rfl w.heap.size 15 (bC tg).toList _ Try.underlying28 rfl (by rw [sizTag]; simp [bC, HTg.out]) rfl (by have := pC_sub HS3.out.src 15 10; rwa [HD.out] at this) ?_) | ((with_reducible refine gate_st 28 _ _ rfl ?_); refine st_mid rfl 28 _ _ rfl (w.heap.size + 2) 15 (ovl (((k1 x0).set 1 x1).set 2 x2) 3 nm) tg _ HS3.out.dst rfl rfl (by rw [sizTag, HTg.out]) (by rw [HS3.out.len, HTg.out]; omega) ?_))
    clear hdp
    generalize W3.setRow (w.heap.size + 2) (bC (ovl (ovl (((k1 x0).set 1 x1).set 2 x2) 3 nm) 15 tg)) = W4 at *
    have HC : Hid ((ovl (ovl (((k1 x0).set 1 x1).set 2 x2) 3 nm) 15 tg) = cutK k d) := by
      show _ = _
      unfold cutK; rw [HCN.out]; conv => rhs; rw [HKK.out]
      simp [k1, ovl, HNm.out, HTg.out]; rw [List.drop_eq_nil_of_le (by simp [HNm.out]), List.append_nil, List.take_of_length_le (by simp [HNm.out, HTg.out])]
    rw [HC.out] at HS4
    go_wp2_with (first | ((with_reducible refine gate_ld 30 _ rfl ?_); refine wl_ldr rfl 30 _ rfl (w.heap.size + 2) 0 (bC (cutK k d)).toList _ Try.underlying30 rfl (by rw [sizKey]; simp [bC, HS4.out.len]) rfl (range_whole (by simpa using HS4.out.dst)) ?_) | ((with_reducible refine gate_st 30 _ _ rfl ?_); refine wl_str rfl 30 _ _ rfl (w.heap.size + 1) (bC (cutK k d)) (bC z25) _ (by rw [sizKey, bC_size, HS4.out.len]) (by rw [bC_size, bC_size, HS4.out.len]; rfl) (bC_one _) rfl rfl HS4.out.res ?_))
    refine bodyPost_ret (res_rowc (P := Try.prog) (T := 30) (T' := 30) rfl _ _ (w.heap.size + 1) (bC (cutK k d)) (0, 0) rfl (setRow_at HS4.out.res) Try.underlying30 rfl (by rw [sizKey, bC_size, HS4.out.len])) rfl ⟨rfl, setRow_below HS4.out.bel (by omega) _⟩
end Go.Proofs.Ytagdedjclbmlkaa

/- Prefix: Has. -/
namespace Go.Proofs.Ytagdedjclbmlkaa
open Go.RowKit

theorem list25 (q : List UInt8) (hq : q.length = 25) : ∃ a0 a1 a2 a3 a4 a5 a6 a7 a8 a9 a10 a11 a12 a13 a14 a15 a16 a17 a18 a19 a20 a21 a22 a23 a24, q = [a0, a1, a2, a3, a4, a5, a6, a7, a8, a9, a10, a11, a12, a13, a14, a15, a16, a17, a18, a19, a20, a21, a22, a23, a24] := by
  match q, hq with
  | [a0, a1, a2, a3, a4, a5, a6, a7, a8, a9, a10, a11, a12, a13, a14, a15, a16, a17, a18, a19, a20, a21, a22, a23, a24], _ => exact ⟨a0, a1, a2, a3, a4, a5, a6, a7, a8, a9, a10, a11, a12, a13, a14, a15, a16, a17, a18, a19, a20, a21, a22, a23, a24, rfl⟩
theorem builtPre0 (a0 a1 a2 a3 a4 a5 a6 a7 a8 a9 a10 a11 a12 a13 a14 a15 a16 a17 a18 a19 a20 a21 a22 a23 a24 : UInt8) (d : Int) : Try.prog.built 63 [(0, .agg (bC [a0, a1, a2, a3, a4, a5, a6, a7, a8, a9, a10, a11, a12, a13, a14, a15, a16, a17, a18, a19, a20, a21, a22, a23, a24])), (1, .int .i64 d)] = some (pC [a0, a1, a2, a3, a4, a5, a6, a7, a8, a9, a10, a11, a12, a13, a14, a15, a16, a17, a18, a19, a20, a21, a22, a23, a24] d).toArray := by kernel_rfl
theorem builtPre (q : List UInt8) (hq : q.length = 25) (d : Int) : Try.prog.built 63 [(0, .agg (bC q)), (1, .int .i64 d)] = some (pC q d).toArray := by
  obtain ⟨a0, a1, a2, a3, a4, a5, a6, a7, a8, a9, a10, a11, a12, a13, a14, a15, a16, a17, a18, a19, a20, a21, a22, a23, a24, rfl⟩ := list25 q hq
  exact builtPre0 ..
theorem list10 (l : List UInt8) (h : l.length = 10) : ∃ a b c d e f g i j k, l = [a, b, c, d, e, f, g, i, j, k] := by
  match l, h with
  | [a, b, c, d, e, f, g, i, j, k], _ => exact ⟨a, b, c, d, e, f, g, i, j, k, rfl⟩
theorem run_eqIn (w : World) (t : TypeId) (n d : Nat) (ht : Try.prog.underlying t = some (.array n 5)) (xs ys : List UInt8) (hx : xs.length = n) (hy : ys.length = n) : (Op.equalIn (d + 2) t (.agg (bC xs)) (.agg (bC ys))).run Try.prog w = .ok (xs == ys) w :=
  run_equalIn_bytes w d t 5 n ht Try.underlying5 (fun _ => by kernel_rfl) xs ys hx hy
theorem eqInTag (w : World) (n : Nat) (xs ys : List UInt8) (hx : xs.length = 10) (hy : ys.length = 10) : (Op.equalIn (n + 3) 28 (.agg (bC xs)) (.agg (bC ys))).run Try.prog w = .ok (xs == ys) w := by
  obtain ⟨a, b, c, d, e, f, g, i, j, k, rfl⟩ := list10 xs hx
  obtain ⟨a', b', c', d', e', f', g', i', j', k', rfl⟩ := list10 ys hy
  rw [run_equalIn_struct w (n + 2) 28 _ _ (by kernel_rfl) (by kernel_rfl)]
  have p0 : ∀ (a b c d e f g i j k : UInt8) (w : World), (part 25 (bC [a, b, c, d, e, f, g, i, j, k]) 0).run Try.prog w = .ok (.agg (bC [a, b, c])) w := fun _ _ _ _ _ _ _ _ _ _ _ => by kernel_rfl
  have p1 : ∀ (a b c d e f g i j k : UInt8) (w : World), (part 26 (bC [a, b, c, d, e, f, g, i, j, k]) 3).run Try.prog w = .ok (.agg (bC [d, e, f, g])) w := fun _ _ _ _ _ _ _ _ _ _ _ => by kernel_rfl
  have p2 : ∀ (a b c d e f g i j k : UInt8) (w : World), (part 25 (bC [a, b, c, d, e, f, g, i, j, k]) 7).run Try.prog w = .ok (.agg (bC [i, j, k])) w := fun _ _ _ _ _ _ _ _ _ _ _ => by kernel_rfl
  have q0 := run_eqIn w 25 3 n Try.underlying25 [a, b, c] [a', b', c'] rfl rfl
  have q1 := run_eqIn w 26 4 n Try.underlying26 [d, e, f, g] [d', e', f', g'] rfl rfl
  have q2 := run_eqIn w 25 3 n Try.underlying25 [i, j, k] [i', j', k'] rfl rfl
  have hb : ([a, b, c, d, e, f, g, i, j, k] == [a', b', c', d', e', f', g', i', j', k']) = (([a, b, c] == [a', b', c']) && (([d, e, f, g] == [d', e', f', g']) && ([i, j, k] == [i', j', k']))) := by
    rw [Bool.eq_iff_iff]; simp; constructor
    · rintro ⟨h1, h2, h3, h4, h5, h6, h7, h8, h9, h10⟩; exact ⟨⟨h1, h2, h3⟩, ⟨h4, h5, h6, h7⟩, h8, h9, h10⟩
    · rintro ⟨⟨h1, h2, h3⟩, ⟨h4, h5, h6, h7⟩, h8, h9, h10⟩; exact ⟨h1, h2, h3, h4, h5, h6, h7, h8, h9, h10⟩
  rw [hb]
  generalize ([a, b, c] == [a', b', c']) = r0 at *
  generalize ([d, e, f, g] == [d', e', f', g']) = r1 at *
  generalize ([i, j, k] == [i', j', k']) = r2 at *
  simp only [Program.fieldsOf, Try.underlying28, Op.eqFields]
  simp [p0, p1, p2, q0, q1, q2]
  cases r0 <;> cases r1 <;> cases r2 <;> simp
theorem partK0 (a0 a1 a2 a3 a4 a5 a6 a7 a8 a9 a10 a11 a12 a13 a14 a15 a16 a17 a18 a19 a20 a21 a22 a23 a24 : UInt8) (w : World) : (part 5 (bC [a0, a1, a2, a3, a4, a5, a6, a7, a8, a9, a10, a11, a12, a13, a14, a15, a16, a17, a18, a19, a20, a21, a22, a23, a24]) 0).run Try.prog w = .ok (.int .u8 (a0.toNat : Int)) w := by kernel_rfl
theorem partK1 (a0 a1 a2 a3 a4 a5 a6 a7 a8 a9 a10 a11 a12 a13 a14 a15 a16 a17 a18 a19 a20 a21 a22 a23 a24 : UInt8) (w : World) : (part 5 (bC [a0, a1, a2, a3, a4, a5, a6, a7, a8, a9, a10, a11, a12, a13, a14, a15, a16, a17, a18, a19, a20, a21, a22, a23, a24]) 1).run Try.prog w = .ok (.int .u8 (a1.toNat : Int)) w := by kernel_rfl
theorem partK2 (a0 a1 a2 a3 a4 a5 a6 a7 a8 a9 a10 a11 a12 a13 a14 a15 a16 a17 a18 a19 a20 a21 a22 a23 a24 : UInt8) (w : World) : (part 5 (bC [a0, a1, a2, a3, a4, a5, a6, a7, a8, a9, a10, a11, a12, a13, a14, a15, a16, a17, a18, a19, a20, a21, a22, a23, a24]) 2).run Try.prog w = .ok (.int .u8 (a2.toNat : Int)) w := by kernel_rfl
theorem partK3 (a0 a1 a2 a3 a4 a5 a6 a7 a8 a9 a10 a11 a12 a13 a14 a15 a16 a17 a18 a19 a20 a21 a22 a23 a24 : UInt8) (w : World) : (part 24 (bC [a0, a1, a2, a3, a4, a5, a6, a7, a8, a9, a10, a11, a12, a13, a14, a15, a16, a17, a18, a19, a20, a21, a22, a23, a24]) 3).run Try.prog w = .ok (.agg (bC [a3, a4, a5, a6, a7, a8, a9, a10, a11, a12, a13, a14])) w := by kernel_rfl
theorem partK4 (a0 a1 a2 a3 a4 a5 a6 a7 a8 a9 a10 a11 a12 a13 a14 a15 a16 a17 a18 a19 a20 a21 a22 a23 a24 : UInt8) (w : World) : (part 28 (bC [a0, a1, a2, a3, a4, a5, a6, a7, a8, a9, a10, a11, a12, a13, a14, a15, a16, a17, a18, a19, a20, a21, a22, a23, a24]) 15).run Try.prog w = .ok (.agg (bC [a15, a16, a17, a18, a19, a20, a21, a22, a23, a24])) w := by kernel_rfl
theorem eqInKey (w : World) (n : Nat) (xs ys : List UInt8) (hx : xs.length = 25) (hy : ys.length = 25) : (Op.equalIn (n + 4) 30 (.agg (bC xs)) (.agg (bC ys))).run Try.prog w = .ok (xs == ys) w := by
  obtain ⟨a0, a1, a2, a3, a4, a5, a6, a7, a8, a9, a10, a11, a12, a13, a14, a15, a16, a17, a18, a19, a20, a21, a22, a23, a24, rfl⟩ := list25 xs hx
  obtain ⟨b0, b1, b2, b3, b4, b5, b6, b7, b8, b9, b10, b11, b12, b13, b14, b15, b16, b17, b18, b19, b20, b21, b22, b23, b24, rfl⟩ := list25 ys hy
  rw [run_equalIn_struct w (n + 3) 30 _ _ (by kernel_rfl) (by kernel_rfl)]
  have q0 := run_equalIn_int (P := Try.prog) w (n + 2) 5 .u8 .u8 (a0.toNat : Int) (b0.toNat : Int) Try.underlying5
  have q1 := run_equalIn_int (P := Try.prog) w (n + 2) 5 .u8 .u8 (a1.toNat : Int) (b1.toNat : Int) Try.underlying5
  have q2 := run_equalIn_int (P := Try.prog) w (n + 2) 5 .u8 .u8 (a2.toNat : Int) (b2.toNat : Int) Try.underlying5
  have q3 := run_eqIn w 24 12 (n + 1) Try.underlying24 [a3, a4, a5, a6, a7, a8, a9, a10, a11, a12, a13, a14] [b3, b4, b5, b6, b7, b8, b9, b10, b11, b12, b13, b14] rfl rfl
  have q4 := eqInTag w n [a15, a16, a17, a18, a19, a20, a21, a22, a23, a24] [b15, b16, b17, b18, b19, b20, b21, b22, b23, b24] rfl rfl
  have hb : ([a0, a1, a2, a3, a4, a5, a6, a7, a8, a9, a10, a11, a12, a13, a14, a15, a16, a17, a18, a19, a20, a21, a22, a23, a24] == [b0, b1, b2, b3, b4, b5, b6, b7, b8, b9, b10, b11, b12, b13, b14, b15, b16, b17, b18, b19, b20, b21, b22, b23, b24]) = (((a0.toNat : Int) == (b0.toNat : Int)) && (((a1.toNat : Int) == (b1.toNat : Int)) && (((a2.toNat : Int) == (b2.toNat : Int)) && (([a3, a4, a5, a6, a7, a8, a9, a10, a11, a12, a13, a14] == [b3, b4, b5, b6, b7, b8, b9, b10, b11, b12, b13, b14]) && ([a15, a16, a17, a18, a19, a20, a21, a22, a23, a24] == [b15, b16, b17, b18, b19, b20, b21, b22, b23, b24]))))) := by
    rw [Bool.eq_iff_iff]
    simp only [beq_iff_eq, Bool.and_eq_true, List.cons.injEq, Int.ofNat_inj, UInt8.toNat_inj, and_assoc, and_true]
  rw [hb]
  generalize ((a0.toNat : Int) == (b0.toNat : Int)) = r0 at *
  generalize ((a1.toNat : Int) == (b1.toNat : Int)) = r1 at *
  generalize ((a2.toNat : Int) == (b2.toNat : Int)) = r2 at *
  generalize ([a3, a4, a5, a6, a7, a8, a9, a10, a11, a12, a13, a14] == [b3, b4, b5, b6, b7, b8, b9, b10, b11, b12, b13, b14]) = r3 at *
  generalize ([a15, a16, a17, a18, a19, a20, a21, a22, a23, a24] == [b15, b16, b17, b18, b19, b20, b21, b22, b23, b24]) = r4 at *
  simp only [Program.fieldsOf, Try.underlying30, Op.eqFields]
  simp [partK0, partK1, partK2, partK3, partK4, q0, q1, q2, q3, q4]
  cases r0 <;> cases r1 <;> cases r2 <;> cases r3 <;> cases r4 <;> simp
theorem eqlKey (w : World) (xs ys : List UInt8) (hx : xs.length = 25) (hy : ys.length = 25) : (binOp .eql 30 (.agg (bC xs)) (.agg (bC ys))).run Try.prog w = .ok (.bool (xs == ys)) w := by
  rw [run_eql_struct, show (10000 : Nat) = 9996 + 4 from rfl, eqInKey w 9996 xs ys hx hy]; rfl
theorem exec_eqlKey {a : Act} {o : Oper} (w : World) (x y : Operand) (ho : o.op = .binOp .eql 30 x y 30) (xs ys : List UInt8) (hxs : xs.length = 25) (hys : ys.length = 25) (hx : a.eval x = .agg (bC xs)) (hy : a.eval y = .agg (bC ys)) : (execOp a.eval o).run Try.prog w = .ok (.value (.bool (xs == ys))) w := by
  have hgd : (eqGuard .eql 30 x y (.agg (bC xs)) (.agg (bC ys))).run Try.prog w = .ok () w := run_eqGuard_agg w .eql 30 x y _ _ (by kernel_rfl)
  unfold execOp
  simp only [ho, hx, hy, Sem.run_bind, hgd, eqlKey w xs ys hxs hys, Result.andThen_ok, Sem.run_pure]
def hasP (k : List UInt8) (d : Int) (q : List UInt8) : Bool := depOk d && (cutK k d == cutK q d)
section
variable {W : World} {P : Program} {ops : Array Oper} {Q : Act → Prop} {a : Act} {o : Oper} {rest : List Oper}
theorem wq_cell (hw : Region.wanted o (yielded ops a.tmps) = true) (T : TypeId) (x : Operand) (ho : o.op = .load T x) (b i : Nat) (v : Value) (kd : IntKind) (hu : P.underlying T = some (.int kd))
    (hx : a.eval x = .pointer (some ⟨b, i, none⟩)) (hc : W.rangeAt b i [v]) (hb : b < W.heap.size)
    (h : wpQuiet P ops (fun w' => ∃ p : Regrown, w' = Sort.grow (redrawn W p.d) p.os) Q rest (a.put o.dst v)) : wpQuiet P ops (fun w' => ∃ p : Regrown, w' = Sort.grow (redrawn W p.d) p.os) Q (o :: rest) a := by
  refine wq_valC v hw (fun w hC => ?_) h
  obtain ⟨⟨dq, osq⟩, rfl⟩ := hC
  have hc' := range_of_block hc ((below_regrown W dq osq).block b hb)
  have hq : (Sort.grow (redrawn W dq) osq).cell? ⟨b, i, none⟩ = some v := by simpa using hc' 0 v rfl
  unfold execOp
  simp only [ho, hx, Sem.run_bind]
  have hag : (isAgg T).run P (Sort.grow (redrawn W dq) osq) = .ok false (Sort.grow (redrawn W dq) osq) := by simp [isAgg, run_underlying hu]
  simp [go_sem, hag, hq]
theorem wq_bd (C : World → Prop) (hw : Region.wanted o (yielded ops a.tmps) = true) (t : TypeId) (parts : List (Nat × Operand)) (ho : o.op = .build t parts.toArray)
    (vs : List (Nat × Value)) (hv : parts.map (fun p => (p.1, a.eval p.2)) = vs) (cells : Array Value) (hf : P.built t vs = some cells)
    (h : wpQuiet P ops C Q rest (a.put o.dst (.agg cells))) : wpQuiet P ops C Q (o :: rest) a := by
  refine wq_val (.agg cells) hw (fun w => ?_) h
  have e : (parts.toArray.map fun (i, x) => (i, a.eval x)).toList = vs := by rw [← hv]; simp
  unfold execOp
  simp only [ho, Sem.run_bind]
  rw [run_build w t _ cells (by rw [e]; exact hf)]
  rfl
end
set_option maxRecDepth 100000 in
set_option maxHeartbeats 4000000 in
theorem has_any (k : List UInt8) (d : Int) (q : List UInt8) (w : World) (hk : k.length = 25) (hq : q.length = 25) :
    Calls Try.prog 47 #[.agg (pC k d).toArray, .agg (bC q)] w fun e w' => e = .returned (.bool (hasP k d q)) ∧ Below w.heap.size w w' := by
  have HK := Lib.hid hk
  have HQ := Lib.hid hq
  have FA : Hid (((w.alloc (.cells (pC k d).toArray 63)).alloc (.cells (bC q) 30)).heap[w.heap.size]? = some (Obj.cells (pC k d).toArray 63 (0, 0))) := heap_alloc2_old _ _ _
  have FB : Hid (((w.alloc (.cells (pC k d).toArray 63)).alloc (.cells (bC q) 30)).heap[w.heap.size + 1]? = some (Obj.cells (bC q) 30 (0, 0))) := heap_alloc2_new _ _ _
  have HB : Hid (Below w.heap.size w ((w.alloc (.cells (pC k d).toArray 63)).alloc (.cells (bC q) 30))) := below_alloc2 _ _ _
  have KR : Hid (∀ W, Calls Try.prog 59 #[.agg (pC k d).toArray] W fun e w' => e = .returned (.bool (depOk d)) ∧ Below W.heap.size W w') := fun W => right_any k d W hk
  have KC : Hid (∀ l, l.length = 25 → ∀ W, Calls Try.prog 60 #[.agg (pC l d).toArray] W fun e w' => e = .returned (.agg (bC (cutK l d))) ∧ Below W.heap.size W w') := fun l hl W => cut_any l d W hl
  have HD : Hid ((((w.alloc (.cells (pC k d).toArray 63)).alloc (.cells (bC q) 30))).rangeAt w.heap.size 25 [.int .i64 d]) := by
    intro i x hx
    cases i with
    | zero => simp at hx; subst hx; rw [cell_blk FA.out]; exact pC_d hk d
    | succ i => simp at hx
  clear hk hq
  cases hr : depOk d <;> rw [hr] at KR
  · have HR : Hid (hasP k d q = false) := by show _ = _; simp [hasP, hr]
    go_enter Try.func47, Try.ntmps47
    go_upto_region 1 with fail
    generalize ((w.alloc (.cells (pC k d).toArray 63)).alloc (.cells (bC q) 30)) = W0 at *
    refine wp_region_quiet_below (by kernel_rfl) (by kernel_rfl) ?_
    repeat (first
      | (refine wq_ldr rfl 63 _ rfl w.heap.size 0 (pC k d) _ Try.underlying63 rfl (by rw [sizPre, pC_len HK.out]) rfl (range_whole (by simpa using FA.out)) (lt_heap FA.out) ?_; simp only [Act.put, List.setIfInBounds_toArray, List.set_cons_zero, List.set_cons_succ])
      | go_big_quiet_step (first | (with_reducible exact rg_call KR.out _ _) | (with_reducible exact rg_call (KC.out k HK.out) _ _) | (with_reducible exact rg_call (KC.out q HQ.out) _ _)))
    refine wpQuiet_nil ?_
    rintro _ ⟨⟨dq, osq⟩, rfl⟩
    have HB3 := bt HB (below_regrown W0 dq osq)
    go_wp2_with fail
    go_ret
    exact ⟨ret_bool HR.out.symm, HB3.out⟩
  · have HR : Hid (hasP k d q = (cutK k d == cutK q d)) := by show _ = _; simp [hasP, hr]
    go_enter Try.func47, Try.ntmps47
    go_upto_region 1 with fail
    generalize ((w.alloc (.cells (pC k d).toArray 63)).alloc (.cells (bC q) 30)) = W0 at *
    refine wp_region_quiet_below (by kernel_rfl) (by kernel_rfl) ?_
    repeat (first
      | (refine wq_ldr rfl 63 _ rfl w.heap.size 0 (pC k d) _ Try.underlying63 rfl (by rw [sizPre, pC_len HK.out]) rfl (range_whole (by simpa using FA.out)) (lt_heap FA.out) ?_; simp only [Act.put, List.setIfInBounds_toArray, List.set_cons_zero, List.set_cons_succ])
      | (refine wq_ldr rfl 30 _ rfl (w.heap.size + 1) 0 (bC q).toList _ Try.underlying30 rfl (by rw [sizKey]; simp [bC_size, HQ.out]) rfl (range_whole (by simpa using FB.out)) (lt_heap FB.out) ?_; simp only [Act.put, List.setIfInBounds_toArray, List.set_cons_zero, List.set_cons_succ])
      | (refine wq_cell rfl 3 _ rfl w.heap.size 25 (.int .i64 d) _ Try.underlying3 rfl HD.out (lt_heap FA.out) ?_; simp only [Act.put, List.setIfInBounds_toArray, List.set_cons_zero, List.set_cons_succ])
      | (refine wq_bd _ rfl 63 [(0, .tmp 10), (1, .tmp 12)] rfl [(0, .agg (bC q)), (1, .int .i64 d)] rfl (pC q d).toArray (builtPre q HQ.out d) ?_; simp only [Act.put, List.setIfInBounds_toArray, List.set_cons_zero, List.set_cons_succ])
      | (refine wq_val (.bool (cutK k d == cutK q d)) rfl (fun w => exec_eqlKey w _ _ rfl _ _ (cutK_len HK.out d) (cutK_len HQ.out d) rfl rfl) ?_; simp only [Act.put, List.setIfInBounds_toArray, List.set_cons_zero, List.set_cons_succ])
      | go_big_quiet_step (first | (with_reducible exact rg_call KR.out _ _) | (with_reducible exact rg_call (KC.out k HK.out) _ _) | (with_reducible exact rg_call (KC.out q HQ.out) _ _)))
    refine wpQuiet_nil ?_
    rintro _ ⟨⟨dq, osq⟩, rfl⟩
    have HB3 := bt HB (below_regrown W0 dq osq)
    go_wp2_with fail
    go_ret
    exact ⟨ret_bool HR.out.symm, HB3.out⟩
end Go.Proofs.Ytagdedjclbmlkaa
