/- The document's Print: what it answers (plain), and words for its walk. -/
import Derived.Test.YtbfefdedjcppaaaGreatDoorFW7
import Derived.Test.YtbfefdedjcppaaaGreatDoorKB6
import Derived.Test.YtbfefdedjcppaaaGreatDoorDX6
import Derived.Test.YtbfefdedjcppaaaGreatDoorTL6
namespace Go.Proofs.YtbfefdedjcppaaaGreatDoor
open Go.RowKit Go.Deep
theorem exec_bsL {P : Program} {o : Oper} {a : Act} {w : World} {α : Type} {enc : α → List Value} {k : Nat} (T E : TypeId) (bytes : Nat) (z : Value) (hT : P.underlying T = some (.slice E)) (hinf : (P.info? E).map (fun i => (i.zero, i.size, i.bytes)) = some (some z, k, bytes)) (hk0 : 0 < k) (hk : ∀ x, (enc x).length = k)
   (ps : List Operand) (ys : List α) (n : Nat) (hn : ys.length = n) (hn0 : 0 < n) (hs : n * k ≤ 1000000) (ho : o.op = .buildSlice T n ((ps.zipIdx 0).map fun x => (x.2, x.1)).toArray) (hx : ps.map a.eval = ys.map fun y => .agg (enc y).toArray) :
   (execOp a.eval o).run P w = .ok (.value (.slice (some ⟨w.heap.size, 0, none⟩) n n)) (w.alloc (.cells (ys.flatMap enc).toArray E)) := by
 obtain ⟨ie, hie, hz, hsz, hby⟩ := info_parts hinf
 have hp0 : 0 < n * k := Nat.mul_pos hn0 hk0
 have hb := run_buildSlice (P := P) w T E n (((ps.map a.eval).zipIdx 0).map fun x => (x.2, x.1)).toArray (ys.flatMap enc).toArray ie z hT hie hz (by rw [hsz]; omega) (by rw [hsz]; omega) (by
   rw [hsz, hx]
   have := Great.fill_whole (s := k) hk0 (ys.map fun y => Value.agg (enc y).toArray) ((Array.range (n * k)).map (z.cells[· % z.cells.size]!)) (fun v hv => by
     obtain ⟨y, _, rfl⟩ := List.mem_map.1 hv
     show (enc y).toArray.size = k
     simp [hk]) (by simp [hn])
   rw [List.toList_toArray, this, List.flatMap_map]
   rfl)
 unfold execOp
 have hp : (((ps.zipIdx 0).map fun x => (x.2, x.1)).toArray.map fun (p : Nat × Operand) => (p.1, a.eval p.2)) = (((ps.map a.eval).zipIdx 0).map fun x => (x.2, x.1)).toArray := by
   simp [List.zipIdx_map]
 simp only [ho, Sem.run_bind, hp, hb, Result.andThen_ok, Sem.run_pure]
theorem slAt_newE {α : Type} {enc : α → List Value} {k : Nat} (hk : ∀ x, (enc x).length = k) {w : World} {g : Nat} {ys : List α} {E : TypeId} (h : w.heap[g]? = some (.cells (ys.flatMap enc).toArray E (0, 0))) : SlAt enc k w (some ⟨g, 0, none⟩) ys :=
 fun i hi => ⟨g, 0, rfl, lt_heap h, range_nth hk (range_whole h) i hi⟩
theorem own_newE {α : Type} {enc : α → List Value} {k : Nat} (hk : ∀ x, (enc x).length = k) {w : World} {g n base : Nat} {ys : List α} {E : TypeId} (hn : ys.length = n) (hb : base ≤ g) (hm : n ≤ 1000000) (h : w.heap[g]? = some (.cells (ys.flatMap enc).toArray E (0, 0))) : OwnE enc E k w base (.slice (some ⟨g, 0, none⟩) n n) ys := by
 subst hn
 have hm : ys.length ≤ maxLen := by unfold maxLen; omega
 exact ⟨flat_len hk ys, Or.inr ⟨g, ys.length, (ys.flatMap enc).toArray, rfl, hb, h, Nat.le_refl _, hm, by rw [List.size_toArray, flat_len hk], by rw [List.toList_toArray]; exact List.take_of_length_le (by rw [flat_len hk]; exact Nat.le_refl _)⟩⟩
def fdZ : Fd := ⟨0, 0, ⟨#[]⟩⟩
theorem infoFd : (Tryz.prog.info? 134).map (fun i => (i.zero, i.size, i.bytes)) = some (some (.agg (fdC fdZ).toArray), 3, 32) := by kernel_rfl
theorem fdC_ones (x : Fd) : ∀ u ∈ fdC x, u.oneCell' = true := fun u hu => List.all_eq_true.1 (fdC_one x) u hu
def fB (n : Nat) : Fd := ⟨0, n, ⟨#[]⟩⟩
def fN (n : Nat) : Fd := ⟨3, n, ⟨#[]⟩⟩
def fX (s : ByteArray) : Fd := ⟨4, 0, s⟩
def hdF (x : RpD) (m : Nat) : List Fd := [fB x.err.toNat, fX x.text, fX ⟨(tgT x.tag).toArray⟩, fB x.st.toNat, fN x.n.toNat, fB m]
def evF0 (v : Ev) : List Fd := [fB (if v.dead = true then 1 else 0), fN v.at_.toNat]
def evF (v : Ev) : List Fd := if v.mark = true then [fB 2, fN v.at_.toNat] else evF0 v ++ v.key.map fun b => fB b.toNat
def rpF (x : RpD) (es : List Ev) : List Fd := hdF x es.length ++ es.flatMap evF
def dprE (x : RpD) (es : List Ev) : Nat :=
 if x.err < 0 ∨ 255 < x.err then 5
 else if 1200 < x.text.size then 2
 else if rightT x.tag = false then 14
 else if x.st < 0 ∨ 255 < x.st ∨ x.n < 0 ∨ 4294967295 < x.n then 5
 else if 16 < es.length then 2
 else if es.all evOk = false then 3 else 0
def dprB (x : RpD) (es : List Ev) : List UInt8 := if dprE x es = 0 then fdsB (rpF x es) else []
theorem evF_take {fs : List Fd} {es : List Ev} {k : Nat} (h : k < es.length) : fs ++ (es.take (k + 1)).flatMap evF = (fs ++ (es.take k).flatMap evF) ++ evF es[k] := by
 rw [List.take_succ_eq_append_getElem h, List.flatMap_append, List.append_assoc]; simp
theorem evF_len (v : Ev) : (evF v).length ≤ 27 := by
 unfold evF evF0
 split
 · simp
 · simp [v.lkey]
theorem evsF_len (es : List Ev) : (es.flatMap evF).length ≤ 27 * es.length := by
 induction es with
 | nil => simp
 | cons v es ih =>
   rw [List.flatMap_cons, List.length_append, List.length_cons]
   have := evF_len v
   omega
theorem okB {n : Nat} (h : n < 2 ^ 64) : OkF (fB n) := ⟨.inl rfl, h, by show (0 : Nat) ≤ _; omega⟩
theorem okN {n : Nat} (h : n < 2 ^ 64) : OkF (fN n) := ⟨.inr (.inl rfl), h, by show (0 : Nat) ≤ _; omega⟩
theorem okT {s : ByteArray} (h : s.size ≤ 10000) : OkF (fX s) := ⟨.inr (.inr rfl), by show (0 : Nat) < _; omega, h⟩
theorem evF_ok {v : Ev} (h : OkEv v) : ∀ f ∈ evF v, OkF f ∧ f.s.size = 0 := by
 obtain ⟨h1, h2⟩ := h
 have hn : v.at_.toNat < 2 ^ 64 := by omega
 unfold evF evF0
 split
 · intro f hf
   simp only [List.mem_cons, List.not_mem_nil, or_false] at hf
   rcases hf with rfl | rfl
   · exact ⟨okB (by decide), rfl⟩
   · exact ⟨okN hn, rfl⟩
 · intro f hf
   rw [List.mem_append] at hf
   rcases hf with hf | hf
   · simp only [List.mem_cons, List.not_mem_nil, or_false] at hf
     rcases hf with rfl | rfl
     · exact ⟨okB (by split <;> decide), rfl⟩
     · exact ⟨okN hn, rfl⟩
   · obtain ⟨b, _, rfl⟩ := List.mem_map.1 hf
     have : b.toNat < 256 := b.toNat_lt
     exact ⟨okB (by omega), rfl⟩
theorem fdsB_app (a b : List Fd) : fdsB (a ++ b) = fdsB a ++ fdsB b := by unfold fdsB; rw [List.flatMap_append]
theorem fdsB_bytes (l : List UInt8) : fdsB (l.map fun b => fB b.toNat) = l := by
 unfold fdsB
 rw [List.flatMap_map]
 induction l with
 | nil => rfl
 | cons b l ih =>
   rw [List.flatMap_cons, ih]
   show [UInt8.ofNat b.toNat] ++ l = _
   rw [UInt8.ofNat_toNat]; rfl
def evB (v : Ev) : List UInt8 := if v.mark = true then 2 :: small v.at_.toNat else (if v.dead = true then 1 else 0) :: (small v.at_.toNat ++ v.key)
theorem fdsB_ev (v : Ev) : fdsB (evF v) = evB v := by
 unfold evF evB
 by_cases h : v.mark = true
 · rw [if_pos h, if_pos h]
   show [UInt8.ofNat 2] ++ (small v.at_.toNat ++ []) = _
   rw [List.append_nil]; rfl
 · rw [if_neg h, if_neg h, fdsB_app, fdsB_bytes]
   unfold evF0
   show ([UInt8.ofNat (if v.dead = true then 1 else 0)] ++ (small v.at_.toNat ++ [])) ++ v.key = _
   rw [List.append_nil, List.append_assoc]
   cases v.dead <;> rfl
theorem evB_len {v : Ev} (h : OkEv v) : (evB v).length ≤ 36 := by
 obtain ⟨h1, h2⟩ := h
 have := small_len64 (n := v.at_.toNat) (by omega)
 unfold evB
 split
 · rw [List.length_cons]; omega
 · rw [List.length_cons, List.length_append, v.lkey]; omega
theorem evsB_len {es : List Ev} (h : ∀ v ∈ es, OkEv v) : (fdsB (es.flatMap evF)).length ≤ 36 * es.length := by
 induction es with
 | nil => simp [fdsB]
 | cons v es ih =>
   have h1 := evB_len (h v (by simp))
   have h2 := ih fun u hu => h u (by simp [hu])
   rw [List.flatMap_cons, fdsB_app, fdsB_ev, List.length_append, List.length_cons]
   omega
def hdB (x : RpD) (m : Nat) : List UInt8 := [UInt8.ofNat x.err.toNat] ++ ((small x.text.size ++ x.text.data.toList) ++ ((small (tgT x.tag).length ++ tgT x.tag) ++ ([UInt8.ofNat x.st.toNat] ++ (small x.n.toNat ++ [UInt8.ofNat m]))))
theorem fdsB_hd (x : RpD) (m : Nat) : fdsB (hdF x m) = hdB x m := by
 unfold hdF hdB fdsB
 simp only [List.flatMap_cons, List.flatMap_nil, List.append_nil]
 show [UInt8.ofNat x.err.toNat] ++ ((small x.text.size ++ x.text.data.toList) ++ ((small (tgT x.tag).toArray.size ++ (tgT x.tag).toArray.toList) ++ _)) = _
 rw [List.size_toArray, List.toList_toArray]
 rfl
theorem fdsB_rp (x : RpD) (es : List Ev) : fdsB (rpF x es) = hdB x es.length ++ es.flatMap evB := by
 unfold rpF
 rw [fdsB_app, fdsB_hd]
 congr 1
 induction es with
 | nil => rfl
 | cons v es ih => rw [List.flatMap_cons, fdsB_app, fdsB_ev, ih]; rfl
end Go.Proofs.YtbfefdedjcppaaaGreatDoor
