/- Texts joined: RF. -/
import Derived.Test.YtbfefdedjcppaaaGreatDoorEL6
import Derived.Deep.DeepCutAuto
/- The document's Reader: fail, Read (a byte; a text). -/
namespace Go.Proofs.YtbfefdedjcppaaaGreatDoor
set_option maxRecDepth 100000
set_option maxHeartbeats 4000000
open Go.RowKit
theorem res_rowc_tmp2 {P : Program} {fn : Func} {p t s : Tmp} {T T' : TypeId} {d : TypeDesc} (h : fn.results = #[.cell p T, .tmp t, .tmp s]) (tmps : Array Value) (w : World) (g : Nat) (cs : Array Value) (fr : Nat × Nat)
   (hp : tmps.getD p undef = .pointer (some ⟨g, 0, none⟩)) (hg : w.heap[g]? = some (.cells cs T' fr)) (hu : P.underlying T = some d) (hd : (match d with | .struct _ | .array _ _ => true | _ => false) = true) (hi : (P.info? T).map (·.size) = some cs.size) :
   (results fn tmps).run P w = .ok (.tuple #[.agg cs, tmps.getD t undef, tmps.getD s undef]) w := by
 have hp' : tmps[p]?.getD undef = .pointer (some ⟨g, 0, none⟩) := by simpa using hp
 have hload : (loadVar T ⟨g, 0, none⟩).run P w = .ok (.agg cs) w := by
   refine run_loadVar_row _ g T' T cs fr d hg hu ?_ hi
   revert hd
   cases d <;> intro hd <;> first | rfl | exact hd
 simp [results, h, hp', asAddr, hload]
theorem sizRdr : (Tryz.prog.info? 101).map (·.size) = some 2 := by kernel_rfl
theorem sizFld : (Tryz.prog.info? 134).map (·.size) = some 3 := by kernel_rfl
theorem rfail_any (q : Option Addr) (n c e0 e : Nat) (w : World) : Calls Tryz.prog 105 #[.agg #[.slice q n c, .int .i64 (e0 : Int)], .int .i64 (e : Int)] w fun en w' => en = .returned (.tuple #[.agg #[.slice q n c, .int .i64 (e : Int)], .int .u64 0, .string ⟨#[]⟩]) ∧ Below w.heap.size w w' := by
 go_enter Tryz.func105, Tryz.ntmps105
 go_wp2_with fail
 refine bodyPost_ret (res_rowc_tmp2 (P := Tryz.prog) (T := 101) (T' := 101) (t := 5) (s := 6) rfl _ _ (w.heap.size + 1) #[.slice q n c, .int .i64 (e : Int)] (0, 0) rfl (heap_alloc2_new _ _ _) Tryz.underlying101 rfl (by rw [sizRdr]; rfl)) rfl ⟨rfl, below_alloc2 _ _ _⟩
structure RdOk (W : World) (q : Option Addr) (n c : Nat) (l : List UInt8) : Prop where
 ln : l.length = n
 nc : n ≤ c
 cm : c ≤ maxLen
 sl : SlAt byteC 1 W q l
 nil : q = none → n = 0 ∧ c = 0
theorem RdOk.below {W W' : World} {q : Option Addr} {n c : Nat} {l : List UInt8} (h : RdOk W q n c l) (hb : Below W.heap.size W W') : RdOk W' q n c l := ⟨h.ln, h.nc, h.cm, h.sl.below hb, h.nil⟩
def tq (q : Option Addr) (c k : Nat) : Option Addr := if k = 0 ∨ c = k then q else q.map fun a => a.add k
theorem tq_zero (q : Option Addr) (c : Nat) : tq q c 0 = q := if_pos (.inl rfl)
theorem tq_cap (q : Option Addr) (c : Nat) : tq q c c = q := if_pos (.inr rfl)
theorem tq_mid (b o c k : Nat) (h0 : k ≠ 0) (h : ¬ c = k) : tq (some ⟨b, o, none⟩) c k = some ⟨b, o + k, none⟩ := by
 unfold tq
 rw [if_neg (by omega)]
 show some (Addr.add _ _) = _
 rw [Addr.add_mid]
def RdP (q : Option Addr) (n c k : Nat) (e' : Nat) (v : Value) (t : ByteArray) (w : World) (en : Ending) (w' : World) : Prop :=
 en = .returned (.tuple #[.agg #[.slice (tq q c k) (n - k) (c - k), .int .i64 (e' : Int)], v, .string t]) ∧ Below w.heap.size w w'
theorem rreadE_any (q : Option Addr) (n c e N kd : Nat) (l : List UInt8) (s : ByteArray) (w : World) (h : RdOk w q n c l) (he : e ≠ 0) : Calls Tryz.prog 55 #[.agg #[.slice q n c, .int .i64 (e : Int)], .agg #[.int .i64 (kd : Int), .int .u64 (N : Int), .string s]] w (RdP q n c 0 e (.int .u64 0) ⟨#[]⟩ w) := by
 have H := Lib.hid h
 have he1 : ((e : Int) != 0) = true := by simpa using he
 clear h he
 go_enter Tryz.func55, Tryz.ntmps55
 go_wp2_with fail
 have hb : Below w.heap.size w (((w.alloc (.cells #[.slice q n c, .int .i64 (e : Int)] 101)).alloc (.cells #[.int .i64 (kd : Int), .int .u64 (N : Int), .string s] 134)).alloc (.cells #[.slice q n c, .int .i64 (e : Int)] 101)) := (below_alloc2 _ _ _).alloc (by simp; omega) _
 refine bodyPost_ret (res_rowc_tmp2 (P := Tryz.prog) (T := 101) (T' := 101) (t := 5) (s := 6) rfl _ _ (w.heap.size + 1 + 1) #[.slice q n c, .int .i64 (e : Int)] (0, 0) rfl (by have := heap_alloc_new ((w.alloc (.cells #[.slice q n c, .int .i64 (e : Int)] 101)).alloc (.cells #[.int .i64 (kd : Int), .int .u64 (N : Int), .string s] 134)) (.cells #[.slice q n c, .int .i64 (e : Int)] 101); simpa using this) Tryz.underlying101 rfl (by rw [sizRdr]; rfl)) rfl ⟨by rw [tq_zero]; rfl, hb⟩
structure RfSt (w W : World) (a f : Array Value) : Prop where
 bel : Below w.heap.size w W
 rd : W.heap[w.heap.size]? = some (.cells a 101 (0, 0))
 fl : W.heap[w.heap.size + 1]? = some (.cells f 134 (0, 0))
 res : W.heap[w.heap.size + 1 + 1]? = some (.cells #[.slice none 0 0, .int .i64 0] 101 (0, 0))
theorem RfSt.below {w W W' : World} {a f : Array Value} (h : RfSt w W a f) (hb : Below W.heap.size W W') : RfSt w W' a f :=
 ⟨h.bel.trans (hb.mono h.bel.size), (hb.block _ (lt_heap h.rd)).trans h.rd, (hb.block _ (lt_heap h.fl)).trans h.fl, (hb.block _ (lt_heap h.res)).trans h.res⟩
theorem RfSt.set {w W : World} {a f a' : Array Value} (h : RfSt w W a f) : RfSt w (W.setRow w.heap.size a') a' f :=
 ⟨setRow_below h.bel (Nat.le_refl _) _, setRow_at h.rd, (setRow_other _ _ _ _ (by omega)).trans h.fl, (setRow_other _ _ _ _ (by omega)).trans h.res⟩
theorem RfSt.turned {w W W' : World} {a f : Array Value} {a' : List Value} (h : RfSt w W a f) (hd : W'.heap[w.heap.size]? = some (.cells a'.toArray 101 (0, 0))) (ht : Turn [w.heap.size] W W') : RfSt w W' a'.toArray f := by
 have hk : ∀ k, k < W.heap.size → k ≠ w.heap.size → W'.heap[k]? = W.heap[k]? := fun k a b => ht.block k a (by simpa using b)
 exact ⟨h.bel.trans (ht.below (fun k hk => by simp at hk; omega) h.bel.size), hd, (hk _ (lt_heap h.fl) (by omega)).trans h.fl, (hk _ (lt_heap h.res) (by omega)).trans h.res⟩
theorem sizBy : (Tryz.prog.info? 22).map (·.size) = some 1 := by kernel_rfl
theorem RfSt.start (w : World) (a f : Array Value) : RfSt w ((((w.alloc (.cells a 101)).alloc (.cells f 134)).alloc (.cells #[.slice none 0 0, .int .i64 0] 101)).alloc (.cells #[.int .i64 1, .int .i64 2, .int .i64 8] 3)) a f := by
 have h3 : RfSt w (((w.alloc (.cells a 101)).alloc (.cells f 134)).alloc (.cells #[.slice none 0 0, .int .i64 0] 101)) a f := by
   refine ⟨(below_alloc2 _ _ _).alloc (by simp; omega) _, ?_, ?_, ?_⟩
   · rw [heap_alloc_old _ _ (by simp; omega)]; exact heap_alloc2_old _ _ _
   · rw [heap_alloc_old _ _ (by simp)]; exact heap_alloc2_new _ _ _
   · have := heap_alloc_new ((w.alloc (.cells a 101)).alloc (.cells f 134)) (.cells #[.slice none 0 0, .int .i64 0] 101); simpa using this
 exact h3.below (below_alloc1 _ _)
theorem RdOk.tail {W : World} {q : Option Addr} {n c k : Nat} {l : List UInt8} (h : RdOk W q n c l) (hk : k ≤ n) : RdOk W (tq q c k) (n - k) (c - k) (l.drop k) := by
 have hnc := h.nc
 refine ⟨by rw [List.length_drop, h.ln], by omega, by have := h.cm; omega, fun i hi => ?_, fun e => ?_⟩
 · rw [List.length_drop, h.ln] at hi
   obtain ⟨b, o, rfl, hb, hr⟩ := h.sl (k + i) (by rw [h.ln]; omega)
   rw [List.getElem_drop]
   by_cases hk0 : k = 0
   · subst hk0
     rw [tq_zero]
     exact ⟨b, o, rfl, hb, by simpa using hr⟩
   · rw [tq_mid b o c k hk0 (by omega)]
     exact ⟨b, o + k, rfl, hb, by rw [show o + k + i * 1 = o + (k + i) * 1 by omega]; exact hr⟩
 · cases hq : q with
   | none => have := h.nil hq; omega
   | some a =>
     unfold tq at e
     rw [hq] at e
     split at e
     · cases e
     · cases e
theorem rread0_any (q : Option Addr) (n c N : Nat) (l : List UInt8) (s : ByteArray) (w : World) (h : RdOk w q n c l) : Calls Tryz.prog 55 #[.agg #[.slice q n c, .int .i64 0], .agg #[.int .i64 0, .int .u64 (N : Int), .string s]] w (RdP q n c (byteK l) (byteE l) (.int .u64 (byteV l : Nat)) ⟨#[]⟩ w) := by
 have H := Lib.hid h
 have HS0 := Lib.hid (RfSt.start w #[.slice q n c, .int .i64 0] #[.int .i64 0, .int .u64 (N : Int), .string s])
 have hn0 := h.nc
 have hcm := h.cm
 unfold maxLen at hcm
 cases l with
 | nil =>
   obtain rfl : n = 0 := h.ln.symm
   have KF := Lib.hid (fun W => rfail_any q 0 c 0 4 W)
   clear h hn0 hcm
   go_enter Tryz.func55, Tryz.ntmps55
   go_upto_region 7 with fail
   generalize (((w.alloc (.cells #[.slice q 0 c, .int .i64 0] 101)).alloc (.cells #[.int .i64 0, .int .u64 (N : Int), .string s] 134)).alloc (.cells #[.slice none 0 0, .int .i64 0] 101)).alloc (.cells #[.int .i64 1, .int .i64 2, .int .i64 8] 3) = W1 at *
   go_wp2_with (first
     | ((with_reducible refine gate_ld 101 _ rfl ?_); refine wl_ldr rfl 101 _ rfl w.heap.size 0 [.slice q 0 c, .int .i64 0] _ Tryz.underlying101 rfl (by rw [sizRdr]; rfl) rfl (range_whole HS0.out.rd) ?_)
     | (go_at_call 105; (refine (KF.out _).mono ?_); rintro e W2 ⟨rfl, hb2⟩; have HS2 := Lib.hid (HS0.out.below hb2); clear hb2)
     | ((with_reducible refine gate_st 101 _ _ rfl ?_); refine wl_str rfl 101 _ _ rfl (w.heap.size + 1 + 1) #[.slice q 0 c, .int .i64 4] #[.slice none 0 0, .int .i64 0] _ (by rw [sizRdr]; rfl) rfl (by rw [← Array.all_toList]; rfl) rfl rfl HS2.out.res ?_))
   have hb : Below w.heap.size w (W2.setRow (w.heap.size + 1 + 1) #[.slice q 0 c, .int .i64 4]) := setRow_below HS2.out.bel (by omega) _
   refine bodyPost_ret (res_rowc_tmp2 (P := Tryz.prog) (T := 101) (T' := 101) (t := 5) (s := 6) rfl _ _ (w.heap.size + 1 + 1) #[.slice q 0 c, .int .i64 4] (0, 0) rfl (setRow_at HS2.out.res) Tryz.underlying101 rfl (by rw [sizRdr]; rfl)) rfl ⟨by rw [show tq q c (byteK []) = q from tq_zero q c]; rfl, hb⟩
 | cons x t =>
   obtain ⟨n', rfl⟩ : ∃ n', n = n' + 1 := ⟨t.length, by have := h.ln; simpa using this.symm⟩
   obtain ⟨b, o, rfl, hb, hr⟩ := h.sl 0 (by simp)
   have hx := hr 0 (.int .u8 (x.toNat : Int)) rfl
   simp only [Nat.zero_mul, Nat.add_zero] at hx
   have HX := Lib.hid hx
   have hlb := hb
   have hxw : IntKind.u64.wrap (x.toNat : Int) = (x.toNat : Int) := by
     have : x.toNat < 256 := x.toNat_lt
     rw [IntKind.wrap_u64]; omega
   clear h hx hr
   go_enter Tryz.func55, Tryz.ntmps55
   go_upto_region 8 with fail
   generalize (((w.alloc (.cells #[.slice (some ⟨b, o, none⟩) (n' + 1) c, .int .i64 0] 101)).alloc (.cells #[.int .i64 0, .int .u64 (N : Int), .string s] 134)).alloc (.cells #[.slice none 0 0, .int .i64 0] 101)).alloc (.cells #[.int .i64 1, .int .i64 2, .int .i64 8] 3) = W1 at *
   have hx1 : W1.cell? ⟨b, o, none⟩ = some (.int .u8 (x.toNat : Int)) := (cell_of (HS0.out.bel.block _ hb) o).trans HX.out
   have hs1 : W1.cell? ⟨w.heap.size, 0, none⟩ = some (.slice (some ⟨b, o, none⟩) (n' + 1) c) := by rw [cell_blk HS0.out.rd]; rfl
   go_wp2_with fail
   go_loopw [9, 10] (fun s9 s10 wr => wr = W1 ∧ ((s9 = .int .u64 0 ∧ s10 = .int .i64 0) ∨ (s9 = .int .u64 (x.toNat : Int) ∧ s10 = .int .i64 1))) (fun _ s10 _ => 1 - (intOf s10).toNat)
   case atStart => exact ⟨rfl, .inl ⟨rfl, rfl⟩⟩
   case round =>
     obtain ⟨rfl, ⟨rfl, rfl⟩ | ⟨rfl, rfl⟩⟩ := hrel
     · go_wp2_with fail
       go_roundw
       case rel => exact ⟨by first | trivial | rfl, .inr ⟨by simp, by simp⟩⟩
       case measure => simp [intOf]
     · by_cases hc1 : c = 1
       · obtain rfl : n' = 0 := by omega
         subst hc1
         clear hn0
         go_wp2_with (first
           | ((with_reducible refine gate_st 22 _ _ rfl ?_); refine wl_st1G rfl 22 sizBy _ _ rfl w.heap.size 0 (.slice (some ⟨b, o, none⟩) 0 0) rfl (by first | rfl | simp [Act.eval]) rfl [.slice (some ⟨b, o, none⟩) (0 + 1) 1, .int .i64 0] [.slice (some ⟨b, o, none⟩) 0 0, .int .i64 0] _ HS0.out.rd (by simp) rfl (fun W2 h1 h2 => ?_); have HS2 := Lib.hid (HS0.out.turned h1 h2); clear h1 h2; try simp only [Act.put])
           | ((with_reducible refine gate_ld 101 _ rfl ?_); refine wl_ldr rfl 101 _ rfl w.heap.size 0 [.slice (some ⟨b, o, none⟩) 0 0, .int .i64 0] _ Tryz.underlying101 rfl (by rw [sizRdr]; rfl) rfl (range_whole HS2.out.rd) ?_)
           | ((with_reducible refine gate_st 101 _ _ rfl ?_); refine wl_str rfl 101 _ _ rfl (w.heap.size + 1 + 1) #[.slice (some ⟨b, o, none⟩) 0 0, .int .i64 0] #[.slice none 0 0, .int .i64 0] _ (by rw [sizRdr]; rfl) rfl (by rw [← Array.all_toList]; rfl) rfl rfl HS2.out.res ?_))
         have hb : Below w.heap.size w (W2.setRow (w.heap.size + 1 + 1) #[.slice (some ⟨b, o, none⟩) 0 0, .int .i64 0]) := setRow_below HS2.out.bel (by omega) _
         refine bodyPost_ret (res_rowc_tmp2 (P := Tryz.prog) (T := 101) (T' := 101) (t := 5) (s := 6) rfl _ _ (w.heap.size + 1 + 1) #[.slice (some ⟨b, o, none⟩) 0 0, .int .i64 0] (0, 0) rfl (setRow_at HS2.out.res) Tryz.underlying101 rfl (by rw [sizRdr]; rfl)) rfl ⟨by rw [show tq (some ⟨b, o, none⟩) 1 (byteK (x :: t)) = some ⟨b, o, none⟩ from tq_cap _ 1]; rfl, hb⟩
       · have hc2 : (1 : Int) ≤ (c : Int) := by omega
         have hc3 : ¬ (c : Int) = 1 := by omega
         go_wp2_with (first
           | ((with_reducible refine gate_st 22 _ _ rfl ?_); refine wl_st1G rfl 22 sizBy _ _ rfl w.heap.size 0 (.slice (some ⟨b, o + 1, none⟩) n' (c - 1)) rfl (by first | rfl | simp [Act.eval]) rfl [.slice (some ⟨b, o, none⟩) (n' + 1) c, .int .i64 0] [.slice (some ⟨b, o + 1, none⟩) n' (c - 1), .int .i64 0] _ HS0.out.rd (by simp) rfl (fun W2 h1 h2 => ?_); have HS2 := Lib.hid (HS0.out.turned h1 h2); clear h1 h2; try simp only [Act.put])
           | ((with_reducible refine gate_ld 101 _ rfl ?_); refine wl_ldr rfl 101 _ rfl w.heap.size 0 [.slice (some ⟨b, o + 1, none⟩) n' (c - 1), .int .i64 0] _ Tryz.underlying101 rfl (by rw [sizRdr]; rfl) rfl (range_whole HS2.out.rd) ?_)
           | ((with_reducible refine gate_st 101 _ _ rfl ?_); refine wl_str rfl 101 _ _ rfl (w.heap.size + 1 + 1) #[.slice (some ⟨b, o + 1, none⟩) n' (c - 1), .int .i64 0] #[.slice none 0 0, .int .i64 0] _ (by rw [sizRdr]; rfl) rfl (by rw [← Array.all_toList]; rfl) rfl rfl HS2.out.res ?_))
         have hb : Below w.heap.size w (W2.setRow (w.heap.size + 1 + 1) #[.slice (some ⟨b, o + 1, none⟩) n' (c - 1), .int .i64 0]) := setRow_below HS2.out.bel (by omega) _
         refine bodyPost_ret (res_rowc_tmp2 (P := Tryz.prog) (T := 101) (T' := 101) (t := 5) (s := 6) rfl _ _ (w.heap.size + 1 + 1) #[.slice (some ⟨b, o + 1, none⟩) n' (c - 1), .int .i64 0] (0, 0) rfl (setRow_at HS2.out.res) Tryz.underlying101 rfl (by rw [sizRdr]; rfl)) rfl ⟨by rw [show tq (some ⟨b, o, none⟩) c (byteK (x :: t)) = some ⟨b, o + 1, none⟩ from tq_mid b o c 1 (by omega) hc1]; rfl, hb⟩
end Go.Proofs.YtbfefdedjcppaaaGreatDoor

/- The document's Reader: a text read. -/
namespace Go.Proofs.YtbfefdedjcppaaaGreatDoor
set_option maxRecDepth 100000
set_option maxHeartbeats 8000000
open Go.RowKit
theorem readS_pos {l : List UInt8} (h : (readS l).2.2 = 0) : 0 < (readS l).2.1 := by
 rcases hr : readS l with ⟨n, k, e⟩
 rw [hr] at h
 simp only at h
 subst h
 exact (back_small hr).2.1
theorem rread4_any (q : Option Addr) (n c N : Nat) (l : List UInt8) (s : ByteArray) (w : World) (h : RdOk w q n c l) (hN : N < 2 ^ 63) : Calls Tryz.prog 55 #[.agg #[.slice q n c, .int .i64 0], .agg #[.int .i64 4, .int .u64 (N : Int), .string s]] w (RdP q n c (textN N l) (textE N l) (.int .u64 0) ⟨(textS N l).toArray⟩ w) := by
 have H := Lib.hid h
 have HS0 := Lib.hid (RfSt.start w #[.slice q n c, .int .i64 0] #[.int .i64 4, .int .u64 (N : Int), .string s])
 have KR : Hid (∀ W, Below w.heap.size w W → Calls Tryz.prog 106 #[.slice q n c] W fun e w' => e = .returned (.tuple #[.int .u64 ((readS l).1 : Nat), .int .i64 ((readS l).2.1 : Nat), .int .i64 ((readS l).2.2 : Nat)]) ∧ W = w') := fun W hW => refReadSmall_any q l n c W h.ln h.nc h.cm (h.sl.below hW)
 have hnc := h.nc
 have hcm := h.cm
 unfold maxLen at hcm
 have hln := h.ln
 have HE0 : Hid (textE N l = if (readS l).2.2 ≠ 0 then (readS l).2.2 else if N < (readS l).1 then 2 else if l.length - (readS l).2.1 < (readS l).1 then 4 else 0) := rfl
 have HSs : Hid (textS N l = if textE N l = 0 then (l.drop (readS l).2.1).take (readS l).1 else []) := rfl
 have HNn : Hid (textN N l = if textE N l = 0 then (readS l).2.1 + (readS l).1 else 0) := rfl
 have HL : Hid ((readS l).2.2 = 0 → (readS l).2.1 ≤ n ∧ 0 < (readS l).2.1 ∧ (readS l).1 < 2 ^ 64) := fun h => by
   have h1 := readS_le h
   have h2 := readS_pos h
   exact ⟨by omega, h2, h1.2⟩
 rw [hln] at HE0
 clear h hln
 generalize (readS l).1 = rv at *
 generalize (readS l).2.1 = rk at *
 generalize (readS l).2.2 = re at *
 have K : ∀ e', textE N l = e' → Hid (textE N l = e') := fun _ h => h
 by_cases he : re = 0
 · obtain ⟨hrk, hrk0, hrv⟩ := HL.out he
   rw [if_neg (by omega)] at HE0
   subst he
   clear HL
   by_cases hmv : N < rv
   · have HE := K 2 (by rw [HE0.out, if_pos hmv])
     rw [HE.out, if_neg (by omega)] at HSs HNn
     rw [HE.out, HSs.out, HNn.out]
     have hmv' : (N : Int) < (rv : Int) := by omega
     clear K HE0 HE HSs HNn hmv
     have KF := Lib.hid (fun W => rfail_any q n c 0 2 W)
     go_enter Tryz.func55, Tryz.ntmps55
     go_upto_region 15 with fail
     generalize (((w.alloc (.cells #[.slice q n c, .int .i64 0] 101)).alloc (.cells #[.int .i64 4, .int .u64 (N : Int), .string s] 134)).alloc (.cells #[.slice none 0 0, .int .i64 0] 101)).alloc (.cells #[.int .i64 1, .int .i64 2, .int .i64 8] 3) = W1 at *
     have cs1 : W1.cell? ⟨w.heap.size, 0, none⟩ = some (.slice q n c) := by rw [cell_blk HS0.out.rd]; rfl
     have cN : W1.cell? ⟨w.heap.size + 1, 1, none⟩ = some (.int .u64 (N : Int)) := by rw [cell_blk HS0.out.fl]; rfl
     have cK : W1.cell? ⟨w.heap.size + 1, 0, none⟩ = some (.int .i64 4) := by rw [cell_blk HS0.out.fl]; rfl
     have KR1 := Lib.hid (KR.out W1 HS0.out.bel)
     go_wp2_with (first
       | (go_at_call 106; (refine KR1.out.mono ?_); rintro e w2 ⟨rfl, rfl⟩)
       | ((with_reducible refine gate_ld 101 _ rfl ?_); refine wl_ldr rfl 101 _ rfl w.heap.size 0 [.slice q n c, .int .i64 0] _ Tryz.underlying101 rfl (by rw [sizRdr]; rfl) rfl (range_whole HS0.out.rd) ?_)
       | (go_at_call 105; (refine (KF.out _).mono ?_); rintro e W2 ⟨rfl, hb2⟩; have HS2 := Lib.hid (HS0.out.below hb2); clear hb2)
       | ((with_reducible refine gate_st 101 _ _ rfl ?_); refine wl_str rfl 101 _ _ rfl (w.heap.size + 1 + 1) #[.slice q n c, .int .i64 (2 : Nat)] #[.slice none 0 0, .int .i64 0] _ (by rw [sizRdr]; rfl) rfl (by rw [← Array.all_toList]; rfl) rfl rfl HS2.out.res ?_))
     have hb : Below w.heap.size w (W2.setRow (w.heap.size + 1 + 1) #[.slice q n c, .int .i64 (2 : Nat)]) := setRow_below HS2.out.bel (by omega) _
     refine bodyPost_ret (res_rowc_tmp2 (P := Tryz.prog) (T := 101) (T' := 101) (t := 5) (s := 6) rfl _ _ (w.heap.size + 1 + 1) #[.slice q n c, .int .i64 (2 : Nat)] (0, 0) rfl (setRow_at HS2.out.res) Tryz.underlying101 rfl (by rw [sizRdr]; rfl)) rfl ⟨by rw [tq_zero]; rfl, hb⟩
   · by_cases hlk : n - rk < rv
     · have HE := K 4 (by rw [HE0.out, if_neg hmv, if_pos hlk])
       rw [HE.out, if_neg (by omega)] at HSs HNn
       rw [HE.out, HSs.out, HNn.out]
       have hmv' : ¬ (N : Int) < (rv : Int) := by omega
       have hlk' : (n : Int) - rk < rv := by omega
       have hw1 : IntKind.u64.wrap ((n : Int) - rk) = (n : Int) - rk := by rw [IntKind.wrap_u64]; omega
       clear K HE0 HE HSs HNn hmv hlk
       have KF := Lib.hid (fun W => rfail_any q n c 0 4 W)
       go_enter Tryz.func55, Tryz.ntmps55
       go_upto_region 15 with fail
       generalize (((w.alloc (.cells #[.slice q n c, .int .i64 0] 101)).alloc (.cells #[.int .i64 4, .int .u64 (N : Int), .string s] 134)).alloc (.cells #[.slice none 0 0, .int .i64 0] 101)).alloc (.cells #[.int .i64 1, .int .i64 2, .int .i64 8] 3) = W1 at *
       have cs1 : W1.cell? ⟨w.heap.size, 0, none⟩ = some (.slice q n c) := by rw [cell_blk HS0.out.rd]; rfl
       have cN : W1.cell? ⟨w.heap.size + 1, 1, none⟩ = some (.int .u64 (N : Int)) := by rw [cell_blk HS0.out.fl]; rfl
       have cK : W1.cell? ⟨w.heap.size + 1, 0, none⟩ = some (.int .i64 4) := by rw [cell_blk HS0.out.fl]; rfl
       have KR1 := Lib.hid (KR.out W1 HS0.out.bel)
       go_wp2_with (first
         | (go_at_call 106; (refine KR1.out.mono ?_); rintro e w2 ⟨rfl, rfl⟩)
         | ((with_reducible refine gate_ld 101 _ rfl ?_); refine wl_ldr rfl 101 _ rfl w.heap.size 0 [.slice q n c, .int .i64 0] _ Tryz.underlying101 rfl (by rw [sizRdr]; rfl) rfl (range_whole HS0.out.rd) ?_)
         | (go_at_call 105; (refine (KF.out _).mono ?_); rintro e W2 ⟨rfl, hb2⟩; have HS2 := Lib.hid (HS0.out.below hb2); clear hb2)
         | ((with_reducible refine gate_st 101 _ _ rfl ?_); refine wl_str rfl 101 _ _ rfl (w.heap.size + 1 + 1) #[.slice q n c, .int .i64 (4 : Nat)] #[.slice none 0 0, .int .i64 0] _ (by rw [sizRdr]; rfl) rfl (by rw [← Array.all_toList]; rfl) rfl rfl HS2.out.res ?_))
       have hb : Below w.heap.size w (W2.setRow (w.heap.size + 1 + 1) #[.slice q n c, .int .i64 (4 : Nat)]) := setRow_below HS2.out.bel (by omega) _
       refine bodyPost_ret (res_rowc_tmp2 (P := Tryz.prog) (T := 101) (T' := 101) (t := 5) (s := 6) rfl _ _ (w.heap.size + 1 + 1) #[.slice q n c, .int .i64 (4 : Nat)] (0, 0) rfl (setRow_at HS2.out.res) Tryz.underlying101 rfl (by rw [sizRdr]; rfl)) rfl ⟨by rw [tq_zero]; rfl, hb⟩
     · have HE := K 0 (by rw [HE0.out, if_neg hmv, if_neg hlk])
       rw [HE.out, if_pos rfl] at HSs HNn
       rw [HE.out, HSs.out, HNn.out]
       have hmv' : ¬ (N : Int) < (rv : Int) := by omega
       have hlk' : ¬ (n : Int) - rk < rv := by omega
       have hw1 : IntKind.u64.wrap ((n : Int) - rk) = (n : Int) - rk := by rw [IntKind.wrap_u64]; omega
       have hkn' : (rk : Int) ≤ n := by omega
       have hkv : (rk : Int) + rv ≤ n := by omega
       have hkc : (rk : Int) + rv ≤ c := by omega
       have hr0 : (0 : Int) ≤ (rk : Int) + rv := by omega
       have hrr : (rk : Int) ≤ (rk : Int) + rv := by omega
       have hkvn : rk + rv ≤ n := by omega
       obtain ⟨b, o, rfl, hb, _⟩ := H.out.sl 0 (by rw [H.out.ln]; omega)
       have hrow := row_drop H.out.sl rfl rk
       clear K HE0 HE HSs HNn hmv hlk
       go_enter Tryz.func55, Tryz.ntmps55
       go_upto_region 15 with fail
       generalize (((w.alloc (.cells #[.slice (some ⟨b, o, none⟩) n c, .int .i64 0] 101)).alloc (.cells #[.int .i64 4, .int .u64 (N : Int), .string s] 134)).alloc (.cells #[.slice none 0 0, .int .i64 0] 101)).alloc (.cells #[.int .i64 1, .int .i64 2, .int .i64 8] 3) = W1 at *
       have cs1 : W1.cell? ⟨w.heap.size, 0, none⟩ = some (.slice (some ⟨b, o, none⟩) n c) := by rw [cell_blk HS0.out.rd]; rfl
       have cN : W1.cell? ⟨w.heap.size + 1, 1, none⟩ = some (.int .u64 (N : Int)) := by rw [cell_blk HS0.out.fl]; rfl
       have cK : W1.cell? ⟨w.heap.size + 1, 0, none⟩ = some (.int .i64 4) := by rw [cell_blk HS0.out.fl]; rfl
       have hrow1 : Row W1 b (o + rk) (l.drop rk) := fun i hi => (cell_of (HS0.out.bel.block _ hb) _).trans (hrow i hi)
       have HCV : Hid (∀ c, (convert 22 9 (.slice (some ⟨b, o + rk, none⟩) rv c)).run Tryz.prog W1 = .ok (.string ⟨((l.drop rk).take rv).toArray⟩) W1) := fun c => run_bytes_string W1 b (o + rk) rv c _ hrow1 (by rw [List.length_drop, H.out.ln]; omega)
       have KR1 := Lib.hid (KR.out W1 HS0.out.bel)
       go_upto_region 27 with (go_at_call 106; (refine KR1.out.mono ?_); rintro e w2 ⟨rfl, rfl⟩)
       have hcv := HCV.out
       by_cases hcap : c = rk
       · have hz : rv = 0 := by omega
         have hz2 : n = rk := by omega
         subst hz
         subst hz2
         subst hcap
         have hcv0 : ∀ c, (convert 22 9 (.slice (some ⟨b, o, none⟩) 0 c)).run Tryz.prog W1 = .ok (.string ⟨(([] : List UInt8)).toArray⟩) W1 := fun c => run_bytes_string W1 b o 0 c [] (fun i hi => by simp at hi) (Nat.le_refl _)
         rw [List.take_zero]
         go_wp2_with (first
           | ((with_reducible refine gate_st 22 _ _ rfl ?_); refine wl_st1G rfl 22 sizBy _ _ rfl w.heap.size 0 (.slice (some ⟨b, o, none⟩) 0 0) rfl (by first | rfl | simp [Act.eval] | (simp [Act.eval]; omega)) rfl [.slice (some ⟨b, o, none⟩) c c, .int .i64 0] [.slice (some ⟨b, o, none⟩) 0 0, .int .i64 0] _ HS0.out.rd (by simp) rfl (fun W2 h1 h2 => ?_); have HS2 := Lib.hid (HS0.out.turned h1 h2); clear h1 h2; try simp only [Act.put])
           | ((with_reducible refine gate_ld 101 _ rfl ?_); refine wl_ldr rfl 101 _ rfl w.heap.size 0 [.slice (some ⟨b, o, none⟩) 0 0, .int .i64 0] _ Tryz.underlying101 rfl (by rw [sizRdr]; rfl) rfl (range_whole HS2.out.rd) ?_)
           | ((with_reducible refine gate_st 101 _ _ rfl ?_); refine wl_str rfl 101 _ _ rfl (w.heap.size + 1 + 1) #[.slice (some ⟨b, o, none⟩) 0 0, .int .i64 0] #[.slice none 0 0, .int .i64 0] _ (by rw [sizRdr]; rfl) rfl (by rw [← Array.all_toList]; rfl) rfl rfl HS2.out.res ?_))
         have hbx : Below w.heap.size w (W2.setRow (w.heap.size + 1 + 1) #[.slice (some ⟨b, o, none⟩) 0 0, .int .i64 0]) := setRow_below HS2.out.bel (by omega) _
         refine bodyPost_ret (res_rowc_tmp2 (P := Tryz.prog) (T := 101) (T' := 101) (t := 5) (s := 6) rfl _ _ (w.heap.size + 1 + 1) #[.slice (some ⟨b, o, none⟩) 0 0, .int .i64 0] (0, 0) rfl (setRow_at HS2.out.res) Tryz.underlying101 rfl (by rw [sizRdr]; rfl)) rfl ⟨by rw [show tq (some ⟨b, o, none⟩) c (c + 0) = some ⟨b, o, none⟩ from tq_cap _ c, show c - (c + 0) = 0 by omega]; rfl, hbx⟩
       · by_cases hcap2 : c = rk + rv
         · have hz2 : n = rk + rv := by omega
           subst hz2
           subst hcap2
           go_wp2_with (first
             | ((with_reducible refine gate_st 22 _ _ rfl ?_); refine wl_st1G rfl 22 sizBy _ _ rfl w.heap.size 0 (.slice (some ⟨b, o, none⟩) 0 0) rfl (by first | rfl | simp [Act.eval] | (simp [Act.eval]; omega)) rfl [.slice (some ⟨b, o, none⟩) (rk + rv) (rk + rv), .int .i64 0] [.slice (some ⟨b, o, none⟩) 0 0, .int .i64 0] _ HS0.out.rd (by simp) rfl (fun W2 h1 h2 => ?_); have HS2 := Lib.hid (HS0.out.turned h1 h2); clear h1 h2; try simp only [Act.put])
             | ((with_reducible refine gate_ld 101 _ rfl ?_); refine wl_ldr rfl 101 _ rfl w.heap.size 0 [.slice (some ⟨b, o, none⟩) 0 0, .int .i64 0] _ Tryz.underlying101 rfl (by rw [sizRdr]; rfl) rfl (range_whole HS2.out.rd) ?_)
             | ((with_reducible refine gate_st 101 _ _ rfl ?_); refine wl_str rfl 101 _ _ rfl (w.heap.size + 1 + 1) #[.slice (some ⟨b, o, none⟩) 0 0, .int .i64 0] #[.slice none 0 0, .int .i64 0] _ (by rw [sizRdr]; rfl) rfl (by rw [← Array.all_toList]; rfl) rfl rfl HS2.out.res ?_))
           have hbx : Below w.heap.size w (W2.setRow (w.heap.size + 1 + 1) #[.slice (some ⟨b, o, none⟩) 0 0, .int .i64 0]) := setRow_below HS2.out.bel (by omega) _
           refine bodyPost_ret (res_rowc_tmp2 (P := Tryz.prog) (T := 101) (T' := 101) (t := 5) (s := 6) rfl _ _ (w.heap.size + 1 + 1) #[.slice (some ⟨b, o, none⟩) 0 0, .int .i64 0] (0, 0) rfl (setRow_at HS2.out.res) Tryz.underlying101 rfl (by rw [sizRdr]; rfl)) rfl ⟨by rw [tq_cap, Nat.sub_self]; rfl, hbx⟩
         · have hcap3 : ¬ (c : Int) = (rk : Int) + rv := by omega
           go_wp2_with (first
             | ((with_reducible refine gate_st 22 _ _ rfl ?_); refine wl_st1G rfl 22 sizBy _ _ rfl w.heap.size 0 (.slice (some ⟨b, o + (rk + rv), none⟩) (n - (rk + rv)) (c - (rk + rv))) rfl (by first | rfl | simp [Act.eval] | (simp [Act.eval]; omega)) rfl [.slice (some ⟨b, o, none⟩) n c, .int .i64 0] [.slice (some ⟨b, o + (rk + rv), none⟩) (n - (rk + rv)) (c - (rk + rv)), .int .i64 0] _ HS0.out.rd (by simp) rfl (fun W2 h1 h2 => ?_); have HS2 := Lib.hid (HS0.out.turned h1 h2); clear h1 h2; try simp only [Act.put])
             | ((with_reducible refine gate_ld 101 _ rfl ?_); refine wl_ldr rfl 101 _ rfl w.heap.size 0 [.slice (some ⟨b, o + (rk + rv), none⟩) (n - (rk + rv)) (c - (rk + rv)), .int .i64 0] _ Tryz.underlying101 rfl (by rw [sizRdr]; rfl) rfl (range_whole HS2.out.rd) ?_)
             | ((with_reducible refine gate_st 101 _ _ rfl ?_); refine wl_str rfl 101 _ _ rfl (w.heap.size + 1 + 1) #[.slice (some ⟨b, o + (rk + rv), none⟩) (n - (rk + rv)) (c - (rk + rv)), .int .i64 0] #[.slice none 0 0, .int .i64 0] _ (by rw [sizRdr]; rfl) rfl (by rw [← Array.all_toList]; rfl) rfl rfl HS2.out.res ?_))
           have hbx : Below w.heap.size w (W2.setRow (w.heap.size + 1 + 1) #[.slice (some ⟨b, o + (rk + rv), none⟩) (n - (rk + rv)) (c - (rk + rv)), .int .i64 0]) := setRow_below HS2.out.bel (by omega) _
           refine bodyPost_ret (res_rowc_tmp2 (P := Tryz.prog) (T := 101) (T' := 101) (t := 5) (s := 6) rfl _ _ (w.heap.size + 1 + 1) #[.slice (some ⟨b, o + (rk + rv), none⟩) (n - (rk + rv)) (c - (rk + rv)), .int .i64 0] (0, 0) rfl (setRow_at HS2.out.res) Tryz.underlying101 rfl (by rw [sizRdr]; rfl)) rfl ⟨by rw [tq_mid b o c (rk + rv) (by omega) hcap2]; rfl, hbx⟩
 · have HE := K re (by rw [HE0.out, if_pos he])
   rw [HE.out, if_neg he] at HSs HNn
   rw [HE.out, HSs.out, HNn.out]
   have he' : ((re : Int) != 0) = true := by simpa using he
   clear K HE0 HE HSs HNn HL he
   have KF := Lib.hid (fun W => rfail_any q n c 0 re W)
   go_enter Tryz.func55, Tryz.ntmps55
   go_upto_region 15 with fail
   generalize (((w.alloc (.cells #[.slice q n c, .int .i64 0] 101)).alloc (.cells #[.int .i64 4, .int .u64 (N : Int), .string s] 134)).alloc (.cells #[.slice none 0 0, .int .i64 0] 101)).alloc (.cells #[.int .i64 1, .int .i64 2, .int .i64 8] 3) = W1 at *
   have cs1 : W1.cell? ⟨w.heap.size, 0, none⟩ = some (.slice q n c) := by rw [cell_blk HS0.out.rd]; rfl
   have cN : W1.cell? ⟨w.heap.size + 1, 1, none⟩ = some (.int .u64 (N : Int)) := by rw [cell_blk HS0.out.fl]; rfl
   have cK : W1.cell? ⟨w.heap.size + 1, 0, none⟩ = some (.int .i64 4) := by rw [cell_blk HS0.out.fl]; rfl
   have KR1 := Lib.hid (KR.out W1 HS0.out.bel)
   go_wp2_with (first
     | (go_at_call 106; (refine KR1.out.mono ?_); rintro e w2 ⟨rfl, rfl⟩)
     | ((with_reducible refine gate_ld 101 _ rfl ?_); refine wl_ldr rfl 101 _ rfl w.heap.size 0 [.slice q n c, .int .i64 0] _ Tryz.underlying101 rfl (by rw [sizRdr]; rfl) rfl (range_whole HS0.out.rd) ?_)
     | (go_at_call 105; (refine (KF.out _).mono ?_); rintro e W2 ⟨rfl, hb2⟩; have HS2 := Lib.hid (HS0.out.below hb2); clear hb2)
     | ((with_reducible refine gate_st 101 _ _ rfl ?_); refine wl_str rfl 101 _ _ rfl (w.heap.size + 1 + 1) #[.slice q n c, .int .i64 (re : Nat)] #[.slice none 0 0, .int .i64 0] _ (by rw [sizRdr]; rfl) rfl (by rw [← Array.all_toList]; rfl) rfl rfl HS2.out.res ?_))
   have hb : Below w.heap.size w (W2.setRow (w.heap.size + 1 + 1) #[.slice q n c, .int .i64 (re : Nat)]) := setRow_below HS2.out.bel (by omega) _
   refine bodyPost_ret (res_rowc_tmp2 (P := Tryz.prog) (T := 101) (T' := 101) (t := 5) (s := 6) rfl _ _ (w.heap.size + 1 + 1) #[.slice q n c, .int .i64 (re : Nat)] (0, 0) rfl (setRow_at HS2.out.res) Tryz.underlying101 rfl (by rw [sizRdr]; rfl)) rfl ⟨by rw [tq_zero]; rfl, hb⟩
end Go.Proofs.YtbfefdedjcppaaaGreatDoor

/- The document's in: one, number. -/
namespace Go.Proofs.YtbfefdedjcppaaaGreatDoor
set_option maxRecDepth 100000
set_option maxHeartbeats 8000000
open Go.RowKit Go.Deep
theorem sizIn : (Tryz.prog.info? 103).map (·.size) = some 2 := by kernel_rfl
theorem one0_any (w : World) : Calls Tryz.prog 65 #[.int .i64 0] w fun e w' => e = .returned (.agg #[.int .i64 0, .int .u64 0, .string ⟨#[]⟩]) ∧ Below w.heap.size w w' := by
 go_enter Tryz.func65, Tryz.ntmps65
 go_wp2_with fail
 refine bodyPost_ret (res_rowc (P := Tryz.prog) (T := 134) (T' := 134) rfl _ _ w.heap.size #[.int .i64 0, .int .u64 0, .string ⟨#[]⟩] (0, 0) rfl (heap_alloc_new _ _) Tryz.underlying134 rfl (by rw [sizFld]; rfl)) rfl ⟨rfl, below_alloc1 _ _⟩
theorem mk_rdr (w : World) : (Instr.alloc 101 true (.tuple #[])).run Tryz.prog w = .ok (.pointer (some ⟨w.heap.size, 0, none⟩)) (w.alloc (.cells #[.slice none 0 0, .int .i64 0] 101)) := by kernel_rfl
theorem exec_alR {o : Oper} {a : Act} {w : World} (ho : o.op = .alloc 101) : (execOp a.eval o).run Tryz.prog w = .ok (.value (.pointer (some ⟨w.heap.size, 0, none⟩))) (w.alloc (.cells #[.slice none 0 0, .int .i64 0] 101)) := by
 unfold execOp
 simp only [ho, Sem.run_bind, mk_rdr, Result.andThen_ok, Sem.run_pure]
theorem exec_fI {o : Oper} {a : Act} {w : World} (x : Operand) (ho : o.op = .fieldAddr 103 x 0) (b f : Nat) (hx : a.eval x = .pointer (some ⟨b, f, none⟩)) : (execOp a.eval o).run Tryz.prog w = .ok (.value (.pointer (some ⟨b, f, none⟩))) w := by
 unfold execOp
 simp only [ho, hx]
 simp [go_sem]
theorem exec_ext {P : Program} {o : Oper} {a : Act} {w : World} (x : Operand) (i : Nat) (ho : o.op = .extract x i) (vs : Array Value) (hx : a.eval x = .tuple vs) (v : Value) (hv : vs[i]? = some v) : (execOp a.eval o).run P w = .ok (.value v) w := by
 unfold execOp
 simp only [ho, hx]
 simp [go_sem, hv]
def eN (e : Nat) (l : List UInt8) : Nat := if e ≠ 0 then e else byteE l
def kN (e : Nat) (l : List UInt8) : Nat := if e ≠ 0 then 0 else byteK l
def vN (e : Nat) (l : List UInt8) : Nat := if e ≠ 0 then 0 else byteV l
theorem rreadN_any (q : Option Addr) (n c e : Nat) (l : List UInt8) (w : World) (h : RdOk w q n c l) : Calls Tryz.prog 55 #[.agg #[.slice q n c, .int .i64 (e : Int)], .agg #[.int .i64 0, .int .u64 0, .string ⟨#[]⟩]] w (RdP q n c (kN e l) (eN e l) (.int .u64 (vN e l : Nat)) ⟨#[]⟩ w) := by
 by_cases he : e = 0
 · subst he
   exact rread0_any q n c 0 l ⟨#[]⟩ w h
 · have h1 := rreadE_any q n c e 0 0 l ⟨#[]⟩ w h he
   unfold eN kN vN
   rw [if_pos he, if_pos he, if_pos he]
   exact h1
def numIE (lo hi ee e : Nat) (l : List UInt8) : Nat := if e = 0 ∧ byteE l = 0 ∧ (byteV l < lo ∨ hi < byteV l) then ee else eN e l
def InP (q : Option Addr) (n c k e' : Nat) (v : Value) (w : World) (en : Ending) (w' : World) : Prop :=
 en = .returned (.tuple #[.agg #[.slice (tq q c k) (n - k) (c - k), .int .i64 (e' : Int)], v]) ∧ Below w.heap.size w w'
theorem inNumber_any (q : Option Addr) (n c e lo hi ee : Nat) (l : List UInt8) (w : World) (h : RdOk w q n c l) : Calls Tryz.prog 32 #[.agg #[.slice q n c, .int .i64 (e : Int)], .int .i64 (lo : Int), .int .i64 (hi : Int), .int .i64 (ee : Int)] w (InP q n c (kN e l) (numIE lo hi ee e l) (.int .i64 (vN e l : Nat)) w) := by
 have HA : Hid (((w.alloc (.cells #[.slice q n c, .int .i64 (e : Int)] 103)).alloc (.cells #[.slice none 0 0, .int .i64 0] 103)).heap[w.heap.size]? = some (.cells #[.slice q n c, .int .i64 (e : Int)] 103 (0, 0))) := heap_alloc2_old _ _ _
 have HZ : Hid (((w.alloc (.cells #[.slice q n c, .int .i64 (e : Int)] 103)).alloc (.cells #[.slice none 0 0, .int .i64 0] 103)).heap[w.heap.size + 1]? = some (.cells #[.slice none 0 0, .int .i64 0] 103 (0, 0))) := heap_alloc2_new _ _ _
 have HB : Hid (Below w.heap.size w ((w.alloc (.cells #[.slice q n c, .int .i64 (e : Int)] 103)).alloc (.cells #[.slice none 0 0, .int .i64 0] 103))) := below_alloc2 _ _ _
 have H := Lib.hid h
 have KR : Hid (∀ W, Below w.heap.size w W → Calls Tryz.prog 55 #[.agg #[.slice q n c, .int .i64 (e : Int)], .agg #[.int .i64 0, .int .u64 0, .string ⟨#[]⟩]] W (RdP q n c (kN e l) (eN e l) (.int .u64 (vN e l : Nat)) ⟨#[]⟩ W)) := fun W hW => rreadN_any q n c e l W (h.below hW)
 have hvN : vN e l < 256 := by
   unfold vN
   split
   · omega
   · unfold byteV
     split
     · omega
     · exact UInt8.toNat_lt _
 have HIE : Hid (numIE lo hi ee e l = if e = 0 ∧ eN e l = 0 ∧ (vN e l < lo ∨ hi < vN e l) then ee else eN e l) := by
   show _ = _
   unfold numIE
   by_cases he : e = 0
   · subst he; rfl
   · rw [if_neg (fun h => he h.1), if_neg (fun h => he h.1)]
 clear h
 generalize numIE lo hi ee e l = ie at *
 generalize eN e l = e1 at *
 generalize kN e l = k at *
 generalize vN e l = v at *
 go_enter Tryz.func32, Tryz.ntmps32
 go_upto_region 1 with fail
 generalize (w.alloc (.cells #[.slice q n c, .int .i64 (e : Int)] 103)).alloc (.cells #[.slice none 0 0, .int .i64 0] 103) = W1 at *
 go_cut [10, 11, 12] (fun s10 s11 s12 wx => ∃ g : Nat, s10 = .pointer (some ⟨g, 0, none⟩) ∧ s11 = .int .u64 (v : Int) ∧ s12 = .string ⟨#[]⟩ ∧ Hid (Below W1.heap.size W1 wx) ∧ Hid (wx.heap[g]? = some (.cells #[.slice (tq q c k) (n - k) (c - k), .int .i64 (e1 : Int)] 101 (0, 0))) ∧ W1.heap.size ≤ g)
 case first => as_aux_lemma =>
   have hla := lt_heap HA.out
   have hbd : Below W1.heap.size W1 W1.drew := ⟨rfl, rfl, rfl, Nat.le_refl _, fun _ _ => rfl⟩
   have KS : ∀ W, Below W1.heap.size W1 W → W.heap[w.heap.size]? = W1.heap[w.heap.size]? := fun W hW => hW.block _ hla
   have KR' : ∀ W, Below W1.heap.size W1 W → Calls Tryz.prog 55 #[.agg #[.slice q n c, .int .i64 (e : Int)], .agg #[.int .i64 0, .int .u64 0, .string ⟨#[]⟩]] W (RdP q n c k e1 (.int .u64 (v : Nat)) ⟨#[]⟩ W) := fun W hW => KR.out W (HB.out.trans (hW.mono HB.out.size))
   refine wp_region_held_drew (S := fun W => W.heap[w.heap.size]? = W1.heap[w.heap.size]?) (by kernel_rfl) rfl (fun hH => ?_)
   show wpAnyH Tryz.prog Region.Mode.any _ _ _ 12 #[false, false, false, false, false, false, false, false, false, false, false, false] _ _
   refine takeR (i := 0) (v := .pointer (some ⟨w.heap.size, 0, none⟩)) 14 rfl rfl (by kernel_rfl) (by kernel_rfl) (by kernel_rfl) (fun _ _ _ h => h) (Or.inl ⟨rfl, fun w' hS => exec_fI (.tmp 4) rfl w.heap.size 0 rfl⟩) hH ?_
   simp only [Act.put, wrT]
   refine takeR (i := 1) (v := .agg #[.slice q n c, .int .i64 (e : Int)]) 15 rfl rfl (by kernel_rfl) (by kernel_rfl) (by kernel_rfl) (fun _ _ _ h => h) (Or.inl ⟨rfl, fun w' hS => exec_ldr 101 (.tmp 14) rfl w.heap.size 0 [.slice q n c, .int .i64 (e : Int)] _ Tryz.underlying101 rfl (by rw [sizRdr]; rfl) rfl (range_whole (hS.trans HA.out))⟩) hH ?_
   simp only [Act.put, wrT]
   refine twoReady 2 8 (by kernel_rfl) ?_ ?_
   · refine (wpOp_call rfl rfl (exec_calls rfl (enters_of Tryz.func65 (by kernel_rfl) rfl) (vs := #[.int .i64 0]) (by simp [Act.eval]) W1.drew) (one0_any _) (fun e' w1 hR => ?_))
     obtain ⟨rfl, hb1'⟩ := hR
     have hb1 := hbd.trans (hb1'.mono hbd.size)
     refine ⟨_, rfl, KS _ hb1, ?_⟩
     simp only [Act.put, rdT, wrT]
     refine twoReady 3 8 (by kernel_rfl) ?_ ?_
     · refine (wpOp_call rfl rfl (exec_calls rfl (enters_of Tryz.func55 (by kernel_rfl) rfl) (vs := #[.agg #[.slice q n c, .int .i64 (e : Int)], .agg #[.int .i64 0, .int .u64 0, .string ⟨#[]⟩]]) (by simp [Act.eval]) w1) (KR' _ hb1) (fun e' w2 hR => ?_))
       obtain ⟨rfl, hb2'⟩ := hR
       have hb2 := hb1.trans (hb2'.mono hb1.size)
       refine ⟨_, rfl, KS _ hb2, ?_⟩
       simp only [Act.put, rdT, wrT]
       have hH2 := KS _ hb2
       refine takeR (i := 4) (v := .tuple #[.agg #[.slice (tq q c k) (n - k) (c - k), .int .i64 (e1 : Int)], .int .u64 (v : Nat), .string ⟨#[]⟩]) 13 rfl rfl (by kernel_rfl) (by kernel_rfl) (by kernel_rfl) (fun _ _ _ h => h) (Or.inl ⟨rfl, fun w' hS => exec_mvT (.tmp 17) rfl _ rfl⟩) hH2 ?_
       simp only [Act.put, wrT]
       refine takeR (i := 5) (v := .agg #[.slice (tq q c k) (n - k) (c - k), .int .i64 (e1 : Int)]) 18 rfl rfl (by kernel_rfl) (by kernel_rfl) (by kernel_rfl) (fun _ _ _ h => h) (Or.inl ⟨rfl, fun w' hS => exec_ext (.tmp 13) 0 rfl #[.agg #[.slice (tq q c k) (n - k) (c - k), .int .i64 (e1 : Int)], .int .u64 (v : Nat), .string ⟨#[]⟩] rfl _ rfl⟩) hH2 ?_
       simp only [Act.put, wrT]
       refine takeR (i := 6) (v := .int .u64 (v : Nat)) 19 rfl rfl (by kernel_rfl) (by kernel_rfl) (by kernel_rfl) (fun _ _ _ h => h) (Or.inl ⟨rfl, fun w' hS => exec_ext (.tmp 13) 1 rfl #[.agg #[.slice (tq q c k) (n - k) (c - k), .int .i64 (e1 : Int)], .int .u64 (v : Nat), .string ⟨#[]⟩] rfl _ rfl⟩) hH2 ?_
       simp only [Act.put, wrT]
       refine takeR (i := 7) (v := .string ⟨#[]⟩) 20 rfl rfl (by kernel_rfl) (by kernel_rfl) (by kernel_rfl) (fun _ _ _ h => h) (Or.inl ⟨rfl, fun w' hS => exec_ext (.tmp 13) 2 rfl #[.agg #[.slice (tq q c k) (n - k) (c - k), .int .i64 (e1 : Int)], .int .u64 (v : Nat), .string ⟨#[]⟩] rfl _ rfl⟩) hH2 ?_
       simp only [Act.put, wrT]
       refine oneH 8 (by kernel_rfl) (wpOp_val rfl rfl (exec_alR rfl) ⟨KS _ (hb2.trans ((below_alloc1 w2 _).mono hb2.size)), ?_⟩)
       simp only [Act.put, rdT, wrT]
       have hb3 := hb2.trans ((below_alloc1 w2 (.cells #[.slice none 0 0, .int .i64 0] 101)).mono hb2.size)
       have hg3 : (w2.alloc (.cells #[.slice none 0 0, .int .i64 0] 101)).heap[w2.heap.size]? = some (.cells #[.slice none 0 0, .int .i64 0] 101 (0, 0)) := heap_alloc_new _ _
       have hgl := hb2.size
       generalize w2.alloc (.cells #[.slice none 0 0, .int .i64 0] 101) = w3 at *
       generalize w2.heap.size = g at *
       have hne : g ≠ w.heap.size := by omega
       refine oneH 9 (by kernel_rfl) (wpOp_skip rfl rfl (exec_str 101 (.tmp 10) (.tmp 18) rfl g #[.slice (tq q c k) (n - k) (c - k), .int .i64 (e1 : Int)] #[.slice none 0 0, .int .i64 0] 101 (by rw [sizRdr]; rfl) rfl (by rw [← Array.all_toList]; rfl) rfl rfl hg3) ⟨(setRow_other _ _ _ _ (Ne.symm hne)).trans (KS _ hb3), ?_⟩)
       simp only [Act.put, rdT, wrT]
       have hH4 : (w3.setRow g #[.slice (tq q c k) (n - k) (c - k), .int .i64 (e1 : Int)]).heap[w.heap.size]? = W1.heap[w.heap.size]? := (setRow_other _ _ _ _ (Ne.symm hne)).trans (KS _ hb3)
       refine takeR (i := 10) (v := .int .u64 (v : Nat)) 11 rfl rfl (by kernel_rfl) (by kernel_rfl) (by kernel_rfl) (fun _ _ _ h => h) (Or.inl ⟨rfl, fun w' hS => exec_asT (.tmp 19) rfl _ rfl⟩) hH4 ?_
       simp only [Act.put, wrT]
       refine takeR (i := 11) (v := .string ⟨#[]⟩) 12 rfl rfl (by kernel_rfl) (by kernel_rfl) (by kernel_rfl) (fun _ _ _ h => h) (Or.inl ⟨rfl, fun w' hS => exec_asT (.tmp 20) rfl _ rfl⟩) hH4 ?_
       simp only [Act.put, wrT]
       refine wpAnyH_done (by kernel_rfl) ?_ _
       try simp only [Act.put, rdT, wrT]
       have HBx : Hid (Below W1.heap.size W1 (w3.setRow g #[.slice (tq q c k) (n - k) (c - k), .int .i64 (e1 : Int)])) := setRow_below hb3 hgl _
       have HGx := Lib.hid (setRow_at (cs := #[.slice (tq q c k) (n - k) (c - k), .int .i64 (e1 : Int)]) hg3)
       clear hH4 KS KR'
       go_wp2_with fail
       go_meet
       case rel => exact ⟨g, rfl, rfl, rfl, HBx.out, HGx.out, hgl⟩
     · refine wpOp_val rfl rfl (exec_alR rfl) ⟨KS _ (hb1.trans ((below_alloc1 w1 _).mono hb1.size)), ?_⟩
       simp only [Act.put, rdT, wrT]
       have hba := hb1.trans ((below_alloc1 w1 (.cells #[.slice none 0 0, .int .i64 0] 101)).mono hb1.size)
       have hga : (w1.alloc (.cells #[.slice none 0 0, .int .i64 0] 101)).heap[w1.heap.size]? = some (.cells #[.slice none 0 0, .int .i64 0] 101 (0, 0)) := heap_alloc_new _ _
       have hgl := hb1.size
       generalize w1.alloc (.cells #[.slice none 0 0, .int .i64 0] 101) = w2 at *
       generalize w1.heap.size = g at *
       refine oneH 3 (by kernel_rfl) ((wpOp_call rfl rfl (exec_calls rfl (enters_of Tryz.func55 (by kernel_rfl) rfl) (vs := #[.agg #[.slice q n c, .int .i64 (e : Int)], .agg #[.int .i64 0, .int .u64 0, .string ⟨#[]⟩]]) (by simp [Act.eval]) w2) (KR' _ hba) (fun e' w3 hR => ?_)))
       obtain ⟨rfl, hb3'⟩ := hR
       have hb3 := hba.trans (hb3'.mono hba.size)
       have hg3 := (hb3'.block _ (lt_heap hga)).trans hga
       refine ⟨_, rfl, KS _ hb3, ?_⟩
       simp only [Act.put, rdT, wrT]
       have hH2 := KS _ hb3
       refine takeR (i := 4) (v := .tuple #[.agg #[.slice (tq q c k) (n - k) (c - k), .int .i64 (e1 : Int)], .int .u64 (v : Nat), .string ⟨#[]⟩]) 13 rfl rfl (by kernel_rfl) (by kernel_rfl) (by kernel_rfl) (fun _ _ _ h => h) (Or.inl ⟨rfl, fun w' hS => exec_mvT (.tmp 17) rfl _ rfl⟩) hH2 ?_
       simp only [Act.put, wrT]
       refine takeR (i := 5) (v := .agg #[.slice (tq q c k) (n - k) (c - k), .int .i64 (e1 : Int)]) 18 rfl rfl (by kernel_rfl) (by kernel_rfl) (by kernel_rfl) (fun _ _ _ h => h) (Or.inl ⟨rfl, fun w' hS => exec_ext (.tmp 13) 0 rfl #[.agg #[.slice (tq q c k) (n - k) (c - k), .int .i64 (e1 : Int)], .int .u64 (v : Nat), .string ⟨#[]⟩] rfl _ rfl⟩) hH2 ?_
       simp only [Act.put, wrT]
       refine takeR (i := 6) (v := .int .u64 (v : Nat)) 19 rfl rfl (by kernel_rfl) (by kernel_rfl) (by kernel_rfl) (fun _ _ _ h => h) (Or.inl ⟨rfl, fun w' hS => exec_ext (.tmp 13) 1 rfl #[.agg #[.slice (tq q c k) (n - k) (c - k), .int .i64 (e1 : Int)], .int .u64 (v : Nat), .string ⟨#[]⟩] rfl _ rfl⟩) hH2 ?_
       simp only [Act.put, wrT]
       refine takeR (i := 7) (v := .string ⟨#[]⟩) 20 rfl rfl (by kernel_rfl) (by kernel_rfl) (by kernel_rfl) (fun _ _ _ h => h) (Or.inl ⟨rfl, fun w' hS => exec_ext (.tmp 13) 2 rfl #[.agg #[.slice (tq q c k) (n - k) (c - k), .int .i64 (e1 : Int)], .int .u64 (v : Nat), .string ⟨#[]⟩] rfl _ rfl⟩) hH2 ?_
       simp only [Act.put, wrT]
       have hne : g ≠ w.heap.size := by omega
       refine oneH 9 (by kernel_rfl) (wpOp_skip rfl rfl (exec_str 101 (.tmp 10) (.tmp 18) rfl g #[.slice (tq q c k) (n - k) (c - k), .int .i64 (e1 : Int)] #[.slice none 0 0, .int .i64 0] 101 (by rw [sizRdr]; rfl) rfl (by rw [← Array.all_toList]; rfl) rfl rfl hg3) ⟨(setRow_other _ _ _ _ (Ne.symm hne)).trans (KS _ hb3), ?_⟩)
       simp only [Act.put, rdT, wrT]
       have hH4 : (w3.setRow g #[.slice (tq q c k) (n - k) (c - k), .int .i64 (e1 : Int)]).heap[w.heap.size]? = W1.heap[w.heap.size]? := (setRow_other _ _ _ _ (Ne.symm hne)).trans (KS _ hb3)
       refine takeR (i := 10) (v := .int .u64 (v : Nat)) 11 rfl rfl (by kernel_rfl) (by kernel_rfl) (by kernel_rfl) (fun _ _ _ h => h) (Or.inl ⟨rfl, fun w' hS => exec_asT (.tmp 19) rfl _ rfl⟩) hH4 ?_
       simp only [Act.put, wrT]
       refine takeR (i := 11) (v := .string ⟨#[]⟩) 12 rfl rfl (by kernel_rfl) (by kernel_rfl) (by kernel_rfl) (fun _ _ _ h => h) (Or.inl ⟨rfl, fun w' hS => exec_asT (.tmp 20) rfl _ rfl⟩) hH4 ?_
       simp only [Act.put, wrT]
       refine wpAnyH_done (by kernel_rfl) ?_ _
       try simp only [Act.put, rdT, wrT]
       have HBx : Hid (Below W1.heap.size W1 (w3.setRow g #[.slice (tq q c k) (n - k) (c - k), .int .i64 (e1 : Int)])) := setRow_below hb3 hgl _
       have HGx := Lib.hid (setRow_at (cs := #[.slice (tq q c k) (n - k) (c - k), .int .i64 (e1 : Int)]) hg3)
       clear hH4 KS KR'
       go_wp2_with fail
       go_meet
       case rel => exact ⟨g, rfl, rfl, rfl, HBx.out, HGx.out, hgl⟩
   · refine wpOp_val rfl rfl (exec_alR rfl) ⟨KS _ (hbd.trans ((below_alloc1 W1.drew _).mono hbd.size)), ?_⟩
     simp only [Act.put, rdT, wrT]
     have hba := hbd.trans ((below_alloc1 W1.drew (.cells #[.slice none 0 0, .int .i64 0] 101)).mono hbd.size)
     have hga : (W1.drew.alloc (.cells #[.slice none 0 0, .int .i64 0] 101)).heap[W1.drew.heap.size]? = some (.cells #[.slice none 0 0, .int .i64 0] 101 (0, 0)) := heap_alloc_new _ _
     have hgl : W1.heap.size ≤ W1.drew.heap.size := hbd.size
     generalize W1.drew.alloc (.cells #[.slice none 0 0, .int .i64 0] 101) = wa at *
     generalize W1.drew.heap.size = g at *
     refine oneH 2 (by kernel_rfl) ((wpOp_call rfl rfl (exec_calls rfl (enters_of Tryz.func65 (by kernel_rfl) rfl) (vs := #[.int .i64 0]) (by simp [Act.eval]) wa) (one0_any _) (fun e' w2 hR => ?_)))
     obtain ⟨rfl, hb2'⟩ := hR
     have hb2 := hba.trans (hb2'.mono hba.size)
     have hg2 := (hb2'.block _ (lt_heap hga)).trans hga
     refine ⟨_, rfl, KS _ hb2, ?_⟩
     simp only [Act.put, rdT, wrT]
     refine oneH 3 (by kernel_rfl) ((wpOp_call rfl rfl (exec_calls rfl (enters_of Tryz.func55 (by kernel_rfl) rfl) (vs := #[.agg #[.slice q n c, .int .i64 (e : Int)], .agg #[.int .i64 0, .int .u64 0, .string ⟨#[]⟩]]) (by simp [Act.eval]) w2) (KR' _ hb2) (fun e' w3 hR => ?_)))
     obtain ⟨rfl, hb3'⟩ := hR
     have hb3 := hb2.trans (hb3'.mono hb2.size)
     have hg3 := (hb3'.block _ (lt_heap hg2)).trans hg2
     refine ⟨_, rfl, KS _ hb3, ?_⟩
     simp only [Act.put, rdT, wrT]
     have hH2 := KS _ hb3
     refine takeR (i := 4) (v := .tuple #[.agg #[.slice (tq q c k) (n - k) (c - k), .int .i64 (e1 : Int)], .int .u64 (v : Nat), .string ⟨#[]⟩]) 13 rfl rfl (by kernel_rfl) (by kernel_rfl) (by kernel_rfl) (fun _ _ _ h => h) (Or.inl ⟨rfl, fun w' hS => exec_mvT (.tmp 17) rfl _ rfl⟩) hH2 ?_
     simp only [Act.put, wrT]
     refine takeR (i := 5) (v := .agg #[.slice (tq q c k) (n - k) (c - k), .int .i64 (e1 : Int)]) 18 rfl rfl (by kernel_rfl) (by kernel_rfl) (by kernel_rfl) (fun _ _ _ h => h) (Or.inl ⟨rfl, fun w' hS => exec_ext (.tmp 13) 0 rfl #[.agg #[.slice (tq q c k) (n - k) (c - k), .int .i64 (e1 : Int)], .int .u64 (v : Nat), .string ⟨#[]⟩] rfl _ rfl⟩) hH2 ?_
     simp only [Act.put, wrT]
     refine takeR (i := 6) (v := .int .u64 (v : Nat)) 19 rfl rfl (by kernel_rfl) (by kernel_rfl) (by kernel_rfl) (fun _ _ _ h => h) (Or.inl ⟨rfl, fun w' hS => exec_ext (.tmp 13) 1 rfl #[.agg #[.slice (tq q c k) (n - k) (c - k), .int .i64 (e1 : Int)], .int .u64 (v : Nat), .string ⟨#[]⟩] rfl _ rfl⟩) hH2 ?_
     simp only [Act.put, wrT]
     refine takeR (i := 7) (v := .string ⟨#[]⟩) 20 rfl rfl (by kernel_rfl) (by kernel_rfl) (by kernel_rfl) (fun _ _ _ h => h) (Or.inl ⟨rfl, fun w' hS => exec_ext (.tmp 13) 2 rfl #[.agg #[.slice (tq q c k) (n - k) (c - k), .int .i64 (e1 : Int)], .int .u64 (v : Nat), .string ⟨#[]⟩] rfl _ rfl⟩) hH2 ?_
     simp only [Act.put, wrT]
     have hne : g ≠ w.heap.size := by omega
     refine oneH 9 (by kernel_rfl) (wpOp_skip rfl rfl (exec_str 101 (.tmp 10) (.tmp 18) rfl g #[.slice (tq q c k) (n - k) (c - k), .int .i64 (e1 : Int)] #[.slice none 0 0, .int .i64 0] 101 (by rw [sizRdr]; rfl) rfl (by rw [← Array.all_toList]; rfl) rfl rfl hg3) ⟨(setRow_other _ _ _ _ (Ne.symm hne)).trans (KS _ hb3), ?_⟩)
     simp only [Act.put, rdT, wrT]
     have hH4 : (w3.setRow g #[.slice (tq q c k) (n - k) (c - k), .int .i64 (e1 : Int)]).heap[w.heap.size]? = W1.heap[w.heap.size]? := (setRow_other _ _ _ _ (Ne.symm hne)).trans (KS _ hb3)
     refine takeR (i := 10) (v := .int .u64 (v : Nat)) 11 rfl rfl (by kernel_rfl) (by kernel_rfl) (by kernel_rfl) (fun _ _ _ h => h) (Or.inl ⟨rfl, fun w' hS => exec_asT (.tmp 19) rfl _ rfl⟩) hH4 ?_
     simp only [Act.put, wrT]
     refine takeR (i := 11) (v := .string ⟨#[]⟩) 12 rfl rfl (by kernel_rfl) (by kernel_rfl) (by kernel_rfl) (fun _ _ _ h => h) (Or.inl ⟨rfl, fun w' hS => exec_asT (.tmp 20) rfl _ rfl⟩) hH4 ?_
     simp only [Act.put, wrT]
     refine wpAnyH_done (by kernel_rfl) ?_ _
     try simp only [Act.put, rdT, wrT]
     have HBx : Hid (Below W1.heap.size W1 (w3.setRow g #[.slice (tq q c k) (n - k) (c - k), .int .i64 (e1 : Int)])) := setRow_below hb3 hgl _
     have HGx := Lib.hid (setRow_at (cs := #[.slice (tq q c k) (n - k) (c - k), .int .i64 (e1 : Int)]) hg3)
     clear hH4 KS KR'
     go_wp2_with fail
     go_meet
     case rel => exact ⟨g, rfl, rfl, rfl, HBx.out, HGx.out, hgl⟩
 case rest =>
 obtain ⟨g, rfl, rfl, rfl, HB2, HG2, hgl⟩ := hcut
 have HA2 := Lib.hid ((HB2.out.block _ (lt_heap HA.out)).trans HA.out)
 have HZ2 := Lib.hid ((HB2.out.block _ (lt_heap HZ.out)).trans HZ.out)
 have HBw := Lib.hid (HB.out.trans (HB2.out.mono HB.out.size))
 have hg1 : w.heap.size + 1 < g := by have := lt_heap HZ.out; omega
 clear HA HZ HB HB2 KR H
 generalize wc = W2 at *
 clear hgl W1
 have ca : W2.cell? ⟨w.heap.size, 1, none⟩ = some (.int .i64 (e : Int)) := by rw [cell_blk HA2.out]; rfl
 have cg : W2.cell? ⟨g, 1, none⟩ = some (.int .i64 (e1 : Int)) := by rw [cell_blk HG2.out]; rfl
 have hcv : IntKind.i64.wrap (v : Int) = (v : Int) := by simp [IntKind.wrap, IntKind.bits, IntKind.signed]; omega
 have keep : ∀ x, ie = x → Hid (ie = x) := fun _ h => h
 by_cases he : e = 0
 · by_cases he1 : e1 = 0
   · subst he
     subst he1
     by_cases h1 : v < lo
     · have HI := keep ee (by rw [HIE.out, if_pos ⟨rfl, rfl, .inl h1⟩])
       have h1' : (v : Int) < lo := by omega
       clear keep HIE h1
       go_wp2_with (first
         | ((with_reducible refine gate_st 3 _ _ rfl ?_); refine wl_st1G rfl 3 sizI1 _ _ rfl g 1 (.int .i64 (ee : Int)) rfl rfl rfl [.slice (tq q c k) (n - k) (c - k), .int .i64 (0 : Nat)] [.slice (tq q c k) (n - k) (c - k), .int .i64 (ee : Int)] _ HG2.out (by simp) rfl (fun W3 h1 h2 => ?_); have HG3 := Lib.hid h1; have HA3 := Lib.hid ((h2.block _ (lt_heap HA2.out) (by simp; omega)).trans HA2.out); have HZ3 := Lib.hid ((h2.block _ (lt_heap HZ2.out) (by simp; omega)).trans HZ2.out); have HB3 := Lib.hid (HBw.out.trans (h2.below (fun k hk => by simp at hk; omega) HBw.out.size)); clear h1 h2; try simp only [Act.put])
         | ((with_reducible refine gate_ld 101 (.tmp 10) rfl ?_); refine wl_ldr rfl 101 _ rfl g 0 [.slice (tq q c k) (n - k) (c - k), .int .i64 (ee : Int)] _ Tryz.underlying101 rfl (by rw [sizRdr]; rfl) rfl (range_whole HG3.out) ?_)
         | ((with_reducible refine gate_st 101 _ _ rfl ?_); refine wl_stR rfl 101 _ _ rfl w.heap.size 0 [.slice (tq q c k) (n - k) (c - k), .int .i64 (ee : Int)] (by rw [sizRdr]; rfl) rfl rfl (fun u hu => by simp at hu; rcases hu with rfl | rfl <;> rfl) [.slice q n c, .int .i64 (0 : Nat)] 103 HA3.out (by simp) (fun W5 h1 h2 => ?_); have HA5 : Hid (W5.heap[w.heap.size]? = some (.cells [.slice (tq q c k) (n - k) (c - k), .int .i64 (ee : Int)].toArray 103 (0, 0))) := h1; have HZ5 := Lib.hid ((h2.block _ (lt_heap HZ3.out) (by simp)).trans HZ3.out); have HB5 := Lib.hid (HB3.out.trans (h2.below (fun k hk => by simp at hk; omega) HB3.out.size)); clear h1 h2; try simp only [Act.put])
         | ((with_reducible refine gate_ld 103 (.tmp 4) rfl ?_); refine wl_ldr rfl 103 _ rfl w.heap.size 0 [.slice (tq q c k) (n - k) (c - k), .int .i64 (ee : Int)] _ Tryz.underlying103 rfl (by rw [sizIn]; rfl) rfl (range_whole HA5.out) ?_)
         | ((with_reducible refine gate_st 103 _ _ rfl ?_); refine wl_str rfl 103 _ _ rfl (w.heap.size + 1) [.slice (tq q c k) (n - k) (c - k), .int .i64 (ee : Int)].toArray #[.slice none 0 0, .int .i64 0] _ (by rw [sizIn]; rfl) rfl (by rw [← Array.all_toList]; rfl) rfl rfl HZ5.out ?_))
       refine bodyPost_ret (res_rowc_tmp (P := Tryz.prog) (T := 103) (T' := 103) (t := 9) rfl _ _ (w.heap.size + 1) [.slice (tq q c k) (n - k) (c - k), .int .i64 (ee : Int)].toArray (0, 0) rfl (setRow_at HZ5.out) Tryz.underlying103 rfl (by rw [sizIn]; rfl)) rfl ⟨by rw [HI.out]; rfl, setRow_below HB5.out (Nat.le_succ _) _⟩
     · have h1' : ¬ (v : Int) < lo := by omega
       by_cases h2 : hi < v
       · have HI := keep ee (by rw [HIE.out, if_pos ⟨rfl, rfl, .inr h2⟩])
         have h2' : (hi : Int) < v := by omega
         clear keep HIE h1 h2
         go_wp2_with (first
           | ((with_reducible refine gate_st 3 _ _ rfl ?_); refine wl_st1G rfl 3 sizI1 _ _ rfl g 1 (.int .i64 (ee : Int)) rfl rfl rfl [.slice (tq q c k) (n - k) (c - k), .int .i64 (0 : Nat)] [.slice (tq q c k) (n - k) (c - k), .int .i64 (ee : Int)] _ HG2.out (by simp) rfl (fun W3 h1 h2 => ?_); have HG3 := Lib.hid h1; have HA3 := Lib.hid ((h2.block _ (lt_heap HA2.out) (by simp; omega)).trans HA2.out); have HZ3 := Lib.hid ((h2.block _ (lt_heap HZ2.out) (by simp; omega)).trans HZ2.out); have HB3 := Lib.hid (HBw.out.trans (h2.below (fun k hk => by simp at hk; omega) HBw.out.size)); clear h1 h2; try simp only [Act.put])
           | ((with_reducible refine gate_ld 101 (.tmp 10) rfl ?_); refine wl_ldr rfl 101 _ rfl g 0 [.slice (tq q c k) (n - k) (c - k), .int .i64 (ee : Int)] _ Tryz.underlying101 rfl (by rw [sizRdr]; rfl) rfl (range_whole HG3.out) ?_)
           | ((with_reducible refine gate_st 101 _ _ rfl ?_); refine wl_stR rfl 101 _ _ rfl w.heap.size 0 [.slice (tq q c k) (n - k) (c - k), .int .i64 (ee : Int)] (by rw [sizRdr]; rfl) rfl rfl (fun u hu => by simp at hu; rcases hu with rfl | rfl <;> rfl) [.slice q n c, .int .i64 (0 : Nat)] 103 HA3.out (by simp) (fun W5 h1 h2 => ?_); have HA5 : Hid (W5.heap[w.heap.size]? = some (.cells [.slice (tq q c k) (n - k) (c - k), .int .i64 (ee : Int)].toArray 103 (0, 0))) := h1; have HZ5 := Lib.hid ((h2.block _ (lt_heap HZ3.out) (by simp)).trans HZ3.out); have HB5 := Lib.hid (HB3.out.trans (h2.below (fun k hk => by simp at hk; omega) HB3.out.size)); clear h1 h2; try simp only [Act.put])
           | ((with_reducible refine gate_ld 103 (.tmp 4) rfl ?_); refine wl_ldr rfl 103 _ rfl w.heap.size 0 [.slice (tq q c k) (n - k) (c - k), .int .i64 (ee : Int)] _ Tryz.underlying103 rfl (by rw [sizIn]; rfl) rfl (range_whole HA5.out) ?_)
           | ((with_reducible refine gate_st 103 _ _ rfl ?_); refine wl_str rfl 103 _ _ rfl (w.heap.size + 1) [.slice (tq q c k) (n - k) (c - k), .int .i64 (ee : Int)].toArray #[.slice none 0 0, .int .i64 0] _ (by rw [sizIn]; rfl) rfl (by rw [← Array.all_toList]; rfl) rfl rfl HZ5.out ?_))
         refine bodyPost_ret (res_rowc_tmp (P := Tryz.prog) (T := 103) (T' := 103) (t := 9) rfl _ _ (w.heap.size + 1) [.slice (tq q c k) (n - k) (c - k), .int .i64 (ee : Int)].toArray (0, 0) rfl (setRow_at HZ5.out) Tryz.underlying103 rfl (by rw [sizIn]; rfl)) rfl ⟨by rw [HI.out]; rfl, setRow_below HB5.out (Nat.le_succ _) _⟩
       · have HI := keep 0 (by rw [HIE.out, if_neg (fun h => h.2.2.elim h1 h2)])
         have h2' : ¬ (hi : Int) < v := by omega
         clear keep HIE h1 h2
         go_wp2_with (first
           | ((with_reducible refine gate_ld 101 (.tmp 10) rfl ?_); refine wl_ldr rfl 101 _ rfl g 0 [.slice (tq q c k) (n - k) (c - k), .int .i64 ((0 : Nat) : Int)] _ Tryz.underlying101 rfl (by rw [sizRdr]; rfl) rfl (range_whole HG2.out) ?_)
           | ((with_reducible refine gate_st 101 _ _ rfl ?_); refine wl_stR rfl 101 _ _ rfl w.heap.size 0 [.slice (tq q c k) (n - k) (c - k), .int .i64 ((0 : Nat) : Int)] (by rw [sizRdr]; rfl) rfl rfl (fun u hu => by simp at hu; rcases hu with rfl | rfl <;> rfl) [.slice q n c, .int .i64 (0 : Nat)] 103 HA2.out (by simp) (fun W5 h1 h2 => ?_); have HA5 : Hid (W5.heap[w.heap.size]? = some (.cells [.slice (tq q c k) (n - k) (c - k), .int .i64 ((0 : Nat) : Int)].toArray 103 (0, 0))) := h1; have HZ5 := Lib.hid ((h2.block _ (lt_heap HZ2.out) (by simp)).trans HZ2.out); have HB5 := Lib.hid (HBw.out.trans (h2.below (fun k hk => by simp at hk; omega) HBw.out.size)); clear h1 h2; try simp only [Act.put])
           | ((with_reducible refine gate_ld 103 (.tmp 4) rfl ?_); refine wl_ldr rfl 103 _ rfl w.heap.size 0 [.slice (tq q c k) (n - k) (c - k), .int .i64 ((0 : Nat) : Int)] _ Tryz.underlying103 rfl (by rw [sizIn]; rfl) rfl (range_whole HA5.out) ?_)
           | ((with_reducible refine gate_st 103 _ _ rfl ?_); refine wl_str rfl 103 _ _ rfl (w.heap.size + 1) [.slice (tq q c k) (n - k) (c - k), .int .i64 ((0 : Nat) : Int)].toArray #[.slice none 0 0, .int .i64 0] _ (by rw [sizIn]; rfl) rfl (by rw [← Array.all_toList]; rfl) rfl rfl HZ5.out ?_))
         refine bodyPost_ret (res_rowc_tmp (P := Tryz.prog) (T := 103) (T' := 103) (t := 9) rfl _ _ (w.heap.size + 1) [.slice (tq q c k) (n - k) (c - k), .int .i64 ((0 : Nat) : Int)].toArray (0, 0) rfl (setRow_at HZ5.out) Tryz.underlying103 rfl (by rw [sizIn]; rfl)) rfl ⟨by rw [HI.out]; rfl, setRow_below HB5.out (Nat.le_succ _) _⟩
   · subst he
     have HI := keep e1 (by rw [HIE.out, if_neg (fun h => he1 h.2.1)])
     have h2' : ((e1 : Int) == 0) = false := by simpa using he1
     clear keep HIE he1
     go_wp2_with (first
       | ((with_reducible refine gate_ld 101 (.tmp 10) rfl ?_); refine wl_ldr rfl 101 _ rfl g 0 [.slice (tq q c k) (n - k) (c - k), .int .i64 (e1 : Int)] _ Tryz.underlying101 rfl (by rw [sizRdr]; rfl) rfl (range_whole HG2.out) ?_)
       | ((with_reducible refine gate_st 101 _ _ rfl ?_); refine wl_stR rfl 101 _ _ rfl w.heap.size 0 [.slice (tq q c k) (n - k) (c - k), .int .i64 (e1 : Int)] (by rw [sizRdr]; rfl) rfl rfl (fun u hu => by simp at hu; rcases hu with rfl | rfl <;> rfl) [.slice q n c, .int .i64 (0 : Nat)] 103 HA2.out (by simp) (fun W5 h1 h2 => ?_); have HA5 : Hid (W5.heap[w.heap.size]? = some (.cells [.slice (tq q c k) (n - k) (c - k), .int .i64 (e1 : Int)].toArray 103 (0, 0))) := h1; have HZ5 := Lib.hid ((h2.block _ (lt_heap HZ2.out) (by simp)).trans HZ2.out); have HB5 := Lib.hid (HBw.out.trans (h2.below (fun k hk => by simp at hk; omega) HBw.out.size)); clear h1 h2; try simp only [Act.put])
       | ((with_reducible refine gate_ld 103 (.tmp 4) rfl ?_); refine wl_ldr rfl 103 _ rfl w.heap.size 0 [.slice (tq q c k) (n - k) (c - k), .int .i64 (e1 : Int)] _ Tryz.underlying103 rfl (by rw [sizIn]; rfl) rfl (range_whole HA5.out) ?_)
       | ((with_reducible refine gate_st 103 _ _ rfl ?_); refine wl_str rfl 103 _ _ rfl (w.heap.size + 1) [.slice (tq q c k) (n - k) (c - k), .int .i64 (e1 : Int)].toArray #[.slice none 0 0, .int .i64 0] _ (by rw [sizIn]; rfl) rfl (by rw [← Array.all_toList]; rfl) rfl rfl HZ5.out ?_))
     refine bodyPost_ret (res_rowc_tmp (P := Tryz.prog) (T := 103) (T' := 103) (t := 9) rfl _ _ (w.heap.size + 1) [.slice (tq q c k) (n - k) (c - k), .int .i64 (e1 : Int)].toArray (0, 0) rfl (setRow_at HZ5.out) Tryz.underlying103 rfl (by rw [sizIn]; rfl)) rfl ⟨by rw [HI.out]; rfl, setRow_below HB5.out (Nat.le_succ _) _⟩
 · have HI := keep e1 (by rw [HIE.out, if_neg (fun h => he h.1)])
   have h2' : ((e : Int) == 0) = false := by simpa using he
   clear keep HIE he
   go_wp2_with (first
     | ((with_reducible refine gate_ld 101 (.tmp 10) rfl ?_); refine wl_ldr rfl 101 _ rfl g 0 [.slice (tq q c k) (n - k) (c - k), .int .i64 (e1 : Int)] _ Tryz.underlying101 rfl (by rw [sizRdr]; rfl) rfl (range_whole HG2.out) ?_)
     | ((with_reducible refine gate_st 101 _ _ rfl ?_); refine wl_stR rfl 101 _ _ rfl w.heap.size 0 [.slice (tq q c k) (n - k) (c - k), .int .i64 (e1 : Int)] (by rw [sizRdr]; rfl) rfl rfl (fun u hu => by simp at hu; rcases hu with rfl | rfl <;> rfl) [.slice q n c, .int .i64 (e : Nat)] 103 HA2.out (by simp) (fun W5 h1 h2 => ?_); have HA5 : Hid (W5.heap[w.heap.size]? = some (.cells [.slice (tq q c k) (n - k) (c - k), .int .i64 (e1 : Int)].toArray 103 (0, 0))) := h1; have HZ5 := Lib.hid ((h2.block _ (lt_heap HZ2.out) (by simp)).trans HZ2.out); have HB5 := Lib.hid (HBw.out.trans (h2.below (fun k hk => by simp at hk; omega) HBw.out.size)); clear h1 h2; try simp only [Act.put])
     | ((with_reducible refine gate_ld 103 (.tmp 4) rfl ?_); refine wl_ldr rfl 103 _ rfl w.heap.size 0 [.slice (tq q c k) (n - k) (c - k), .int .i64 (e1 : Int)] _ Tryz.underlying103 rfl (by rw [sizIn]; rfl) rfl (range_whole HA5.out) ?_)
     | ((with_reducible refine gate_st 103 _ _ rfl ?_); refine wl_str rfl 103 _ _ rfl (w.heap.size + 1) [.slice (tq q c k) (n - k) (c - k), .int .i64 (e1 : Int)].toArray #[.slice none 0 0, .int .i64 0] _ (by rw [sizIn]; rfl) rfl (by rw [← Array.all_toList]; rfl) rfl rfl HZ5.out ?_))
   refine bodyPost_ret (res_rowc_tmp (P := Tryz.prog) (T := 103) (T' := 103) (t := 9) rfl _ _ (w.heap.size + 1) [.slice (tq q c k) (n - k) (c - k), .int .i64 (e1 : Int)].toArray (0, 0) rfl (setRow_at HZ5.out) Tryz.underlying103 rfl (by rw [sizIn]; rfl)) rfl ⟨by rw [HI.out]; rfl, setRow_below HB5.out (Nat.le_succ _) _⟩
end Go.Proofs.YtbfefdedjcppaaaGreatDoor

/- The document's in: text, end. -/
namespace Go.Proofs.YtbfefdedjcppaaaGreatDoor
set_option maxRecDepth 100000
set_option maxHeartbeats 8000000
open Go.RowKit Go.Deep
def eT (m e : Nat) (l : List UInt8) : Nat := if e ≠ 0 then e else textE m l
def kT (m e : Nat) (l : List UInt8) : Nat := if e ≠ 0 then 0 else textN m l
def sT (m e : Nat) (l : List UInt8) : List UInt8 := if e ≠ 0 then [] else textS m l
theorem rreadT_any (q : Option Addr) (n c e m : Nat) (l : List UInt8) (w : World) (h : RdOk w q n c l) (hm : m < 2 ^ 63) : Calls Tryz.prog 55 #[.agg #[.slice q n c, .int .i64 (e : Int)], .agg #[.int .i64 4, .int .u64 (m : Int), .string ⟨#[]⟩]] w (RdP q n c (kT m e l) (eT m e l) (.int .u64 0) ⟨(sT m e l).toArray⟩ w) := by
 by_cases he : e = 0
 · subst he
   exact rread4_any q n c m l ⟨#[]⟩ w h hm
 · have h1 := rreadE_any q n c e m 4 l ⟨#[]⟩ w h he
   unfold eT kT sT
   rw [if_pos he, if_pos he, if_pos he]
   exact h1
theorem inText_any (q : Option Addr) (n c e m : Nat) (l : List UInt8) (w : World) (h : RdOk w q n c l) (hm : m < 2 ^ 63) : Calls Tryz.prog 53 #[.agg #[.slice q n c, .int .i64 (e : Int)], .int .i64 (m : Int)] w (InP q n c (kT m e l) (eT m e l) (.string ⟨(sT m e l).toArray⟩) w) := by
 have HA : Hid (((w.alloc (.cells #[.slice q n c, .int .i64 (e : Int)] 103)).alloc (.cells #[.slice none 0 0, .int .i64 0] 103)).heap[w.heap.size]? = some (.cells #[.slice q n c, .int .i64 (e : Int)] 103 (0, 0))) := heap_alloc2_old _ _ _
 have HZ : Hid (((w.alloc (.cells #[.slice q n c, .int .i64 (e : Int)] 103)).alloc (.cells #[.slice none 0 0, .int .i64 0] 103)).heap[w.heap.size + 1]? = some (.cells #[.slice none 0 0, .int .i64 0] 103 (0, 0))) := heap_alloc2_new _ _ _
 have HB : Hid (Below w.heap.size w ((w.alloc (.cells #[.slice q n c, .int .i64 (e : Int)] 103)).alloc (.cells #[.slice none 0 0, .int .i64 0] 103))) := below_alloc2 _ _ _
 have KR : Hid (∀ W, Below w.heap.size w W → Calls Tryz.prog 55 #[.agg #[.slice q n c, .int .i64 (e : Int)], .agg #[.int .i64 4, .int .u64 (m : Int), .string ⟨#[]⟩]] W (RdP q n c (kT m e l) (eT m e l) (.int .u64 0) ⟨(sT m e l).toArray⟩ W)) := fun W hW => rreadT_any q n c e m l W (h.below hW) hm
 have hw1 : IntKind.u64.wrap (m : Int) = (m : Int) := by rw [IntKind.wrap_u64]; omega
 clear h
 generalize eT m e l = e1 at *
 generalize kT m e l = k at *
 generalize sT m e l = tx at *
 go_enter Tryz.func53, Tryz.ntmps53
 go_upto_region 1 with fail
 generalize (w.alloc (.cells #[.slice q n c, .int .i64 (e : Int)] 103)).alloc (.cells #[.slice none 0 0, .int .i64 0] 103) = W1 at *
 have KR1 := Lib.hid (KR.out W1 HB.out)
 go_upto_region 2 with (first
   | ((with_reducible refine gate_ld 101 (.tmp 10) rfl ?_); refine wl_ldr rfl 101 _ rfl w.heap.size 0 [.slice q n c, .int .i64 (e : Int)] _ Tryz.underlying101 rfl (by rw [sizRdr]; rfl) rfl (range_whole HA.out) ?_)
   | (go_at_call 55; (refine KR1.out.mono ?_); rintro e' W2 ⟨rfl, hb2⟩; have HB2 := Lib.hid hb2; clear hb2)
   | ((with_reducible refine gate_st 101 _ _ rfl ?_); refine wl_strn rfl _ _ _ rfl [.slice (tq q c k) (n - k) (c - k), .int .i64 (e1 : Int)].toArray #[.slice none 0 0, .int .i64 0] _ (by rw [sizRdr]; rfl) rfl (by rw [← Array.all_toList]; rfl) (by simp [Act.eval]) rfl ?_))
 have HG3 : Hid ((W2.alloc (.cells [.slice (tq q c k) (n - k) (c - k), .int .i64 (e1 : Int)].toArray 101)).heap[W2.heap.size]? = some (.cells [.slice (tq q c k) (n - k) (c - k), .int .i64 (e1 : Int)].toArray 101 (0, 0))) := heap_alloc_new _ _
 have hbx : Below W1.heap.size W1 (W2.alloc (.cells [.slice (tq q c k) (n - k) (c - k), .int .i64 (e1 : Int)].toArray 101)) := HB2.out.alloc HB2.out.size _
 have HA3 := Lib.hid ((hbx.block _ (lt_heap HA.out)).trans HA.out)
 have HZ3 := Lib.hid ((hbx.block _ (lt_heap HZ.out)).trans HZ.out)
 have HB3 := Lib.hid (HB.out.trans (hbx.mono HB.out.size))
 clear hbx HA HZ HB HB2 KR KR1
 generalize W2.alloc (.cells [.slice (tq q c k) (n - k) (c - k), .int .i64 (e1 : Int)].toArray 101) = W3 at *
 generalize W2.heap.size = g at *
 try simp only [Act.put]
 go_wp2_with (first
   | ((with_reducible refine gate_ld 101 (.tmp 6) rfl ?_); refine wl_ldr rfl 101 _ rfl g 0 [.slice (tq q c k) (n - k) (c - k), .int .i64 (e1 : Int)] _ Tryz.underlying101 rfl (by rw [sizRdr]; rfl) rfl (range_whole HG3.out) ?_)
   | ((with_reducible refine gate_st 101 _ _ rfl ?_); refine wl_stR rfl 101 _ _ rfl w.heap.size 0 [.slice (tq q c k) (n - k) (c - k), .int .i64 (e1 : Int)] (by rw [sizRdr]; rfl) rfl rfl (fun u hu => by simp at hu; rcases hu with rfl | rfl <;> rfl) [.slice q n c, .int .i64 (e : Nat)] 103 HA3.out (by simp) (fun W5 h1 h2 => ?_); have HA5 : Hid (W5.heap[w.heap.size]? = some (.cells [.slice (tq q c k) (n - k) (c - k), .int .i64 (e1 : Int)].toArray 103 (0, 0))) := h1; have HZ5 := Lib.hid ((h2.block _ (lt_heap HZ3.out) (by simp)).trans HZ3.out); have HB5 := Lib.hid (HB3.out.trans (h2.below (fun k hk => by simp at hk; omega) HB3.out.size)); clear h1 h2; try simp only [Act.put])
   | ((with_reducible refine gate_ld 103 (.tmp 2) rfl ?_); refine wl_ldr rfl 103 _ rfl w.heap.size 0 [.slice (tq q c k) (n - k) (c - k), .int .i64 (e1 : Int)] _ Tryz.underlying103 rfl (by rw [sizIn]; rfl) rfl (range_whole HA5.out) ?_)
   | ((with_reducible refine gate_st 103 _ _ rfl ?_); refine wl_str rfl 103 _ _ rfl (w.heap.size + 1) [.slice (tq q c k) (n - k) (c - k), .int .i64 (e1 : Int)].toArray #[.slice none 0 0, .int .i64 0] _ (by rw [sizIn]; rfl) rfl (by rw [← Array.all_toList]; rfl) rfl rfl HZ5.out ?_))
 refine bodyPost_ret (res_rowc_tmp (P := Tryz.prog) (T := 103) (T' := 103) (t := 5) rfl _ _ (w.heap.size + 1) [.slice (tq q c k) (n - k) (c - k), .int .i64 (e1 : Int)].toArray (0, 0) rfl (setRow_at HZ5.out) Tryz.underlying103 rfl (by rw [sizIn]; rfl)) rfl ⟨rfl, setRow_below HB5.out (Nat.le_succ _) _⟩
theorem inEnd_any (q : Option Addr) (n c e : Nat) (w : World) : Calls Tryz.prog 36 #[.agg #[.slice q n c, .int .i64 (e : Int)]] w fun en w' => en = .returned (.int .i64 ((if e = 0 ∧ 0 < n then 3 else e : Nat) : Int)) ∧ Below w.heap.size w w' := by
 have HB := Lib.hid (below_alloc1 w (.cells #[.slice q n c, .int .i64 (e : Int)] 103))
 have K : ∀ x, (if e = 0 ∧ 0 < n then 3 else e : Nat) = x → Hid ((if e = 0 ∧ 0 < n then 3 else e : Nat) = x) := fun _ h => h
 by_cases he : e = 0
 · by_cases hn : 0 < n
   · have HX := K 3 (if_pos ⟨he, hn⟩)
     have hn' : (0 : Int) < n := by omega
     rw [HX.out]
     subst he
     clear K HX hn
     go_enter Tryz.func36, Tryz.ntmps36
     go_wp2_with fail
     go_ret
     exact ⟨rfl, HB.out⟩
   · have HX := K e (if_neg fun h => hn h.2)
     have hn' : ¬ (0 : Int) < n := by omega
     rw [HX.out]
     subst he
     clear K HX hn
     go_enter Tryz.func36, Tryz.ntmps36
     go_wp2_with fail
     go_ret
     exact ⟨rfl, HB.out⟩
 · have HX := K e (if_neg fun h => he h.1)
   have he' : ((e : Int) == 0) = false := by simpa using he
   rw [HX.out]
   clear K HX he
   go_enter Tryz.func36, Tryz.ntmps36
   go_wp2_with fail
   go_ret
   exact ⟨rfl, HB.out⟩
end Go.Proofs.YtbfefdedjcppaaaGreatDoor
