/- Texts joined: RC. -/
import Derived.Test.YtbfefdedjcppaaaGreatDoorRB
import Derived.Lib.AppendStr
/- wire.Writer: NewWriter, field over any closure, Byte's closure. -/
namespace Go.Proofs.YtbfefdedjcppaaaGreatDoor
set_option maxRecDepth 100000
set_option maxHeartbeats 4000000
open Go.RowKit
structure WrAt (w : World) (bw : Nat) (v : Value) (l : List UInt8) (er room : Nat) : Prop where
 at_ : w.heap[bw]? = some (.cells #[v, .int .i64 (er : Int), .int .i64 (room : Int)] 169 (0, 0))
 own : OwnE byteC 5 1 w (bw + 1) v l
structure WTurn (bw : Nat) (v v' : Value) (w w' : World) : Prop where
 os : w'.os = w.os
 tape : w'.tape = w.tape
 output : w'.output = w.output
 size : w.heap.size ≤ w'.heap.size
 block : ∀ k, k < w.heap.size → k ≠ bw → v.ownBlock ≠ some k → w'.heap[k]? = w.heap[k]?
 new : v'.ownBlock = v.ownBlock ∨ ∀ g, v'.ownBlock = some g → w.heap.size ≤ g
theorem WTurn.refl (bw : Nat) (v : Value) (w : World) : WTurn bw v v w w := ⟨rfl, rfl, rfl, Nat.le_refl _, fun _ _ _ _ => rfl, .inl rfl⟩
theorem WTurn.trans {bw : Nat} {v v' v'' : Value} {w w' w'' : World} (h : WTurn bw v v' w w') (h' : WTurn bw v' v'' w' w'') : WTurn bw v v'' w w'' := by
 refine ⟨h'.os.trans h.os, h'.tape.trans h.tape, h'.output.trans h.output, Nat.le_trans h.size h'.size, fun k hk hn ho => ?_, ?_⟩
 · refine (h'.block k (Nat.lt_of_lt_of_le hk h.size) hn fun e => ?_).trans (h.block k hk hn ho)
   rcases h.new with e' | e'
   · exact ho (e'.symm.trans e)
   · have := e' k e; omega
 · rcases h'.new with e' | e'
   · rcases h.new with e | e
     · exact .inl (e'.trans e)
     · exact .inr fun g hg => e g (e'.symm.trans hg)
   · exact .inr fun g hg => Nat.le_trans h.size (e' g hg)
theorem WTurn.of_below {bw : Nat} {v : Value} {w w' : World} (h : Below w.heap.size w w') : WTurn bw v v w w' := ⟨h.os, h.tape, h.output, h.size, fun k hk _ _ => h.block k hk, .inl rfl⟩
theorem WrAt.below {w w' : World} {bw er room : Nat} {v : Value} {l : List UInt8} (h : WrAt w bw v l er room) (hb : Below w.heap.size w w') : WrAt w' bw v l er room := ⟨(hb.block _ (lt_heap h.at_)).trans h.at_, h.own.below hb⟩
def Wrote (bw : Nat) (v : Value) (l' : List UInt8) (er' room : Nat) (w : World) (e : Ending) (w' : World) : Prop :=
 e = .returned (.pointer (some ⟨bw, 0, none⟩)) ∧ ∃ v', WrAt w' bw v' l' er' room ∧ WTurn bw v v' w w'
theorem newWriter_any (room : Nat) (w : World) : Calls Tryz.prog 41 #[.int .i64 (room : Int)] w fun e w' => e = .returned (.pointer (some ⟨w.heap.size, 0, none⟩)) ∧ WrAt w' w.heap.size (.slice none 0 0) [] 0 room ∧ Below w.heap.size w w' := by
 have hm : ¬ (room : Int) < 0 := by omega
 have hm2 : max (room : Int) 0 = room := by omega
 have hm3 : max 0 (room : Int) = room := by omega
 go_enter Tryz.func41, Tryz.ntmps41
 go_wp2_with fail
 go_ret
 refine ⟨rfl, ⟨?_, OwnE.nil _ _⟩, below_alloc1 _ _⟩
 exact heap_alloc_new _ _
theorem byteF_any (bx : Nat) (x : UInt8) (w : World) (h : BoxIs w bx (.int .u8 (x.toNat : Int)) 5) : Calls Tryz.prog 88 #[.pointer (some ⟨bx, 0, none⟩)] w fun e w' => ∃ v, e = .returned v ∧ OwnE byteC 5 1 w' w.heap.size v [x] ∧ Below w.heap.size w w' := by
 have hc := (cell1 h).1
 clear h
 go_enter Tryz.func88, Tryz.ntmps88
 go_wp2_with fail
 go_ret
 refine ⟨_, rfl, ?_, below_alloc1 _ _⟩
 exact ⟨by simp [byteC], .inr ⟨w.heap.size, 1, #[.int .u8 (x.toNat : Int)], rfl, Nat.le_refl _, heap_alloc_new w _, Nat.le_refl _, by unfold maxLen; omega, rfl, by simp [byteC]⟩⟩
end Go.Proofs.YtbfefdedjcppaaaGreatDoor

/- wire.Writer: field over any closure. -/
namespace Go.Proofs.YtbfefdedjcppaaaGreatDoor
set_option maxRecDepth 100000
set_option maxHeartbeats 8000000
open Go.RowKit
theorem WrAt.cells {w : World} {bw er room : Nat} {v : Value} {l : List UInt8} (h : WrAt w bw v l er room) : w.cell? ⟨bw, 0, none⟩ = some v ∧ w.cell? ⟨bw, 1, none⟩ = some (.int .i64 (er : Int)) ∧ w.cell? ⟨bw, 2, none⟩ = some (.int .i64 (room : Int)) ∧ w.frozen? ⟨bw, 0, none⟩ = false ∧ w.frozen? ⟨bw, 1, none⟩ = false := by
 refine ⟨by rw [cell_blk h.at_]; rfl, by rw [cell_blk h.at_]; rfl, by rw [cell_blk h.at_]; rfl, by simp [World.frozen?, h.at_], by simp [World.frozen?, h.at_]⟩
theorem WrAt.setE {w : World} {bw er room : Nat} {v : Value} {l : List UInt8} (h : WrAt w bw v l er room) (e : Nat) : WrAt (w.setCell ⟨bw, 1, none⟩ (.int .i64 (e : Int))) bw v l e room := by
 refine ⟨heap_setCell_self _ h.at_, h.own.block fun g hg => heap_setCell_other _ ?_⟩
 have := (h.own.lt g hg).1
 omega
theorem wmeet_any (bw room : Nat) (v : Value) (l : List UInt8) (e0 : Nat) (w : World) (h : WrAt w bw v l 0 room) :
   Calls Tryz.prog 123 #[.pointer (some ⟨bw, 0, none⟩), .int .i64 (e0 : Int)] w fun e w' => e = .returned (.tuple #[]) ∧ WrAt w' bw v l e0 room ∧ Turn [bw] w w' := by
 obtain ⟨_, hc1, _, _, hf1⟩ := h.cells
 have H := Lib.hid (h.setE e0)
 clear h
 go_enter Tryz.func123, Tryz.ntmps123
 go_wp2_with fail
 refine bodyPost_end (results_none rfl _ _ _) rfl ?_
 exact ⟨rfl, H.out, Turn.setCell _ _ _ _⟩
theorem OwnE.slat {α : Type} {enc : α → List Value} {k : Nat} (hk : ∀ x, (enc x).length = k) {E : TypeId} {w : World} {base n c : Nat} {q : Option Addr} {xs : List α} (h : OwnE enc E k w base (.slice q n c) xs) : SlAt enc k w q xs := by
 obtain ⟨q', c', e, _, _, hs, _⟩ := h.at hk
 simp only [Value.slice.injEq] at e
 rw [e.1]; exact hs
theorem cell3 {w : World} {b : Nat} {x y z : Value} {T : TypeId} (h : w.heap[b]? = some (.cells #[x, y, z] T (0, 0))) : w.cell? ⟨b, 0, none⟩ = some x ∧ w.frozen? ⟨b, 0, none⟩ = false := by
 refine ⟨by rw [cell_blk h]; rfl, by simp [World.frozen?, h]⟩
theorem field_any (F : FuncId) (caps : Array Value) (hf : ∀ args w, (callFunc F args).run Tryz.prog w = .ok (.enter F args) w) (bw er room : Nat) (v : Value) (l u : List UInt8) (w : World) (h : WrAt w bw v l er room) (hl : l.length ≤ room) (hr : room ≤ 1000000) (hu : u.length ≤ 1000000)
   (KF : er = 0 → Calls Tryz.prog F caps w fun e w' => ∃ vu, e = .returned vu ∧ OwnE byteC 5 1 w' w.heap.size vu u ∧ Below w.heap.size w w') :
   Calls Tryz.prog 87 #[.pointer (some ⟨bw, 0, none⟩), .func (.func F) #[] caps] w (Wrote bw v (if er = 0 ∧ l.length + u.length ≤ room then l ++ u else l) (if er = 0 ∧ room < l.length + u.length then 2 else er) room w) := by
 obtain ⟨hc0, hc1, hc2, hf0, hf1⟩ := h.cells
 have H := Lib.hid h
 by_cases he : er = 0
 · subst he
   have KC := Lib.hid (KF rfl)
   clear h KF
   obtain ⟨ro, rv, hro⟩ := H.out.own.slice
   by_cases hfit : l.length + u.length ≤ room
   · rw [if_pos ⟨rfl, hfit⟩, if_neg (by omega)]
     go_enter Tryz.func87, Tryz.ntmps87
     go_upto_region 4 with ((with_reducible refine KC.out.mono ?_); rintro e w1 ⟨vu, rfl, hvu, hb1⟩; have HU := Lib.hid hvu; have HB1 := Lib.hid hb1; clear hvu hb1)
     have HW1 := Lib.hid (H.out.below HB1.out)
     obtain ⟨qu, cu, hvu⟩ := HU.out.slice
     subst hvu
     have hcmp : ¬ ((room : Int) - (l.length : Int) < (u.length : Int)) := by omega
     have hwr : IntKind.i64.wrap ((room : Int) - (l.length : Int)) = (room : Int) - (l.length : Int) := by rw [IntKind.wrap_i64]; omega
     obtain ⟨hd0, hd1, hd2, hg0, hg1⟩ := HW1.out.cells
     rw [hro] at hd0
     clear hc0 hc1 hc2 hf0 hf1 KC
     have e0 := fun d os => cell_regrown hd0 d os
     have e2 := fun d os => cell_regrown hd2 d os
     refine wp_region_quiet_below (by kernel_rfl) (by kernel_rfl) ?_
     repeat (first | go_big_quiet_skip | go_big_quiet_step (fail))
     refine wpQuiet_nil ?_
     rintro _ ⟨⟨dq, osq⟩, rfl⟩
     have hbg := below_regrown w1 dq osq
     have HW2 := Lib.hid (HW1.out.below hbg)
     have HU2 := Lib.hid (HU.out.below hbg)
     have HB2 := Lib.hid (HB1.out.trans (hbg.mono HB1.out.size))
     clear hbg e0 e2 hd0 hd1 hd2 hg0 hg1
     generalize Sort.grow (redrawn w1 dq) osq = w2 at *
     obtain ⟨hd0, hd1, hd2, hg0, hg1⟩ := HW2.out.cells
     rw [hro] at hd0
     have HSu := Lib.hid (HU2.out.slat byteC_len)
     have HNu := Lib.hid (fun e => HU2.out.none_cap e)
     have HB2s : Hid (bw + 1 ≤ w2.heap.size) := lt_heap HW2.out.at_
     go_wp2_with (first
       | (at_builtin; (refine wl_appO rfl 22 5 1 (.int .u8 0) Tryz.underlying22 infoU8 rfl (by omega) byteC_len byteC_one (.tmp 43) (.tmp 44) rfl (bw + 1) (.slice ro l.length rv) l rfl (by rw [← hro]; exact HW2.out.own) qu u.length cu u rfl rfl HSu.out HNu.out (by omega) (by unfold maxLen; omega) HB2s.out ?_); intro v' w3 hv3 hg3 hn3; obtain ⟨q3, c3, rfl⟩ := hv3.slice; have HV3 := Lib.hid hv3; have HG3 := Lib.hid hg3; have HN3 := Lib.hid hn3; clear hv3 hg3 hn3; have HW3 := Lib.hid ((HG3.out.block bw (lt_heap HW2.out.at_) (fun e => by have h1 := HW2.out.own.lt bw (by rw [hro]; exact e.symm); omega)).trans HW2.out.at_); have hz0 := (cell3 HW3.out).1; have hz1 := (cell3 HW3.out).2))
     go_ret
     refine ⟨rfl, .slice q3 (l.length + u.length) c3, ⟨?_, ?_⟩, ?_⟩
     · exact heap_setCell_self _ HW3.out
     · have hlen : (l ++ u).length = l.length + u.length := List.length_append
       rw [← hlen]
       exact HV3.out.block fun g hg => heap_setCell_other _ (by have := (HV3.out.lt g hg).1; omega)
     · rw [← hro] at HG3 HN3
       have h2 := HB2.out
       have h3 := HG3.out
       refine ⟨h3.os.trans h2.os, h3.tape.trans h2.tape, h3.output.trans h2.output, ?_, fun k hk hn ho => ?_, ?_⟩
       · show w.heap.size ≤ (w3.setCell _ _).heap.size
         have := h2.size; have := h3.size
         simp [World.setCell]; omega
       · rw [heap_setCell_other _ hn]
         exact (h3.block k (Nat.lt_of_lt_of_le hk h2.size) (fun e => ho (by rw [← hro]; exact e.symm))).trans (h2.block k hk)
       · rw [← hro]
         have hlen : (l ++ u).length = l.length + u.length := List.length_append
         rcases HN3.out with e | e
         · exact .inl (by rw [← hlen]; exact e)
         · exact .inr fun g hg => by
             rw [← hlen] at hg
             rw [e] at hg
             cases hg
             exact h2.size
   · rw [if_neg (fun h => hfit h.2), if_pos ⟨rfl, by omega⟩]
     go_enter Tryz.func87, Tryz.ntmps87
     go_upto_region 4 with ((with_reducible refine KC.out.mono ?_); rintro e w1 ⟨vu, rfl, hvu, hb1⟩; have HU := Lib.hid hvu; have HB1 := Lib.hid hb1; clear hvu hb1)
     have HW1 := Lib.hid (H.out.below HB1.out)
     obtain ⟨qu, cu, hvu⟩ := HU.out.slice
     subst hvu
     have hcmp : ((room : Int) - (l.length : Int) < (u.length : Int)) := by omega
     have hwr : IntKind.i64.wrap ((room : Int) - (l.length : Int)) = (room : Int) - (l.length : Int) := by rw [IntKind.wrap_i64]; omega
     obtain ⟨hd0, hd1, hd2, hg0, hg1⟩ := HW1.out.cells
     rw [hro] at hd0
     clear hc0 hc1 hc2 hf0 hf1 KC
     have e0 := fun d os => cell_regrown hd0 d os
     have e2 := fun d os => cell_regrown hd2 d os
     refine wp_region_quiet_below (by kernel_rfl) (by kernel_rfl) ?_
     repeat (first | go_big_quiet_skip | go_big_quiet_step (fail))
     refine wpQuiet_nil ?_
     rintro _ ⟨⟨dq, osq⟩, rfl⟩
     have hbg := below_regrown w1 dq osq
     have HW2 := Lib.hid (HW1.out.below hbg)
     have HU2 := Lib.hid (HU.out.below hbg)
     have HB2 := Lib.hid (HB1.out.trans (hbg.mono HB1.out.size))
     clear hbg e0 e2 hd0 hd1 hd2 hg0 hg1
     generalize Sort.grow (redrawn w1 dq) osq = w2 at *
     have KM := Lib.hid (wmeet_any bw room v l 2 w2 HW2.out)
     go_wp2_with (go_at_call 123; (refine KM.out.mono ?_); rintro e w3 ⟨rfl, hw3, ht3⟩; have HW3 := Lib.hid hw3; have HT3 := Lib.hid ht3; clear hw3 ht3)
     go_ret
     refine ⟨rfl, v, HW3.out, (WTurn.of_below HB2.out).trans ⟨HT3.out.os, HT3.out.tape, HT3.out.output, HT3.out.size, fun k hk hn _ => HT3.out.block k hk (by simpa using hn), .inl rfl⟩⟩
 · have he' : ((er : Int) == 0) = false := by simpa using he
   rw [if_neg (fun h => he h.1), if_neg (fun h => he h.1)]
   clear h KF he
   go_enter Tryz.func87, Tryz.ntmps87
   go_wp2_with fail
   go_ret
   exact ⟨rfl, v, H.out, WTurn.refl _ _ _⟩
end Go.Proofs.YtbfefdedjcppaaaGreatDoor

/- wire.Writer: Byte, Bytes. -/
namespace Go.Proofs.YtbfefdedjcppaaaGreatDoor
set_option maxRecDepth 100000
set_option maxHeartbeats 8000000
open Go.RowKit
def wStep (room : Nat) (s : List UInt8 × Nat) (u : List UInt8) : List UInt8 × Nat := (if s.2 = 0 ∧ s.1.length + u.length ≤ room then s.1 ++ u else s.1, if s.2 = 0 ∧ room < s.1.length + u.length then 2 else s.2)
theorem wStep_le {room : Nat} {s : List UInt8 × Nat} {u : List UInt8} (h : s.1.length ≤ room) : (wStep room s u).1.length ≤ room := by
 unfold wStep; simp only; split
 · rename_i h1; rw [List.length_append]; exact h1.2
 · exact h
def wBytes (room : Nat) (s : List UInt8 × Nat) (xs : List UInt8) : List UInt8 × Nat := xs.foldl (fun s b => wStep room s [b]) s
theorem wBytes_le {room : Nat} (xs : List UInt8) : ∀ {s : List UInt8 × Nat}, s.1.length ≤ room → (wBytes room s xs).1.length ≤ room := by
 induction xs with
 | nil => intro s h; exact h
 | cons b xs ih => intro s h; exact ih (wStep_le h)
theorem wBytes_take {room : Nat} {s : List UInt8 × Nat} {xs : List UInt8} {k : Nat} (h : k < xs.length) : wBytes room s (xs.take (k + 1)) = wStep room (wBytes room s (xs.take k)) [xs[k]] := by
 unfold wBytes
 rw [List.take_succ_eq_append_getElem h, List.foldl_append]; rfl
theorem SlAt.wturn {bw : Nat} {v v' : Value} {w w' : World} {q : Option Addr} {xs : List UInt8} (h : SlAt byteC 1 w q xs) (ht : WTurn bw v v' w w') (hne : ∀ a, q = some a → a.block ≠ bw ∧ v.ownBlock ≠ some a.block) : SlAt byteC 1 w' q xs := fun i hi => by
 obtain ⟨b, o, e, hb, hr⟩ := h i hi
 have := hne _ e
 exact ⟨b, o, e, Nat.lt_of_lt_of_le hb ht.size, range_of_block hr (ht.block b hb this.1 this.2)⟩
structure BySt (w W : World) (bw : Nat) (v0 v : Value) (q : Option Addr) (xs : List UInt8) (s : List UInt8 × Nat) (room : Nat) : Prop where
 wr : WrAt W bw v s.1 s.2 room
 tn : WTurn bw v0 v w W
 sl : SlAt byteC 1 W q xs
 ne : ∀ a, q = some a → a.block ≠ bw ∧ v.ownBlock ≠ some a.block
 lt : ∀ a, q = some a → xs ≠ [] → a.block < w.heap.size
theorem BySt.below {w W W' : World} {bw room : Nat} {v0 v : Value} {q : Option Addr} {xs : List UInt8} {s : List UInt8 × Nat} (h : BySt w W bw v0 v q xs s room) (hb : Below W.heap.size W W') : BySt w W' bw v0 v q xs s room :=
 ⟨h.wr.below hb, h.tn.trans (WTurn.of_below hb), h.sl.below hb, h.ne, h.lt⟩
theorem BySt.step {w W W' : World} {bw room : Nat} {v0 v : Value} {q : Option Addr} {xs u : List UInt8} {s : List UInt8 × Nat} {e : Ending} (h : BySt w W bw v0 v q xs s room) (hx : xs ≠ []) (hs : Wrote bw v (wStep room s u).1 (wStep room s u).2 room W e W') : ∃ v', BySt w W' bw v0 v' q xs (wStep room s u) room := by
 obtain ⟨_, v', h1, h2⟩ := hs
 refine ⟨v', h1, h.tn.trans h2, h.sl.wturn h2 h.ne, fun a ha => ⟨(h.ne a ha).1, fun e => ?_⟩, h.lt⟩
 rcases h2.new with e' | e'
 · exact (h.ne a ha).2 (e'.symm.trans e)
 · have := e' _ e
   have := h.lt a ha hx
   have := h.tn.size
   omega
theorem wbyte_any (bw room : Nat) (v : Value) (l : List UInt8) (er : Nat) (q : Option Addr) (xs : List UInt8) (n c : Nat) (w : World) (h : WrAt w bw v l er room) (hl : l.length ≤ room) (hr : room ≤ 1000000) (hq : SlAt byteC 1 w q xs) (hn : xs.length = n) (hne : ∀ a, q = some a → a.block ≠ bw ∧ v.ownBlock ≠ some a.block) (hsz : n ≤ 1000000) :
   Calls Tryz.prog 42 #[.pointer (some ⟨bw, 0, none⟩), .slice q n c] w (Wrote bw v (wBytes room (l, er) xs).1 (wBytes room (l, er) xs).2 room w) := by
 have HS0 : Hid (BySt w w bw v v q xs (l, er) room) := ⟨h, WTurn.refl _ _ _, hq, hne, fun a ha hx => by
   obtain ⟨b, o, e, hb, _⟩ := hq 0 (by cases xs with | nil => exact absurd rfl hx | cons a r => simp)
   rw [ha] at e
   cases e; exact hb⟩
 have HLe : Hid (∀ k, (wBytes room (l, er) (xs.take k)).1.length ≤ room) := fun k => wBytes_le (s := (l, er)) _ hl
 have HT : Hid (∀ k (h : k < xs.length), wBytes room (l, er) (xs.take (k + 1)) = wStep room (wBytes room (l, er) (xs.take k)) [xs[k]]) := fun k h => wBytes_take h
 have HN := Lib.hid hn
 clear h hq hne hl hn
 go_enter Tryz.func42, Tryz.ntmps42
 go_wp2_with fail
 go_loopw [9] (fun i wr => ∃ (k : Nat) (v' : Value), k ≤ n ∧ i = .int .i64 (k : Int) ∧ Hid (BySt w wr bw v v' q xs (wBytes room (l, er) (xs.take k)) room)) (fun i _ => n - (intOf i).toNat)
 case atStart => exact ⟨0, v, Nat.zero_le _, rfl, HS0.out⟩
 case round =>
   obtain ⟨k, v', hk, rfl, HS1⟩ := hrel
   clear HS0
   by_cases hlt : k < n
   · have hlx : k < xs.length := by rw [HN.out]; exact hlt
     have hlt' : (k : Int) < (n : Int) := by omega
     obtain ⟨b, o, rfl, hb, hrg⟩ := HS1.out.sl k hlx
     have hc := hrg 0 (.int .u8 ((xs[k]).toNat : Int)) rfl
     simp only [Nat.add_zero, Nat.mul_one] at hc
     have HTk := Lib.hid (HT.out k hlx)
     have HLk := Lib.hid (HLe.out k)
     generalize wBytes room (l, er) (xs.take k) = s at *
     generalize xs[k] = x at *
     clear hrg
     have hxne : xs ≠ [] := fun e => by rw [e] at hlx; exact absurd hlx (by simp)
     have HS2 := Lib.hid (HS1.out.below (below_alloc1 wr (.cells #[.int .u8 (x.toNat : Int)] 5)))
     have HX2 : Hid (BoxIs (wr.alloc (.cells #[.int .u8 (x.toNat : Int)] 5)) wr.heap.size (.int .u8 (x.toNat : Int)) 5) := heap_alloc_new _ _
     go_upto_region 4 with fail
     generalize wr.alloc (.cells #[.int .u8 (x.toNat : Int)] 5) = W2 at *
     generalize wr.heap.size = bx at *
     have KF : Hid (Calls Tryz.prog 87 #[.pointer (some ⟨bw, 0, none⟩), .func (.func 88) #[] #[.pointer (some ⟨bx, 0, none⟩)]] W2 (Wrote bw v' (wStep room s [x]).1 (wStep room s [x]).2 room W2)) := field_any 88 #[.pointer (some ⟨bx, 0, none⟩)] (enters_of Tryz.func88 (by kernel_rfl) rfl) bw s.2 room v' s.1 [x] W2 HS2.out.wr HLk.out hr (by simp) (fun _ => byteF_any bx x W2 HX2.out)
     clear hc HS1
     go_wp2_with (go_at_call 87; (refine KF.out.mono ?_); rintro e w3 hW; obtain ⟨v3, hs3⟩ := HS2.out.step hxne hW; have HS3 := Lib.hid hs3; obtain ⟨rfl, _⟩ := hW; clear hs3)
     rw [← HTk.out] at HS3
     go_roundw
     case rel => exact ⟨k + 1, v3, by omega, by simp, HS3.out⟩
     case measure => simp [intOf]; omega
   · obtain rfl : n = k := by omega
     have hlt' : ¬ (n : Int) < (n : Int) := by omega
     go_wp2_with fail
     go_ret
     have hs := HS1.out
     rw [List.take_of_length_le (by rw [HN.out]; exact Nat.le_refl _)] at hs
     exact ⟨rfl, v', hs.wr, hs.tn⟩
end Go.Proofs.YtbfefdedjcppaaaGreatDoor

/- digit.Small: its closure. -/
namespace Go.Proofs.YtbfefdedjcppaaaGreatDoor
set_option maxRecDepth 100000
set_option maxHeartbeats 8000000
open Go.RowKit
theorem small1_any (B : Nat) (v : Value) (ys : List UInt8) (n : Nat) (w : World) (hv : OwnE byteC 5 1 w B v ys) (hB : B ≤ w.heap.size) (hn : n < 2 ^ 64) (hl : ys.length + (small n).length ≤ 1000000) :
   Calls Tryz.prog 139 #[v, .int .u64 (n : Int)] w fun e w' => ∃ v', e = .returned v' ∧ OwnE byteC 5 1 w' B v' (ys ++ small n) ∧ Below B w w' := by
 have HV := Lib.hid hv
 have HL := Lib.hid hl
 clear hv hl
 go_enter Tryz.func139, Tryz.ntmps139
 go_upto_region 1 with fail
 go_loopw [0, 1] (fun u i wr => ∃ (m : Nat) (pre : List UInt8), i = .int .u64 (m : Int) ∧ m < 2 ^ 64 ∧ Hid (pre ++ small m = ys ++ small n) ∧ Hid (OwnE byteC 5 1 wr B u pre) ∧ Hid (Below B w wr)) (fun _ i _ => (intOf i).toNat)
 case atStart => exact ⟨n, ys, rfl, hn, rfl, HV.out, Below.refl _ _⟩
 case round =>
   obtain ⟨m, pre, rfl, hm, HE, HO, HB⟩ := hrel
   obtain ⟨q, c, rfl⟩ := HO.out.slice
   have hlen : pre.length + (small m).length ≤ 1000000 := by
     have h1 := congrArg List.length HE.out
     rw [List.length_append, List.length_append] at h1
     have := HL.out
     omega
   have hps := small_pos m
   by_cases hlt : 128 ≤ m
   · have hlt' : (128 : Int) ≤ m := by omega
     obtain ⟨x, hx⟩ : ∃ x : UInt8, UInt8.ofNat (m % 128 + 128) = x := ⟨_, rfl⟩
     have hor : bits .or .u8 ((m : Int) % 256) 128 = (x.toNat : Int) := by
       have h1 := or128 (m % 256) (by omega)
       rw [show ((m : Int) % 256) = ((m % 256 : Nat) : Int) by omega, h1, ← hx]
       have : (UInt8.ofNat (m % 128 + 128)).toNat = m % 128 + 128 := by rw [UInt8.toNat_ofNat']; omega
       rw [this]; omega
     have HXe : Hid (bits .or .u8 ((m : Int) % 256) 128 = (x.toNat : Int)) := hor
     have HSm : Hid (small m = x :: small (m / 128)) := by show _ = _; rw [small_ge hlt, hx]
     clear hor
     go_upto_region 3 with (at_builtin; (refine wl_app1 22 5 1 (.int .u8 0) Tryz.underlying22 infoU8 rfl (by omega) byteC_len byteC_one rfl (.tmp 7) (.tmp 11) rfl B (.slice q pre.length c) pre rfl (HO.out.below (below_alloc1 _ _)) wr.heap.size 1 x rfl (by rw [show byteC x = [.int .u8 (bits .or .u8 ((m : Int) % 256) 128)] by rw [HXe.out]; rfl]; exact range_whole (heap_alloc_new _ _)) (by omega) (by unfold maxLen; omega) (by have := HB.out.size; simp; omega) ?_); intro v2 w2 hv2 hg2; have HV2 := Lib.hid hv2; have HB2 : Hid (Below B w w2) := HB.out.trans (((below_alloc1 wr _).mono (Nat.le_trans hB HB.out.size)).trans (grown_below hg2 (fun g hg => (HO.out.lt g hg).1) (by have := HB.out.size; simp; omega))); clear hv2 hg2)
     go_wp2_with fail
     go_roundw
     case rel => exact ⟨m / 128, pre ++ [x], by simp, by omega, by show _ = _; rw [List.append_assoc]; show pre ++ (x :: small (m / 128)) = _; rw [← HSm.out]; exact HE.out, HV2.out, HB2.out⟩
     case measure => simp [intOf]; omega
   · have hlt' : ¬ (128 : Int) ≤ m := by omega
     obtain ⟨x, hx⟩ : ∃ x : UInt8, UInt8.ofNat m = x := ⟨_, rfl⟩
     have HXe : Hid ((m : Int) = (x.toNat : Int)) := by
       show _ = _
       have : (UInt8.ofNat m).toNat = m := by rw [UInt8.toNat_ofNat']; omega
       rw [← hx, this]
     have HSm : Hid (small m = [x]) := by show _ = _; rw [small_lt (by omega), hx]
     go_wp2_with (at_builtin; (refine wl_app1 22 5 1 (.int .u8 0) Tryz.underlying22 infoU8 rfl (by omega) byteC_len byteC_one rfl (.tmp 15) (.tmp 18) rfl B (.slice q pre.length c) pre rfl (HO.out.below (below_alloc1 _ _)) wr.heap.size 1 x rfl (by rw [show byteC x = [.int .u8 (m : Int)] by rw [HXe.out]; rfl]; exact range_whole (heap_alloc_new _ _)) (by omega) (by unfold maxLen; omega) (by have := HB.out.size; simp; omega) ?_); intro v2 w2 hv2 hg2; have HV2 := Lib.hid hv2; have HB2 : Hid (Below B w w2) := HB.out.trans (((below_alloc1 wr _).mono (Nat.le_trans hB HB.out.size)).trans (grown_below hg2 (fun g hg => (HO.out.lt g hg).1) (by have := HB.out.size; simp; omega))); clear hv2 hg2)
     go_ret
     exact ⟨v2, rfl, by rw [← HE.out, HSm.out]; exact HV2.out, HB2.out⟩
end Go.Proofs.YtbfefdedjcppaaaGreatDoor

/- digit.row, digit.Small of one number. -/
namespace Go.Proofs.YtbfefdedjcppaaaGreatDoor
set_option maxRecDepth 100000
set_option maxHeartbeats 8000000
open Go.RowKit
theorem row1_any (b o c n : Nat) (w : World) (hc : w.cell? ⟨b, o, none⟩ = some (.int .u64 (n : Int))) (hn : n < 2 ^ 64) (hl : (small n).length ≤ 1000000) :
   Calls Tryz.prog 138 #[.slice (some ⟨b, o, none⟩) 1 c, .func (.func 139) #[] #[]] w fun e w' => ∃ v, e = .returned v ∧ OwnE byteC 5 1 w' w.heap.size v (small n) ∧ Below w.heap.size w w' := by
 have hf : ∀ args w, (callFunc 139 args).run Tryz.prog w = .ok (.enter 139 args) w := enters_of Tryz.func139 (by kernel_rfl) rfl
 have KS : Hid (Calls Tryz.prog 139 #[.slice none 0 0, .int .u64 (n : Int)] w fun e w' => ∃ v', e = .returned v' ∧ OwnE byteC 5 1 w' w.heap.size v' ([] ++ small n) ∧ Below w.heap.size w w') := small1_any w.heap.size (.slice none 0 0) [] n w (OwnE.nil _ _) (Nat.le_refl _) hn (by simpa using hl)
 clear hn hl
 go_enter Tryz.func138, Tryz.ntmps138
 go_wp2_with fail
 go_loopw [5, 10] (fun v i wr => (i = .int .i64 0 ∧ v = .slice none 0 0 ∧ wr = w) ∨ (i = .int .i64 1 ∧ Hid (OwnE byteC 5 1 wr w.heap.size v (small n)) ∧ Hid (Below w.heap.size w wr))) (fun _ i _ => 1 - (intOf i).toNat)
 case atStart => exact .inl ⟨rfl, rfl, rfl⟩
 case round =>
   rcases hrel with ⟨rfl, rfl, rfl⟩ | ⟨rfl, HO, HB⟩
   · go_wp2_with (go_at_call 139; (refine KS.out.mono ?_); rintro e w2 ⟨v2, rfl, hv2, hb2⟩; have HV2 := Lib.hid hv2; have HB2 := Lib.hid hb2; clear hv2 hb2)
     go_roundw
     case rel => exact .inr ⟨rfl, HV2.out, HB2.out⟩
     case measure => simp [intOf]
   · go_wp2_with fail
     go_ret
     exact ⟨_, rfl, HO.out, HB.out⟩
theorem small_any (b o c n : Nat) (w : World) (hc : w.cell? ⟨b, o, none⟩ = some (.int .u64 (n : Int))) (hn : n < 2 ^ 64) (hl : (small n).length ≤ 1000000) :
   Calls Tryz.prog 110 #[.slice (some ⟨b, o, none⟩) 1 c] w fun e w' => ∃ v, e = .returned v ∧ OwnE byteC 5 1 w' w.heap.size v (small n) ∧ Below w.heap.size w w' := by
 have KR := Lib.hid (row1_any b o c n w hc hn hl)
 clear hc hn hl
 go_enter Tryz.func110, Tryz.ntmps110
 go_wp2_with (go_at_call 138; (refine KR.out.mono ?_); rintro e w2 ⟨v2, rfl, hv2, hb2⟩; have HV2 := Lib.hid hv2; have HB2 := Lib.hid hb2; clear hv2 hb2)
 go_ret
 exact ⟨_, rfl, HV2.out, HB2.out⟩
end Go.Proofs.YtbfefdedjcppaaaGreatDoor

/- wire.Writer: Text's closure. -/
namespace Go.Proofs.YtbfefdedjcppaaaGreatDoor
set_option maxRecDepth 100000
set_option maxHeartbeats 8000000
open Go.RowKit
theorem exec_lenS {o : Oper} {a : Act} {w : World} (x : Operand) (ho : o.op = .call { callee := .builtin .len, args := #[x], argTypes := #[9] }) (s : ByteArray) (hx : a.eval x = .string s) : (execOp a.eval o).run Tryz.prog w = .ok (.value (.int .i64 (s.size : Int))) w := by
 unfold execOp
 simp only [ho, resolve, invoke, builtin, Sem.run_bind, Sem.run_pure, Result.andThen_ok, List.map_toArray, List.map_cons, List.map_nil, hx]
 simp [go_sem, Tryz.underlying9, goInt]
theorem exec_cvIU {o : Oper} {a : Act} {w : World} (x : Operand) (ho : o.op = .convert 3 60 x) (n : Nat) (hn : n < 2 ^ 63) (hx : a.eval x = .int .i64 (n : Int)) : (execOp a.eval o).run Tryz.prog w = .ok (.value (.int .u64 (n : Int))) w := by
 unfold execOp
 simp only [ho, hx]
 have e : IntKind.u64.wrap (n : Int) = (n : Int) := wrap64 (by omega)
 simp [go_sem, Tryz.underlying60, Tryz.underlying3, e]
theorem exec_bs64 {o : Oper} {a : Act} {w : World} (x : Operand) (ho : o.op = .buildSlice 216 1 #[(0, x)]) (v : Value) (hv : v.oneCell' = true) (hx : a.eval x = v) : (execOp a.eval o).run Tryz.prog w = .ok (.value (.slice (some ⟨w.heap.size, 0, none⟩) 1 1)) (w.alloc (.cells #[v] 60)) := by
 have hb : (Instr.buildSlice 216 1 #[(0, v)]).run Tryz.prog w = .ok (.slice (some ⟨w.heap.size, 0, none⟩) 1 1) (w.alloc (.cells #[v] 60)) := by
   cases v <;> first | (cases hv; done) | simp [go_sem, Tryz.underlying216]
 unfold execOp
 simp only [ho, List.map_toArray, List.map_cons, List.map_nil, hx, Sem.run_bind, hb]
 rfl
theorem strCells_enc (s : ByteArray) : Go.Lib.strCells s = s.data.toList.flatMap byteC := by
 unfold Go.Lib.strCells
 generalize s.data.toList = l
 induction l with
 | nil => rfl
 | cons a l ih => rw [List.map_cons, List.flatMap_cons, ih]; rfl
theorem exec_appS {P : Program} {o : Oper} {a : Act} {w w' : World} {v v' : Value} {s : ByteArray} {t u : TypeId} (sl x : Operand) (ho : o.op = .call { callee := .builtin .append, args := #[sl, x], argTypes := #[t, u] }) (hs : a.eval sl = v) (hx : a.eval x = .string s) (hr : (Builtin.append_ #[t, u] o.type #[v, .string s]).run P w = .ok v' w') : (execOp a.eval o).run P w = .ok (.value v') w' := by
 unfold execOp
 simp only [ho, resolve, invoke, builtin, Sem.run_bind, Sem.run_pure, Result.andThen_ok, List.map_toArray, List.map_cons, List.map_nil, hs, hx, hr]
theorem small_le2 {n : Nat} (h : n ≤ 10000) : (small n).length ≤ 2 := by
 by_cases h1 : n < 128
 · rw [small_lt h1]; simp
 · rw [small_ge (by omega), small_lt (by omega)]; simp
theorem textF_any (bx : Nat) (s : ByteArray) (w : World) (h : BoxIs w bx (.string s) 9) (hs : s.size ≤ 10000) : Calls Tryz.prog 109 #[.pointer (some ⟨bx, 0, none⟩)] w fun e w' => ∃ v, e = .returned v ∧ OwnE byteC 5 1 w' w.heap.size v (small s.size ++ s.data.toList) ∧ Below w.heap.size w w' := by
 have HX := Lib.hid h
 have hlb := lt_heap h
 clear h
 go_enter Tryz.func109, Tryz.ntmps109
 go_upto_region 1 with fail
 refine wp_region_held_drew (S := fun W => W.heap[bx]? = w.heap[bx]?) (by kernel_rfl) rfl (fun hH => ?_)
 show wpAnyH Tryz.prog Region.Mode.any _ _ _ 8 #[false, false, false, false, false, false, false, false] _ _
 refine takeR (i := 0) (v := .string s) 2 rfl rfl (by kernel_rfl) (by kernel_rfl) (by kernel_rfl) (fun _ _ _ h => h) (Or.inl ⟨rfl, fun w' hS => exec_ld1G 9 ag9 _ rfl bx 0 _ rfl (cell1 (hS.trans HX.out)).1⟩) hH ?_
 simp only [Act.put, wrT]
 refine takeR (i := 5) (v := .string s) 7 rfl rfl (by kernel_rfl) (by kernel_rfl) (by kernel_rfl) (fun _ _ _ h => h) (Or.inl ⟨rfl, fun w' hS => exec_ld1G 9 ag9 _ rfl bx 0 _ rfl (cell1 (hS.trans HX.out)).1⟩) hH ?_
 simp only [Act.put, wrT]
 refine takeR (i := 1) (v := .int .i64 (s.size : Int)) 3 rfl rfl (by kernel_rfl) (by kernel_rfl) (by kernel_rfl) (fun _ _ _ h => h) (Or.inl ⟨rfl, fun w' hS => exec_lenS (.tmp 2) rfl s rfl⟩) hH ?_
 simp only [Act.put, wrT]
 refine takeR (i := 2) (v := .int .u64 (s.size : Int)) 4 rfl rfl (by kernel_rfl) (by kernel_rfl) (by kernel_rfl) (fun _ _ _ h => h) (Or.inl ⟨rfl, fun w' hS => exec_cvIU (.tmp 3) rfl s.size (by omega) rfl⟩) hH ?_
 simp only [Act.put, wrT]
 have hb1 : Below w.heap.size w (w.drew.alloc (.cells #[.int .u64 (s.size : Int)] 60)) := (show Below w.heap.size w w.drew from ⟨rfl, rfl, rfl, Nat.le_refl _, fun _ _ => rfl⟩).trans (below_alloc1 w.drew _)
 have hc1 : (w.drew.alloc (.cells #[.int .u64 (s.size : Int)] 60)).cell? ⟨w.heap.size, 0, none⟩ = some (.int .u64 (s.size : Int)) := by
   have hg : (w.drew.alloc (.cells #[.int .u64 (s.size : Int)] 60)).heap[w.heap.size]? = some (.cells #[.int .u64 (s.size : Int)] 60 (0, 0)) := heap_alloc_new w.drew _
   rw [cell_blk hg]; rfl
 have hsl := small_le2 hs
 have KS := Lib.hid (small_any w.heap.size 0 1 s.size _ hc1 (by omega) (by omega))
 refine oneH 3 (by kernel_rfl) (wpOp_val rfl rfl (exec_bs64 (.tmp 4) rfl (.int .u64 (s.size : Int)) rfl rfl) ?_)
 refine ⟨hb1.block _ hlb, ?_⟩
 simp only [Act.put, rdT, wrT]
 refine oneH 4 (by kernel_rfl) (wpOp_call rfl rfl (exec_calls rfl (enters_of Tryz.func110 (by kernel_rfl) rfl) (vs := #[.slice (some ⟨w.heap.size, 0, none⟩) 1 1]) (by simp [Act.eval]) _) KS.out (fun e w2 hR => ?_))
 obtain ⟨v2, rfl, hv2, hb2⟩ := hR
 have hB2 : Below w.heap.size w w2 := hb1.trans (hb2.mono hb1.size)
 refine ⟨_, rfl, hB2.block _ hlb, ?_⟩
 simp only [Act.put, rdT, wrT]
 obtain ⟨i, hi, hz, hsz, hby⟩ := info_parts infoU8
 obtain ⟨v3, w3, hr3, ho3, hg3, _⟩ := Go.Lib.run_append_own_string (P := Tryz.prog) w2 _ 22 9 22 5 i Tryz.underlying22 Tryz.underlying9 hi hz hsz hby v2 _ _ hv2 s (by unfold maxLen; omega) (by omega) hb2.size
 have hB3 : Below w.heap.size w w3 := hB2.trans (grown_below hg3 (fun g hg => Nat.le_trans hb1.size (OwnE.lt hv2 g hg).1) hB2.size)
 refine oneH 6 (by kernel_rfl) (wpOp_val rfl rfl (exec_appS (.tmp 6) (.tmp 7) rfl rfl rfl hr3) ?_)
 refine ⟨hB3.block _ hlb, ?_⟩
 simp only [Act.put, rdT, wrT]
 refine oneH 7 (by kernel_rfl) (wpOp_as rfl rfl (.tmp 8) rfl v3 rfl ?_)
 refine ⟨hB3.block _ hlb, ?_⟩
 simp only [Act.put, rdT, wrT]
 refine wpAnyH_done (by kernel_rfl) ?_ _
 go_wp2_with fail
 go_ret
 refine ⟨v3, rfl, ?_, hB3⟩
 have hO : OwnE byteC 5 1 w3 (w.drew.alloc (.cells #[.int .u64 (s.size : Int)] 60)).heap.size v3 (small s.size ++ s.data.toList) := by
   unfold OwnE
   rw [List.flatMap_append, ← strCells_enc, List.length_append]
   exact ho3
 exact hO.base hb1.size
end Go.Proofs.YtbfefdedjcppaaaGreatDoor

/- wire.Writer: Text, Bytes. -/
namespace Go.Proofs.YtbfefdedjcppaaaGreatDoor
set_option maxRecDepth 100000
set_option maxHeartbeats 4000000
open Go.RowKit
theorem wtext_any (bw room : Nat) (v : Value) (l : List UInt8) (er : Nat) (s : ByteArray) (w : World) (h : WrAt w bw v l er room) (hl : l.length ≤ room) (hr : room ≤ 1000000) (hs : s.size ≤ 10000) :
   Calls Tryz.prog 58 #[.pointer (some ⟨bw, 0, none⟩), .string s] w (Wrote bw v (wStep room (l, er) (small s.size ++ s.data.toList)).1 (wStep room (l, er) (small s.size ++ s.data.toList)).2 room w) := by
 have hb := below_alloc1 w (.cells #[.string s] 9)
 have hX : BoxIs (w.alloc (.cells #[.string s] 9)) w.heap.size (.string s) 9 := heap_alloc_new _ _
 have hsl := small_le2 hs
 have hsz : s.data.toList.length = s.size := by rw [Array.length_toList]; rfl
 have KF : Hid (Calls Tryz.prog 87 #[.pointer (some ⟨bw, 0, none⟩), .func (.func 109) #[] #[.pointer (some ⟨w.heap.size, 0, none⟩)]] (w.alloc (.cells #[.string s] 9)) (Wrote bw v (wStep room (l, er) (small s.size ++ s.data.toList)).1 (wStep room (l, er) (small s.size ++ s.data.toList)).2 room (w.alloc (.cells #[.string s] 9)))) := field_any 109 #[.pointer (some ⟨w.heap.size, 0, none⟩)] (enters_of Tryz.func109 (by kernel_rfl) rfl) bw er room v l (small s.size ++ s.data.toList) _ (h.below hb) hl hr (by rw [List.length_append, hsz]; omega) (fun _ => textF_any w.heap.size s _ hX hs)
 have HB := Lib.hid hb
 clear h hb hX hl
 go_enter Tryz.func58, Tryz.ntmps58
 go_wp2_with (go_at_call 87; (refine KF.out.mono ?_); rintro e w3 ⟨rfl, v3, hw3, ht3⟩; have HW3 := Lib.hid hw3; have HT3 := Lib.hid ht3; clear hw3 ht3)
 go_ret
 exact ⟨rfl, v3, HW3.out, (WTurn.of_below HB.out).trans HT3.out⟩
theorem wbytes_any (bw room : Nat) (v : Value) (l : List UInt8) (er : Nat) (w : World) (h : WrAt w bw v l er room) (hl : l.length ≤ 1000000) :
   Calls Tryz.prog 45 #[.pointer (some ⟨bw, 0, none⟩)] w fun e w' => ∃ v', e = .returned (.tuple #[v', .int .i64 (er : Int)]) ∧ OwnE byteC 5 1 w' w.heap.size v' (if er = 0 then l else []) ∧ Below w.heap.size w w' := by
 obtain ⟨hc0, hc1, _, _, _⟩ := h.cells
 obtain ⟨q, c, hv⟩ := h.own.slice
 have HO := Lib.hid h.own
 by_cases he : er = 0
 · subst he
   rw [if_pos rfl]
   subst hv
   have KC := Lib.hid (cloneB_any q l.length c l w rfl (h.own.slat byteC_len) (fun e => by
     have h1 := h.own.none_cap e
     have h2 := h.own.cap_le
     exact ⟨by omega, h1⟩) hl)
   clear h hl HO
   go_enter Tryz.func45, Tryz.ntmps45
   go_wp2_with (go_at_call 69; (refine KC.out.mono ?_); rintro e w2 ⟨v2, rfl, hv2, hb2⟩; have HV2 := Lib.hid hv2; have HB2 := Lib.hid hb2; clear hv2 hb2)
   refine bodyPost_ret (results_tmp2 rfl _ _ _) rfl ?_
   exact ⟨_, rfl, HV2.out, HB2.out⟩
 · rw [if_neg he]
   have he' : ((er : Int) == 0) = false := by simpa using he
   have e1 := fun d os => cell_regrown hc1 d os
   clear h hl HO hv hc0
   go_enter Tryz.func45, Tryz.ntmps45
   go_upto_region 4 with fail
   refine wp_region_quiet_below (by kernel_rfl) (by kernel_rfl) ?_
   repeat (first | go_big_quiet_skip | go_big_quiet_step (fail))
   refine wpQuiet_nil ?_
   rintro _ ⟨⟨dq, osq⟩, rfl⟩
   have hbg := below_regrown w dq osq
   go_wp2_with fail
   refine bodyPost_ret (results_tmp2 rfl _ _ _) rfl ?_
   exact ⟨_, rfl, OwnE.nil _ _, hbg⟩
end Go.Proofs.YtbfefdedjcppaaaGreatDoor

/- request.order: an order is written (plain part, and the rows of an order in memory). -/
namespace Go.Proofs.YtbfefdedjcppaaaGreatDoor
open Go.RowKit
def lowB (n : Int) : UInt8 := UInt8.ofNat (n % 256).toNat
def numO (o : OpD) (c : UInt8) : Int := if c = 98 then o.n3 else if c = 116 then o.n4 else if c = 110 then o.n5 else o.n6
def isNum (c : UInt8) : Bool := c == 98 || c == 116 || c == 110 || c == 109
def fieldO (o : OpD) (c : UInt8) : List UInt8 :=
 if isNum c then [lowB (numO o c)] else
 let s := if c = 97 then textL o.name else if c = 103 then textB o.tag else o.text.data.toList
 small s.length ++ s
def wOrder (room : Nat) (s : List UInt8 × Nat) (o : OpD) : List UInt8 × Nat :=
 (usesL o.n0.toNat).foldl (fun s c => wStep room s (fieldO o c)) (wBytes room s [lowB o.n0, lowB o.n1, lowB o.n2])
theorem lowB_eq (n : Int) : ((lowB n).toNat : Int) = n % 256 := by
 unfold lowB
 rw [UInt8.toNat_ofNat']
 omega
theorem wrap_low (n : Int) : IntKind.u8.wrap n = ((lowB n).toNat : Int) := by rw [IntKind.wrap_u8, lowB_eq]
theorem slAt_new {w : World} {g : Nat} {xs : List UInt8} (h : w.heap[g]? = some (.cells (bC xs) 5 (0, 0))) : SlAt byteC 1 w (some ⟨g, 0, none⟩) xs := fun i hi => by
 refine ⟨g, 0, rfl, lt_heap h, fun j v hv => ?_⟩
 have hj : j = 0 := by
   have := (List.getElem?_eq_some_iff.1 hv).1
   simp [byteC] at this; omega
 subst hj
 have e : v = .int .u8 ((xs[i]).toNat : Int) := by simpa [byteC] using hv.symm
 subst e
 rw [cell_blk h]
 simp [bC, hi]
end Go.Proofs.YtbfefdedjcppaaaGreatDoor

/- request.order, written: where the loop stands. -/
namespace Go.Proofs.YtbfefdedjcppaaaGreatDoor
open Go.RowKit
theorem textB_le (b : List UInt8) (hb : b.length = 10) : (textB b).length ≤ 32 := by
 unfold textB; split
 · exact plainL_len b hb
 · simp
theorem textL_le (l : List UInt8) (hl : l.length = 12) : (textL l).length ≤ 12 := by
 unfold textL; split
 · have := front_length l; omega
 · simp
theorem WTurn.mx {bw : Nat} {v v' : Value} {w w' : World} (ht : WTurn bw v v' w w') (h : MX w) (hg : 0 < bw) (ho : ∀ g, v.ownBlock = some g → bw < g) : MX w' := by
 obtain ⟨m, hm⟩ := h
 exact ⟨m, (cell_of (ht.block _ (World.block_lt_of_cell? _ _ hm) (Nat.ne_of_lt hg) fun e => Nat.lt_asymm hg (ho _ e)) 0).trans hm⟩
structure OwSt (w W : World) (bw room g b4 it : Nat) (v0 v : Value) (o : OpD) (u : ByteArray) (pos : Nat) (s : List UInt8 × Nat) : Prop where
 wr : WrAt W bw v s.1 s.2 room
 tn : WTurn bw v0 v w W
 og : W.heap[g]? = some (.cells (opC o).toArray 30 (0, 0))
 bx : BoxIs W b4 (.pointer (some ⟨g, 0, none⟩)) 93
 it_ : W.heap[it]? = some (.stringIter u pos)
 le : s.1.length ≤ room
 mx : MX W
 ne : it ≠ g ∧ it ≠ b4
 bl : bw ≠ g ∧ bw ≠ b4 ∧ bw ≠ it
 up : w.heap.size ≤ it
 ow : v.ownBlock ≠ some g ∧ v.ownBlock ≠ some b4 ∧ v.ownBlock ≠ some it
 hg : 0 < bw
theorem WrAt.up {w : World} {bw er room : Nat} {v : Value} {l : List UInt8} (h : WrAt w bw v l er room) (g : Nat) (hg : v.ownBlock = some g) : bw < g := (h.own.lt g hg).1
theorem OwSt.below {w W W' : World} {bw room g b4 it pos : Nat} {v0 v : Value} {o : OpD} {u : ByteArray} {s : List UInt8 × Nat} (h : OwSt w W bw room g b4 it v0 v o u pos s) (hb : Below W.heap.size W W') : OwSt w W' bw room g b4 it v0 v o u pos s :=
 ⟨h.wr.below hb, h.tn.trans (WTurn.of_below hb), (hb.block _ (lt_heap h.og)).trans h.og, (hb.block _ (lt_heap h.bx)).trans h.bx, (hb.block _ (lt_heap h.it_)).trans h.it_, h.le, h.mx.below hb, h.ne, h.bl, h.up, h.ow, h.hg⟩
theorem OwSt.step {w W W' : World} {bw room g b4 it pos : Nat} {v0 v v' : Value} {o : OpD} {u : ByteArray} {s s' : List UInt8 × Nat} (h : OwSt w W bw room g b4 it v0 v o u pos s) (hw : WrAt W' bw v' s'.1 s'.2 room) (ht : WTurn bw v v' W W') (hl : s'.1.length ≤ room) : OwSt w W' bw room g b4 it v0 v' o u pos s' := by
 have hk : ∀ k, k < W.heap.size → bw ≠ k → v.ownBlock ≠ some k → W'.heap[k]? = W.heap[k]? := fun k a b c => ht.block k a (Ne.symm b) c
 have hn : ∀ k, k < W.heap.size → v.ownBlock ≠ some k → v'.ownBlock ≠ some k := fun k hk hne e => by
   rcases ht.new with e' | e'
   · exact hne (e'.symm.trans e)
   · have := e' _ e; omega
 have hg := lt_heap h.og
 have hb := lt_heap h.bx
 have hi := lt_heap h.it_
 exact ⟨hw, h.tn.trans ht, (hk _ hg h.bl.1 h.ow.1).trans h.og, (hk _ hb h.bl.2.1 h.ow.2.1).trans h.bx, (hk _ hi h.bl.2.2 h.ow.2.2).trans h.it_, hl, ht.mx h.mx h.hg h.wr.up, h.ne, h.bl, h.up, ⟨hn _ hg h.ow.1, hn _ hb h.ow.2.1, hn _ hi h.ow.2.2⟩, h.hg⟩
theorem OwSt.next {w W : World} {bw room g b4 it pos : Nat} {v0 v : Value} {o : OpD} {u : ByteArray} {s : List UInt8 × Nat} (h : OwSt w W bw room g b4 it v0 v o u pos s) (p : Nat) : OwSt w (putB W it (.stringIter u p)) bw room g b4 it v0 v o u p s := by
 have hk : ∀ k, k ≠ it → (putB W it (.stringIter u p)).heap[k]? = W.heap[k]? := fun k hk => putB_other _ _ _ _ hk
 have hsz : (putB W it (.stringIter u p)).heap.size = W.heap.size := putB_size _ _ _
 refine ⟨⟨(hk _ h.bl.2.2).trans h.wr.at_, h.wr.own.block fun k e => hk _ fun e' => h.ow.2.2 (e' ▸ e)⟩, ?_, (hk _ (Ne.symm h.ne.1)).trans h.og, (hk _ (Ne.symm h.ne.2)).trans h.bx, putB_same _ _ _ _ h.it_, h.le, ?_, h.ne, h.bl, h.up, h.ow, h.hg⟩
 · refine ⟨h.tn.os, h.tn.tape, h.tn.output, by rw [hsz]; exact h.tn.size, fun k a b c => (hk k ?_).trans (h.tn.block k a b c), h.tn.new⟩
   have := h.up; omega
 · obtain ⟨m, hm⟩ := h.mx
   refine ⟨m, (cell_of (hk _ fun e => ?_) 0).trans hm⟩
   have := h.it_
   rw [← e] at this
   rw [World.cell?] at hm
   simp [this] at hm
theorem foldW_take {room : Nat} {s : List UInt8 × Nat} {o : OpD} {u : List UInt8} {pos : Nat} {c : UInt8} (hc : u[pos]? = some c) : (u.take (pos + 1)).foldl (fun s c => wStep room s (fieldO o c)) s = wStep room ((u.take pos).foldl (fun s c => wStep room s (fieldO o c)) s) (fieldO o c) := by
 have h := (List.getElem?_eq_some_iff.1 hc).1
 rw [List.take_succ_eq_append_getElem h, List.foldl_append, (List.getElem?_eq_some_iff.1 hc).2]; rfl
theorem opC_num (o : OpD) (c : UInt8) : (c = 98 → (opC o)[3]? = some (.int .i64 (numO o c))) ∧ (c = 116 → (opC o)[4]? = some (.int .i64 (numO o c))) ∧ (c = 110 → (opC o)[5]? = some (.int .i64 (numO o c))) ∧ (c = 109 → (opC o)[6]? = some (.int .i64 (numO o c))) := by
 refine ⟨?_, ?_, ?_, ?_⟩ <;> (rintro rfl; rfl)
end Go.Proofs.YtbfefdedjcppaaaGreatDoor

/- request.order: the walk. -/
namespace Go.Proofs.YtbfefdedjcppaaaGreatDoor
set_option maxRecDepth 100000
set_option maxHeartbeats 8000000
open Go.RowKit
theorem worder_any (bw room : Nat) (v : Value) (s : List UInt8 × Nat) (o : OpD) (w : World) (h : WrAt w bw v s.1 s.2 room) (hl : s.1.length ≤ room) (hr : room ≤ 1000000) (ht : o.text.size ≤ 10000) (hk : 0 ≤ o.n0) (hmx : MX w) (hg : 0 < bw) :
   Calls Tryz.prog 43 #[.pointer (some ⟨bw, 0, none⟩), .agg (opC o).toArray] w fun e w' => e = .returned (.tuple #[]) ∧ ∃ v', WrAt w' bw v' (wOrder room s o).1 (wOrder room s o).2 room ∧ WTurn bw v v' w w' := by
 have hbwlt := lt_heap h.at_
 have hown : v.ownBlock ≠ some w.heap.size := fun e => by have := (h.own.lt _ e).2; omega
 have HG : Hid ((w.alloc (.cells (opC o).toArray 30)).heap[w.heap.size]? = some (.cells (opC o).toArray 30 (0, 0))) := heap_alloc_new _ _
 have hb := below_alloc1 w (.cells (opC o).toArray 30)
 have HW := Lib.hid (h.below hb)
 have HB := Lib.hid hb
 clear h hb
 go_enter Tryz.func43, Tryz.ntmps43
 go_upto_region 1 with fail
 generalize w.alloc (.cells (opC o).toArray 30) = W1 at *
 have c0 : W1.cell? ⟨w.heap.size, 0, none⟩ = some (.int .i64 o.n0) := by rw [cell_blk HG.out]; rfl
 have c1 : W1.cell? ⟨w.heap.size, 1, none⟩ = some (.int .i64 o.n1) := by rw [cell_blk HG.out]; rfl
 have c2 : W1.cell? ⟨w.heap.size, 2, none⟩ = some (.int .i64 o.n2) := by rw [cell_blk HG.out]; rfl
 have hr3 : bC [lowB o.n0, lowB o.n1, lowB o.n2] = #[.int .u8 (o.n0 % 256), .int .u8 (o.n1 % 256), .int .u8 (o.n2 % 256)] := by simp [bC, lowB_eq]
 have hA : (W1.alloc (.cells #[.int .u8 (o.n0 % 256), .int .u8 (o.n1 % 256), .int .u8 (o.n2 % 256)] 5)).heap[W1.heap.size]? = some (.cells (bC [lowB o.n0, lowB o.n1, lowB o.n2]) 5 (0, 0)) := by rw [hr3]; exact heap_alloc_new _ _
 have hbA' := Lib.hid (below_alloc1 W1 (.cells #[.int .u8 (o.n0 % 256), .int .u8 (o.n1 % 256), .int .u8 (o.n2 % 256)] 5))
 have hbA := below_alloc1 W1 (.cells #[.int .u8 (o.n0 % 256), .int .u8 (o.n1 % 256), .int .u8 (o.n2 % 256)] 5)
 have KW := Lib.hid (wbyte_any bw room v s.1 s.2 (some ⟨W1.heap.size, 0, none⟩) [lowB o.n0, lowB o.n1, lowB o.n2] 3 3 _ (HW.out.below hbA) hl hr (slAt_new hA) rfl (fun a e => by
   cases e
   refine ⟨fun e => ?_, fun e => ?_⟩
   · have := lt_heap HW.out.at_
     simp only at e; omega
   · have := (HW.out.own.lt _ e).2
     simp only at this; omega) (by omega))
 go_upto_region 2 with (go_at_call 42; (refine KW.out.mono ?_); rintro e w2 ⟨rfl, v2, hw2, ht2⟩; have HW2 := Lib.hid hw2; have HT2 := Lib.hid ht2; clear hw2 ht2)
 clear KW hA hbA c0 c1 c2
 have hsz2 : W1.heap.size ≤ w2.heap.size := by have := HT2.out.size; simp at this; omega
 have hgl : w.heap.size < W1.heap.size := lt_heap HG.out
 have hbwl : bw < w.heap.size := hbwlt
 have HG2 : Hid (w2.heap[w.heap.size]? = some (.cells (opC o).toArray 30 (0, 0))) := by
   refine (HT2.out.block _ (by simp; omega) (by omega) hown).trans ((hbA'.out.block _ hgl).trans HG.out)
 have HM2 : Hid (MX w2) := HT2.out.mx ((hmx.below HB.out).below hbA'.out) hg HW.out.up
 have HT2' : Hid (WTurn bw v v2 w w2) := ((WTurn.of_below HB.out).trans (WTurn.of_below hbA'.out)).trans HT2.out
 have hown2 : v2.ownBlock ≠ some w.heap.size := fun e => by
   rcases HT2.out.new with e' | e'
   · exact hown (e'.symm.trans e)
   · have := e' _ e
     simp at this; omega
 have hcl : (wBytes room s [lowB o.n0, lowB o.n1, lowB o.n2]).1.length ≤ room := wBytes_le _ hl
 have HO : Hid (wOrder room s o = (usesL o.n0.toNat).foldl (fun s c => wStep room s (fieldO o c)) (wBytes room s [lowB o.n0, lowB o.n1, lowB o.n2])) := rfl
 obtain ⟨k, hkk⟩ : ∃ k : Nat, o.n0 = (k : Int) := ⟨o.n0.toNat, by omega⟩
 have hkn : o.n0.toNat = k := by omega
 rw [hkn] at HO
 clear HT2 HG HB HW hmx hown hgl
 generalize wBytes room s [lowB o.n0, lowB o.n1, lowB o.n2] = s2 at *
 generalize w.heap.size = g at *
 have KN : Hid (∀ W : World, Calls Tryz.prog 71 #[.pointer (some ⟨g, 0, none⟩)] W fun e w' => e = .returned (.func (.func 116) #[] #[.pointer (some ⟨W.heap.size, 0, none⟩)]) ∧ w' = W.alloc (.cells #[.pointer (some ⟨g, 0, none⟩)] 93)) := fun W => numbers_any _ W
 go_upto_region 3 with (go_at_call 71; (refine (KN.out _).mono ?_); rintro e w4 ⟨rfl, rfl⟩)
 have hbb := below_alloc1 w2 (.cells #[.pointer (some ⟨g, 0, none⟩)] 93)
 have HG4 := Lib.hid ((hbb.block _ (lt_heap HG2.out)).trans HG2.out)
 have HX4 : Hid (BoxIs (w2.alloc (.cells #[.pointer (some ⟨g, 0, none⟩)] 93)) w2.heap.size (.pointer (some ⟨g, 0, none⟩)) 93) := heap_alloc_new _ _
 have HW4 := Lib.hid (HW2.out.below hbb)
 have HM4 := Lib.hid (HM2.out.below hbb)
 have HT4 := Lib.hid (HT2'.out.trans (WTurn.of_below hbb))
 have hgl2 := lt_heap HG2.out
 have hown4 : v2.ownBlock ≠ some w2.heap.size := fun e => by have := (HW2.out.own.lt _ e).2; omega
 have hbw2 : bw ≠ w2.heap.size := by have := lt_heap HW2.out.at_; omega
 have hbg : bw ≠ g := by omega
 clear hbb HG2 HW2 HM2 HT2' KN
 generalize w2.alloc (.cells #[.pointer (some ⟨g, 0, none⟩)] 93) = W4 at *
 generalize w2.heap.size = b4 at *
 have hck : W4.cell? ⟨g, 0, none⟩ = some (.int .i64 (k : Int)) := by rw [cell_blk HG4.out, ← hkk]; rfl
 have KU : Hid (∀ W, Calls Tryz.prog 72 #[.int .i64 (k : Int)] W fun e w' => e = .returned (.string ⟨(usesL k).toArray⟩) ∧ Below W.heap.size W w') := fun W => usesO_any k W
 go_wp2_with (go_at_call 72; (refine (KU.out _).mono ?_); rintro e w5 ⟨rfl, hb5⟩; have HB5 := Lib.hid hb5; clear hb5)
 have HL0 : Hid (OwSt w (w5.iter ⟨(usesL k).toArray⟩ 0) bw room g b4 w5.heap.size v v2 o ⟨(usesL k).toArray⟩ 0 s2) := by
   have hb3 : Below W4.heap.size W4 (w5.iter ⟨(usesL k).toArray⟩ 0) := HB5.out.alloc HB5.out.size _
   have h4 := lt_heap HX4.out
   have h2 := lt_heap HG4.out
   have h3 := lt_heap HW4.out.at_
   have h5 := HB5.out.size
   have h6 := HT4.out.size
   exact ⟨HW4.out.below hb3, HT4.out.trans (WTurn.of_below hb3), (hb3.block _ h2).trans HG4.out, (hb3.block _ h4).trans HX4.out, World.iter_heap _ _ _, hcl, HM4.out.below hb3, ⟨by omega, by omega⟩, ⟨hbg, hbw2, by omega⟩, by omega, ⟨hown2, hown4, fun e => by have := (HW4.out.own.lt _ e).2; omega⟩, hg⟩
 have HUI := Lib.hid (uses_in k)
 clear HW4 HX4 HG4 HM4 HT4 HB5 KU hck
 generalize usesL k = u at *
 generalize w5.iter ⟨u.toArray⟩ 0 = W5 at *
 generalize w5.heap.size = it at *
 have hus : (⟨u.toArray⟩ : ByteArray).size = u.length := by show u.toArray.size = _; simp
 go_loopw [6] (fun _ wr => ∃ (pos : Nat) (v' : Value) (y : List UInt8 × Nat), pos ≤ u.length ∧ Hid (OwSt w wr bw room g b4 it v v' o ⟨u.toArray⟩ pos y) ∧ Hid (y = (u.take pos).foldl (fun s c => wStep room s (fieldO o c)) s2)) (fun _ wr => u.length - wr.iterPos it)
 case atStart => exact ⟨0, _, _, Nat.zero_le _, HL0.out, rfl⟩
 case round =>
   obtain ⟨pos, v2, y, hpos, HL1, HF1⟩ := hrel
   clear HL0
   by_cases hlt : pos < u.length
   · have hc : u[pos]? = some u[pos] := List.getElem?_eq_getElem hlt
     have hci := HUI.out _ (List.getElem_mem hlt)
     have HF2 : Hid (wStep room y (fieldO o u[pos]) = (u.take (pos + 1)).foldl (fun s c => wStep room s (fieldO o c)) s2) := by show _ = _; rw [HF1.out]; exact (foldW_take hc).symm
     generalize u[pos] = c at *
     have hnx := fun ty => runS_next (P := Tryz.prog) wr it ⟨u.toArray⟩ pos ty c HL1.out.it_ (by simpa using hc) (by rcases hci with h | h | h | h | h | h | h <;> (rw [h]; decide))
     have HL2 := Lib.hid (HL1.out.next (pos + 1))
     have HM : Hid (u.length - (pos + 1) < u.length - wr.iterPos it) := by show _ < _; rw [iterPos_at HL1.out.it_]; omega
     clear hc HF1 HL1
     generalize putB wr it (.stringIter ⟨u.toArray⟩ (pos + 1)) = W3 at *
     rcases hci with rfl | rfl | rfl | rfl | rfl | rfl | rfl
     · have KC : Hid (Calls Tryz.prog 116 #[.int .i32 (98 : Int), .pointer (some ⟨b4, 0, none⟩)] W3 fun e w' => e = .returned (.tuple #[.pointer (some ⟨g, 3, none⟩), .int .i64 3]) ∧ w' = W3) := numbers1_any 98 g 0 b4 W3 HL2.out.bx
       have hcn : W3.cell? ⟨g, 3, none⟩ = some (.int .i64 (numO o 98)) := by rw [cell_blk HL2.out.og, List.getElem?_toArray]; exact (opC_num o 98).1 rfl
       have HFo : Hid (fieldO o 98 = [lowB (numO o 98)]) := rfl
       generalize numO o 98 = nn at *
       have hr1 : bC [lowB nn] = #[.int .u8 (nn % 256)] := by simp [bC, lowB_eq]
       have hbA := below_alloc1 W3 (.cells #[.int .u8 (nn % 256)] 5)
       have HL2b := Lib.hid (HL2.out.below hbA)
       have KW := Lib.hid (wbyte_any bw room v2 y.1 y.2 (some ⟨W3.heap.size, 0, none⟩) [lowB nn] 1 1 _ HL2b.out.wr HL2b.out.le hr (slAt_new (by rw [hr1]; exact heap_alloc_new _ _)) rfl (fun a e => by
         cases e
         refine ⟨fun e => ?_, fun e => ?_⟩
         · have := lt_heap HL2.out.wr.at_
           simp only at e; omega
         · have := (HL2.out.wr.own.lt _ e).2
           simp only at this; omega) (by omega))
       clear hbA
       go_wp2_with (first
         | (go_at_call 116; (refine KC.out.mono ?_); rintro e w7 ⟨rfl, rfl⟩)
         | (go_at_call 42; (refine KW.out.mono ?_); rintro e w8 ⟨rfl, v3, hw3, ht3⟩; have HL3 := Lib.hid (HL2b.out.step (s' := wStep room y (fieldO o 98)) (by rw [HFo.out]; exact hw3) ht3 (by rw [HFo.out]; exact wStep_le HL2.out.le)); clear hw3 ht3))
       go_roundw
       case rel => exact ⟨pos + 1, v3, _, by omega, HL3.out, HF2.out⟩
       case measure => rw [iterPos_at HL3.out.it_]; exact HM.out
     · have KC : Hid (Calls Tryz.prog 116 #[.int .i32 (116 : Int), .pointer (some ⟨b4, 0, none⟩)] W3 fun e w' => e = .returned (.tuple #[.pointer (some ⟨g, 4, none⟩), .int .i64 15]) ∧ w' = W3) := numbers1_any 116 g 0 b4 W3 HL2.out.bx
       have hcn : W3.cell? ⟨g, 4, none⟩ = some (.int .i64 (numO o 116)) := by rw [cell_blk HL2.out.og, List.getElem?_toArray]; exact (opC_num o 116).2.1 rfl
       have HFo : Hid (fieldO o 116 = [lowB (numO o 116)]) := rfl
       generalize numO o 116 = nn at *
       have hr1 : bC [lowB nn] = #[.int .u8 (nn % 256)] := by simp [bC, lowB_eq]
       have hbA := below_alloc1 W3 (.cells #[.int .u8 (nn % 256)] 5)
       have HL2b := Lib.hid (HL2.out.below hbA)
       have KW := Lib.hid (wbyte_any bw room v2 y.1 y.2 (some ⟨W3.heap.size, 0, none⟩) [lowB nn] 1 1 _ HL2b.out.wr HL2b.out.le hr (slAt_new (by rw [hr1]; exact heap_alloc_new _ _)) rfl (fun a e => by
         cases e
         refine ⟨fun e => ?_, fun e => ?_⟩
         · have := lt_heap HL2.out.wr.at_
           simp only at e; omega
         · have := (HL2.out.wr.own.lt _ e).2
           simp only at this; omega) (by omega))
       clear hbA
       go_wp2_with (first
         | (go_at_call 116; (refine KC.out.mono ?_); rintro e w7 ⟨rfl, rfl⟩)
         | (go_at_call 42; (refine KW.out.mono ?_); rintro e w8 ⟨rfl, v3, hw3, ht3⟩; have HL3 := Lib.hid (HL2b.out.step (s' := wStep room y (fieldO o 116)) (by rw [HFo.out]; exact hw3) ht3 (by rw [HFo.out]; exact wStep_le HL2.out.le)); clear hw3 ht3))
       go_roundw
       case rel => exact ⟨pos + 1, v3, _, by omega, HL3.out, HF2.out⟩
       case measure => rw [iterPos_at HL3.out.it_]; exact HM.out
     · have KC : Hid (Calls Tryz.prog 116 #[.int .i32 (110 : Int), .pointer (some ⟨b4, 0, none⟩)] W3 fun e w' => e = .returned (.tuple #[.pointer (some ⟨g, 5, none⟩), .int .i64 63]) ∧ w' = W3) := numbers1_any 110 g 0 b4 W3 HL2.out.bx
       have hcn : W3.cell? ⟨g, 5, none⟩ = some (.int .i64 (numO o 110)) := by rw [cell_blk HL2.out.og, List.getElem?_toArray]; exact (opC_num o 110).2.2.1 rfl
       have HFo : Hid (fieldO o 110 = [lowB (numO o 110)]) := rfl
       generalize numO o 110 = nn at *
       have hr1 : bC [lowB nn] = #[.int .u8 (nn % 256)] := by simp [bC, lowB_eq]
       have hbA := below_alloc1 W3 (.cells #[.int .u8 (nn % 256)] 5)
       have HL2b := Lib.hid (HL2.out.below hbA)
       have KW := Lib.hid (wbyte_any bw room v2 y.1 y.2 (some ⟨W3.heap.size, 0, none⟩) [lowB nn] 1 1 _ HL2b.out.wr HL2b.out.le hr (slAt_new (by rw [hr1]; exact heap_alloc_new _ _)) rfl (fun a e => by
         cases e
         refine ⟨fun e => ?_, fun e => ?_⟩
         · have := lt_heap HL2.out.wr.at_
           simp only at e; omega
         · have := (HL2.out.wr.own.lt _ e).2
           simp only at this; omega) (by omega))
       clear hbA
       go_wp2_with (first
         | (go_at_call 116; (refine KC.out.mono ?_); rintro e w7 ⟨rfl, rfl⟩)
         | (go_at_call 42; (refine KW.out.mono ?_); rintro e w8 ⟨rfl, v3, hw3, ht3⟩; have HL3 := Lib.hid (HL2b.out.step (s' := wStep room y (fieldO o 110)) (by rw [HFo.out]; exact hw3) ht3 (by rw [HFo.out]; exact wStep_le HL2.out.le)); clear hw3 ht3))
       go_roundw
       case rel => exact ⟨pos + 1, v3, _, by omega, HL3.out, HF2.out⟩
       case measure => rw [iterPos_at HL3.out.it_]; exact HM.out
     · have KC : Hid (Calls Tryz.prog 116 #[.int .i32 (109 : Int), .pointer (some ⟨b4, 0, none⟩)] W3 fun e w' => e = .returned (.tuple #[.pointer (some ⟨g, 6, none⟩), .int .i64 2]) ∧ w' = W3) := numbers1_any 109 g 0 b4 W3 HL2.out.bx
       have hcn : W3.cell? ⟨g, 6, none⟩ = some (.int .i64 (numO o 109)) := by rw [cell_blk HL2.out.og, List.getElem?_toArray]; exact (opC_num o 109).2.2.2 rfl
       have HFo : Hid (fieldO o 109 = [lowB (numO o 109)]) := rfl
       generalize numO o 109 = nn at *
       have hr1 : bC [lowB nn] = #[.int .u8 (nn % 256)] := by simp [bC, lowB_eq]
       have hbA := below_alloc1 W3 (.cells #[.int .u8 (nn % 256)] 5)
       have HL2b := Lib.hid (HL2.out.below hbA)
       have KW := Lib.hid (wbyte_any bw room v2 y.1 y.2 (some ⟨W3.heap.size, 0, none⟩) [lowB nn] 1 1 _ HL2b.out.wr HL2b.out.le hr (slAt_new (by rw [hr1]; exact heap_alloc_new _ _)) rfl (fun a e => by
         cases e
         refine ⟨fun e => ?_, fun e => ?_⟩
         · have := lt_heap HL2.out.wr.at_
           simp only at e; omega
         · have := (HL2.out.wr.own.lt _ e).2
           simp only at this; omega) (by omega))
       clear hbA
       go_wp2_with (first
         | (go_at_call 116; (refine KC.out.mono ?_); rintro e w7 ⟨rfl, rfl⟩)
         | (go_at_call 42; (refine KW.out.mono ?_); rintro e w8 ⟨rfl, v3, hw3, ht3⟩; have HL3 := Lib.hid (HL2b.out.step (s' := wStep room y (fieldO o 109)) (by rw [HFo.out]; exact hw3) ht3 (by rw [HFo.out]; exact wStep_le HL2.out.le)); clear hw3 ht3))
       go_roundw
       case rel => exact ⟨pos + 1, v3, _, by omega, HL3.out, HF2.out⟩
       case measure => rw [iterPos_at HL3.out.it_]; exact HM.out
     · have KC : Hid (Calls Tryz.prog 116 #[.int .i32 (97 : Int), .pointer (some ⟨b4, 0, none⟩)] W3 fun e w' => e = .returned (.tuple #[.pointer none, .int .i64 0]) ∧ w' = W3) := numbers1_any 97 g 0 b4 W3 HL2.out.bx
       have KT : Hid (∀ W, Calls Tryz.prog 89 #[.agg (bC o.name)] W fun e w' => e = .returned (.string ⟨(textL o.name).toArray⟩) ∧ Below W.heap.size W w') := fun W => text_any o.name W o.ln
       have HRr : Hid (W3.rangeAt g 7 (bC o.name).toList) := by have := op_name (range_whole (vs := opC o) HL2.out.og); rwa [Nat.zero_add] at this
       have HTn := Lib.hid (textL_le o.name o.ln)
       have HFo : Hid (fieldO o 97 = small (⟨(textL o.name).toArray⟩ : ByteArray).size ++ (⟨(textL o.name).toArray⟩ : ByteArray).data.toList) := rfl
       go_wp2_with (first
         | (go_at_call 116; (refine KC.out.mono ?_); rintro e w7 ⟨rfl, rfl⟩)
         | ((with_reducible refine gate_ld 24 _ rfl ?_); refine wl_ldr rfl 24 _ rfl g 7 (bC o.name).toList _ Tryz.underlying24 rfl (by rw [info23]; simp [bC, o.ln]) rfl HRr.out ?_; try simp only [Array.toArray_toList])
         | (go_at_call 89; (refine (KT.out _).mono ?_); rintro e w7 ⟨rfl, hb7⟩; have HL2b := Lib.hid (HL2.out.below hb7); clear hb7)
         | (go_at_call 58; (refine (wtext_any bw room v2 y.1 y.2 _ _ HL2b.out.wr HL2b.out.le hr (by have := HTn.out; show (textL o.name).toArray.size ≤ _; simp; omega)).mono ?_); rintro e w8 ⟨rfl, v3, hw3, ht3⟩; have HL3 := Lib.hid (HL2b.out.step (s' := wStep room y (fieldO o 97)) (by rw [HFo.out]; exact hw3) ht3 (by rw [HFo.out]; exact wStep_le HL2.out.le)); clear hw3 ht3))
       go_roundw
       case rel => exact ⟨pos + 1, v3, _, by omega, HL3.out, HF2.out⟩
       case measure => rw [iterPos_at HL3.out.it_]; exact HM.out
     · have KC : Hid (Calls Tryz.prog 116 #[.int .i32 (103 : Int), .pointer (some ⟨b4, 0, none⟩)] W3 fun e w' => e = .returned (.tuple #[.pointer none, .int .i64 0]) ∧ w' = W3) := numbers1_any 103 g 0 b4 W3 HL2.out.bx
       have KT : Hid (∀ W, Below W3.heap.size W3 W → Calls Tryz.prog 59 #[.agg (bC o.tag)] W fun e w' => e = .returned (.string ⟨(textB o.tag).toArray⟩) ∧ Below W.heap.size W w') := fun W hW => tagText_any o.tag W o.lt (HL2.out.mx.below hW)
       have HRr : Hid (W3.rangeAt g 19 (bC o.tag).toList) := by have := op_tag (range_whole (vs := opC o) HL2.out.og); rwa [Nat.zero_add] at this
       have HTn := Lib.hid (textB_le o.tag o.lt)
       have HFo : Hid (fieldO o 103 = small (⟨(textB o.tag).toArray⟩ : ByteArray).size ++ (⟨(textB o.tag).toArray⟩ : ByteArray).data.toList) := rfl
       go_wp2_with (first
         | (go_at_call 116; (refine KC.out.mono ?_); rintro e w7 ⟨rfl, rfl⟩)
         | ((with_reducible refine gate_ld 28 _ rfl ?_); refine wl_ldr rfl 28 _ rfl g 19 (bC o.tag).toList _ Tryz.underlying28 rfl (by rw [sizTag19]; simp [bC, o.lt]) rfl HRr.out ?_; try simp only [Array.toArray_toList])
         | (go_at_call 59; (refine (KT.out _ (Below.refl _ _)).mono ?_); rintro e w7 ⟨rfl, hb7⟩; have HL2b := Lib.hid (HL2.out.below hb7); clear hb7)
         | (go_at_call 58; (refine (wtext_any bw room v2 y.1 y.2 _ _ HL2b.out.wr HL2b.out.le hr (by have := HTn.out; show (textB o.tag).toArray.size ≤ _; simp; omega)).mono ?_); rintro e w8 ⟨rfl, v3, hw3, ht3⟩; have HL3 := Lib.hid (HL2b.out.step (s' := wStep room y (fieldO o 103)) (by rw [HFo.out]; exact hw3) ht3 (by rw [HFo.out]; exact wStep_le HL2.out.le)); clear hw3 ht3))
       go_roundw
       case rel => exact ⟨pos + 1, v3, _, by omega, HL3.out, HF2.out⟩
       case measure => rw [iterPos_at HL3.out.it_]; exact HM.out
     · have KC : Hid (Calls Tryz.prog 116 #[.int .i32 (120 : Int), .pointer (some ⟨b4, 0, none⟩)] W3 fun e w' => e = .returned (.tuple #[.pointer none, .int .i64 0]) ∧ w' = W3) := numbers1_any 120 g 0 b4 W3 HL2.out.bx
       have hct : W3.cell? ⟨g, 29, none⟩ = some (.string o.text) := by rw [cell_blk HL2.out.og, List.getElem?_toArray]; exact opC_text o
       have HL2b := HL2
       have HFo : Hid (fieldO o 120 = small (o.text).size ++ (o.text).data.toList) := by rfl
       go_wp2_with (first
         | (go_at_call 116; (refine KC.out.mono ?_); rintro e w7 ⟨rfl, rfl⟩)
         | (go_at_call 58; (refine (wtext_any bw room v2 y.1 y.2 _ _ HL2b.out.wr HL2b.out.le hr ht).mono ?_); rintro e w8 ⟨rfl, v3, hw3, ht3⟩; have HL3 := Lib.hid (HL2b.out.step (s' := wStep room y (fieldO o 120)) (by rw [HFo.out]; exact hw3) ht3 (by rw [HFo.out]; exact wStep_le HL2.out.le)); clear hw3 ht3))
       go_roundw
       case rel => exact ⟨pos + 1, v3, _, by omega, HL3.out, HF2.out⟩
       case measure => rw [iterPos_at HL3.out.it_]; exact HM.out
   · obtain rfl : pos = u.length := by omega
     have hnx := fun ty => runS_end (P := Tryz.prog) wr it ⟨u.toArray⟩ u.length ty HL1.out.it_ (by rw [hus]; omega)
     have HY : Hid (y = wOrder room s o) := by show _ = _; rw [HF1.out, List.take_of_length_le (Nat.le_refl _), HO.out]
     go_wp2_with fail
     refine bodyPost_end (results_none rfl _ _ _) rfl ?_
     exact ⟨rfl, v2, by rw [← HY.out]; exact HL1.out.wr, HL1.out.tn⟩
end Go.Proofs.YtbfefdedjcppaaaGreatDoor
