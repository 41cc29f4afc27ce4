/- Unpin at a table. -/
import Derived.Test.YtmdhlpnieimdaaaV2
namespace Go.Proofs.Ytmdhlpnieimdaaa
open Go.RowKit

def idC (l : List Int) : Array Value := (l.map fun i => Value.int .i64 i).toArray
def unL (s : PS) (l : List Int) : PS := l.foldl PS.un s
def unN (s : PS) : List Int → Nat
  | [] => 0
  | i :: l => (if hasL s.used i then 1 else 0) + unN (s.un i) l
theorem unL_snoc (s : PS) (l : List Int) (k : Nat) (h : k < l.length) : unL s (l.take (k + 1)) = (unL s (l.take k)).un l[k] := by
  rw [unL, List.take_succ_eq_append_getElem h, List.foldl_append]; rfl
theorem unN_append (s : PS) (l m : List Int) : unN s (l ++ m) = unN s l + unN (unL s l) m := by
  induction l generalizing s with
  | nil => simp [unN, unL]
  | cons i l ih =>
    rw [List.cons_append, unN, unN, ih (s.un i)]
    show _ + (_ + unN (unL (s.un i) l) m) = _ + _ + unN (unL s (i :: l)) m
    rw [show unL s (i :: l) = unL (s.un i) l from rfl]; omega
theorem unN_snoc (s : PS) (l : List Int) (k : Nat) (h : k < l.length) : unN s (l.take (k + 1)) = unN s (l.take k) + if hasL (unL s (l.take k)).used l[k] then 1 else 0 := by
  rw [List.take_succ_eq_append_getElem h, unN_append]
  simp [unN]
theorem unN_le (s : PS) (l : List Int) : unN s l ≤ l.length := by
  induction l generalizing s with
  | nil => simp [unN]
  | cons i l ih => have := ih (s.un i); rw [unN, List.length_cons]; split <;> omega

theorem cell_idC {w : World} {b : Nat} {l : List Int} {T : TypeId} {fr : Nat × Nat} (h : w.heap[b]? = some (.cells (idC l) T fr)) (i : Nat) (hi : i < l.length) : w.cell? ⟨b, i, none⟩ = some (.int .i64 l[i]) := by
  rw [cell_of_tab h]; simp [idC, hi]


set_option maxRecDepth 100000 in
set_option maxHeartbeats 2000000 in
theorem unpin_any (tp b n : Nat) (l : List Int) (s : PS) (o : Option Nat) (w : World) (h : TabP w tp s o) (hb : w.heap[b]? = some (.cells (idC l) 3)) (hn : l.length = n) (hn2 : n ≤ 1000) (hbt : b ≠ tp) :
    Calls Try.prog 7 #[.pointer (some ⟨tp, 0, none⟩), .slice (some ⟨b, 0, none⟩) n n] w fun e w' => e = .returned (.int .i64 (unN s l : Nat)) ∧ Turn (tp :: o.toList) w w' ∧ TabP w' tp (unL s l) o := by
  have HN := Lib.hid hn
  have HB := Lib.hid hb
  have H := Lib.hid h
  have htl : tp < w.heap.size := h.lt
  have hbl : b < w.heap.size := lt_heap hb
  have HBR : Hid (∀ r, o = some r → b ≠ r) := fun r e e' => by
    subst e e'
    obtain ⟨l', c, h1, _⟩ := h.1.2.2
    rw [hb] at h1; cases h1
  clear hn hb h
  go_enter Try.func7, Try.ntmps7
  go_wp2_with fail
  go_loopw [5, 11] (fun c i wr => ∃ k : Nat, k ≤ n ∧ i = .int .i64 k ∧ c = .int .i64 (unN s (l.take k) : Nat) ∧ Hid (Turn (tp :: o.toList) w wr) ∧ Hid (TabP wr tp (unL s (l.take k)) o)) (fun _ i _ => n - (intOf i).toNat)
  case atStart => exact ⟨0, Nat.zero_le _, rfl, rfl, Turn.refl _ _, H.out⟩
  case round =>
    obtain ⟨k, hk, rfl, rfl, HT, HP⟩ := hrel
    by_cases hlt : k < n
    · have hk2 : k < l.length := by rw [HN.out]; exact hlt
      have hk3 : (k : Int) < n := by omega
      have hbk : wr.heap[b]? = some (.cells (idC l) 3) := by
        rw [HT.out.block b hbl (by
          intro hm
          rcases List.mem_cons.1 hm with e | e
          · exact hbt e
          · exact HBR.out b (by cases o with | none => simp at e | some r => simp at e; rw [e]) rfl)]
        exact HB.out
      have hcell := cell_idC hbk k hk2
      have HS : Hid (unL s (l.take (k + 1)) = (unL s (l.take k)).un l[k]) := unL_snoc s l k hk2
      have HU : Hid (unN s (l.take (k + 1)) = unN s (l.take k) + if hasL (unL s (l.take k)).used l[k] then 1 else 0) := unN_snoc s l k hk2
      have hul : unN s (l.take k) ≤ 1000 := by have := unN_le s (l.take k); have := List.length_take_le k l; omega
      have HTP : Hid (tp < wr.heap.size) := HP.out.lt
      clear hbk
      generalize l[k] = id at *
      generalize unN s (l.take k) = un at *
      generalize unL s (l.take k) = sk at *
      have HH : Hid (Calls Try.prog 19 #[.pointer (some ⟨tp, 0, none⟩), .int .i64 id] wr fun e w' => e = .returned (.bool (hasL sk.used id)) ∧ wr = w') := has_tab tp sk.used sk.times o id wr HP.out.1.1
      cases hh : hasL sk.used id
      · have HE : Hid (sk.un id = sk) := by show sk.un id = sk; rw [PS.un, hh]; rfl
        rw [hh] at HH HU
        clear hh
        go_wp2_with (go_at_call 19; (refine HH.out.mono ?_); rintro e w1 ⟨rfl, rfl⟩)
        go_roundw
        case rel => exact ⟨k + 1, by omega, by go_num, by rw [HU.out]; rfl, HT.out, by rw [HS.out, HE.out]; exact HP.out⟩
        case measure => simp [intOf]; omega
      · rw [hh] at HH HU
        cases o with
        | none => rw [has_none HP.out] at hh; cases hh
        | some r =>
        obtain ⟨j, rfl, hj, hbit⟩ := hasL_spec hh
        have HE : Hid (sk.un j = ⟨clearB sk.used j, sk.times.set j 0, setF sk.f (sk.at1 j) (sk.f (sk.at1 j) - 1), if sk.f (sk.at1 j) - 1 = 0 then sk.K.erase (sk.at1 j) else sk.K⟩) := un_eq hh
        have hjl : j < sk.times.length := by rw [HP.out.2.hl]; exact hj
        have hcu := HP.out.1.1.cu
        have hca := HP.out.1.1.ca j hjl
        have hat : sk.times[j] = sk.at1 j := by simp [PS.at1, List.getD, hjl]
        rw [hat] at hca
        have hcm := HP.out.1.1.cm
        have hrt : r ≠ tp := HP.out.1.2.1
        have hf : ∀ i, wr.frozen? ⟨tp, i, none⟩ = false := fun i => by simp [World.frozen?, HP.out.1.1.hg]
        have hj0 : (j : Int) < 64 := by omega
        have han := andnot_u64 HP.out.2.hu hj
        have hok := PS.un_ok HP.out.2 (j : Int)
        have hg1 : ((wr.setCell ⟨tp, 0, none⟩ (.int .u64 ((clearB sk.used j : Nat) : Int))).setCell ⟨tp, 1 + j, none⟩ (.int .u64 0)).heap[tp]? = some (.cells (tabC (clearB sk.used j) (sk.times.set j 0) (some r)) 27) := by
          rw [heap_setCell_self _ (heap_setCell_self _ HP.out.1.1.hg), tabC_setUsed]
          have := tabC_setAt (used := clearB sk.used j) (o := some r) j 0 hjl
          rw [show ((0 : Nat) : Int) = 0 from rfl] at this
          rw [this]
        have hc0 : CntN wr r sk.f sk.K := HP.out.1.2.2
        have hc1 : CntN ((wr.setCell ⟨tp, 0, none⟩ (.int .u64 ((clearB sk.used j : Nat) : Int))).setCell ⟨tp, 1 + j, none⟩ (.int .u64 0)) r sk.f sk.K := hc0.block (by rw [heap_setCell_other _ hrt, heap_setCell_other _ hrt])
        have hT1 : Turn [tp, r] wr ((wr.setCell ⟨tp, 0, none⟩ (.int .u64 ((clearB sk.used j : Nat) : Int))).setCell ⟨tp, 1 + j, none⟩ (.int .u64 0)) :=
          ((Turn.setCell tp 0 _ wr).trans (Turn.setCell tp (1 + j) _ _)).mono fun x _ hx => by simp at hx; subst hx; simp
        have hpos := PS.f_pos HP.out.2 hj hbit
        have hle := PS.f_le HP.out.2 (sk.at1 j)
        have hmem := (HP.out.2.hk (sk.at1 j)).2 (by omega)
        have hlk1 := hc1.look (sk.at1 j)
        obtain ⟨ob, hup, hcn⟩ := hc1.update (sk.at1 j) (sk.f (sk.at1 j) - 1)
        rw [if_pos hmem] at hcn
        have hlk2 := hcn.look (sk.at1 j)
        simp only [if_true] at hlk2
        have hT2 := hT1.trans ((Turn.put r ((wr.setCell ⟨tp, 0, none⟩ (.int .u64 ((clearB sk.used j : Nat) : Int))).setCell ⟨tp, 1 + j, none⟩ (.int .u64 0)) ob).mono (T := [tp, r]) fun x _ hx => by simp at hx; subst hx; simp)
        have hg2 := (putB_other ((wr.setCell ⟨tp, 0, none⟩ (.int .u64 ((clearB sk.used j : Nat) : Int))).setCell ⟨tp, 1 + j, none⟩ (.int .u64 0)) r tp ob (Ne.symm hrt)).trans hg1
        have hcm2 : (putB ((wr.setCell ⟨tp, 0, none⟩ (.int .u64 ((clearB sk.used j : Nat) : Int))).setCell ⟨tp, 1 + j, none⟩ (.int .u64 0)) r ob).cell? ⟨tp, 65, none⟩ = some (.map (some r)) := by
          rw [cell_of_tab hg2, tabC_map (by simp [HP.out.2.hl])]
        have hub : un + 1 ≤ 1001 := by omega
        by_cases hz : sk.f (sk.at1 j) - 1 = 0
        · have hf1 : sk.f (sk.at1 j) = 1 := by omega
          obtain ⟨ob2, hdel, hcd⟩ := hcn.del (sk.at1 j) hmem (by simp only [if_true]; exact hz)
          have HF : Hid (Turn [tp, r] wr (putB (putB ((wr.setCell ⟨tp, 0, none⟩ (.int .u64 ((clearB sk.used j : Nat) : Int))).setCell ⟨tp, 1 + j, none⟩ (.int .u64 0)) r ob) r ob2) ∧ TabP (putB (putB ((wr.setCell ⟨tp, 0, none⟩ (.int .u64 ((clearB sk.used j : Nat) : Int))).setCell ⟨tp, 1 + j, none⟩ (.int .u64 0)) r ob) r ob2) tp (sk.un j) (some r)) := by
            refine ⟨hT2.trans ((Turn.put r _ ob2).mono (T := [tp, r]) fun x _ hx => by simp at hx; subst hx; simp), ?_, hok⟩
            rw [HE.out, if_pos hz]
            exact ⟨⟨by rw [putB_other _ _ _ _ (Ne.symm hrt)]; exact hg2, clearB_lt HP.out.2.hu, by simp [HP.out.2.hl]⟩, hrt, hcd⟩
          rw [hf1] at hlk1 hup hlk2
          have hup' : (Instr.mapUpdate 25 (.map (some r)) (.int .u64 (sk.at1 j : Nat)) (.int .i64 0)).run Try.prog ((wr.setCell ⟨tp, 0, none⟩ (.int .u64 ((clearB sk.used j : Nat) : Int))).setCell ⟨tp, 1 + j, none⟩ (.int .u64 0)) = .ok () _ := hup
          clear hg1 hc0 hc1 hT1 hT2 hg2 hok hcd hcn hup hh hbit hat hz hmem hpos hle hf1
          generalize clearB sk.used j = used' at *
          generalize sk.at1 j = t at *
          go_wp2_with (go_at_call 19; (refine HH.out.mono ?_); rintro e w1 ⟨rfl, rfl⟩)
          go_roundw
          case rel => exact ⟨k + 1, by omega, by go_num, by rw [HU.out]; rfl, HT.out.trans HF.out.1, by rw [HS.out]; exact HF.out.2⟩
          case measure => simp [intOf]; omega
        · have HF : Hid (Turn [tp, r] wr (putB ((wr.setCell ⟨tp, 0, none⟩ (.int .u64 ((clearB sk.used j : Nat) : Int))).setCell ⟨tp, 1 + j, none⟩ (.int .u64 0)) r ob) ∧ TabP (putB ((wr.setCell ⟨tp, 0, none⟩ (.int .u64 ((clearB sk.used j : Nat) : Int))).setCell ⟨tp, 1 + j, none⟩ (.int .u64 0)) r ob) tp (sk.un j) (some r)) := by
            refine ⟨hT2, ?_, hok⟩
            rw [HE.out, if_neg hz]
            exact ⟨⟨hg2, clearB_lt HP.out.2.hu, by simp [HP.out.2.hl]⟩, hrt, hcn⟩
          obtain ⟨z, hz1⟩ : ∃ z, sk.f (sk.at1 j) = z + 2 := ⟨sk.f (sk.at1 j) - 2, by omega⟩
          rw [hz1] at hlk1 hup hlk2
          have hup' : (Instr.mapUpdate 25 (.map (some r)) (.int .u64 (sk.at1 j : Nat)) (.int .i64 ((z : Int) + 1))).run Try.prog ((wr.setCell ⟨tp, 0, none⟩ (.int .u64 ((clearB sk.used j : Nat) : Int))).setCell ⟨tp, 1 + j, none⟩ (.int .u64 0)) = .ok () _ := hup
          have hlk1' : (Instr.lookup 25 (.map (some r)) (.int .u64 (sk.at1 j : Nat)) false).run Try.prog ((wr.setCell ⟨tp, 0, none⟩ (.int .u64 ((clearB sk.used j : Nat) : Int))).setCell ⟨tp, 1 + j, none⟩ (.int .u64 0)) = .ok (.int .i64 ((z : Int) + 2)) _ := hlk1
          have hlk2' : (Instr.lookup 25 (.map (some r)) (.int .u64 (sk.at1 j : Nat)) false).run Try.prog (putB ((wr.setCell ⟨tp, 0, none⟩ (.int .u64 ((clearB sk.used j : Nat) : Int))).setCell ⟨tp, 1 + j, none⟩ (.int .u64 0)) r ob) = .ok (.int .i64 ((z : Int) + 1)) _ := hlk2
          have hz64 : (z : Int) ≤ 62 := by omega
          have hsub : IntKind.i64.wrap ((z : Int) + 2 - 1) = (z : Int) + 1 := by rw [IntWalk.i64_in _ (by omega)]; omega
          have hne : ((z : Int) + 1 == 0) = false := by rw [beq_eq_false_iff_ne]; omega
          clear hg1 hc0 hc1 hT1 hT2 hg2 hok hcn hup hlk1 hlk2 hh hbit hat hz hmem hpos hle hz1
          generalize clearB sk.used j = used' at *
          generalize sk.at1 j = t at *
          go_wp2_with (go_at_call 19; (refine HH.out.mono ?_); rintro e w1 ⟨rfl, rfl⟩)
          go_roundw
          case rel => exact ⟨k + 1, by omega, by go_num, by rw [HU.out]; rfl, HT.out.trans HF.out.1, by rw [HS.out]; exact HF.out.2⟩
          case measure => simp [intOf]; omega
    · obtain rfl : k = n := by omega
      have HE : Hid (l.take k = l) := List.take_of_length_le (by rw [HN.out]; exact Nat.le_refl _)
      rw [HE.out] at HP
      rw [HE.out]
      go_wp2_with fail
      go_ret
      exact ⟨rfl, HT.out, HP.out⟩
end Go.Proofs.Ytmdhlpnieimdaaa
