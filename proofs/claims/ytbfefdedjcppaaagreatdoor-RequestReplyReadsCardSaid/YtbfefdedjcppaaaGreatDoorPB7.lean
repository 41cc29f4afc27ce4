/- A reply that was read is printed as it was. Plain. -/
import Derived.Test.YtbfefdedjcppaaaGreatDoorPN6
import Derived.Test.YtbfefdedjcppaaaGreatDoorPX6
namespace Go.Proofs.YtbfefdedjcppaaaGreatDoor
open Go.RowKit Go.Deep
theorem lowB_u8' (b : UInt8) : lowB (b.toNat : Int) = b := by
 unfold lowB
 rw [← UInt8.toNat_inj, UInt8.toNat_ofNat']
 have := b.toNat_lt
 omega
theorem text_back' {m : Nat} {l : List UInt8} (h : textE m l = 0) : l = small (textS m l).length ++ textS m l ++ l.drop (textN m l) ∧ (textS m l).length ≤ m := by
 have hs : textS m l = (l.drop (readS l).2.1).take (readS l).1 := if_pos h
 have hn : textN m l = (readS l).2.1 + (readS l).1 := if_pos h
 unfold textE at h
 split at h
 · exact absurd h (by assumption)
 · rename_i h0
   split at h
   · cases h
   · split at h
     · cases h
     · rename_i h1 h2
       rcases hr : readS l with ⟨n, k, e⟩
       rw [hr] at hs hn h0 h1 h2
       simp only [ne_eq, Decidable.not_not] at h0 h1 h2
       subst h0
       obtain ⟨e1, e2, e3, e4⟩ := back_small hr
       have hlen : (textS m l).length = n := by rw [hs]; simp; omega
       refine ⟨?_, by omega⟩
       rw [hlen, hs, hn, ← e1]
       simp only
       rw [← List.drop_drop, List.append_assoc, List.take_append_drop, List.take_append_drop]
theorem num_back {m : Nat} {l : List UInt8} (h : numE m l = 0) : l = small (numV m l) ++ l.drop (numK m l) ∧ numV m l < 2 ^ 64 := by
 have hv : numV m l = (readS l).1 := if_pos h
 have hk : numK m l = (readS l).2.1 := if_pos h
 unfold numE at h
 split at h
 · exact absurd h (by assumption)
 · rename_i h0
   rcases hr : readS l with ⟨n, k, e⟩
   rw [hr] at hv hk h0
   simp only [ne_eq, Decidable.not_not] at h0
   subst h0
   obtain ⟨e1, e2, e3, e4⟩ := back_small hr
   rw [hv, hk]
   simp only
   exact ⟨by rw [← e1, List.take_append_drop], e4⟩
theorem byte_back {l : List UInt8} (h : byteE l = 0) : ∃ b : UInt8, byteV l = b.toNat ∧ l = b :: l.drop (byteK l) := by
 cases l with
 | nil => cases h
 | cons b t => exact ⟨b, rfl, rfl⟩
theorem tagOk_right' {s : List UInt8} (h : tagOk s = true) : rightT (tagR s) = true ∧ textB (tagR s) = s := by
 unfold tagOk at h
 simp only [Bool.and_eq_true, decide_eq_true_eq] at h
 refine ⟨?_, h.2⟩
 obtain ⟨t, ht⟩ := Option.isSome_iff_exists.1 h.1
 rw [(tagOk_some ht).2]
 exact (parse_known ht).2.1
theorem wStep_fit' {room : Nat} {s : List UInt8 × Nat} {u : List UInt8} (h : s.2 = 0) (hl : s.1.length + u.length ≤ room) : wStep room s u = (s.1 ++ u, 0) := by
 unfold wStep
 rw [if_pos ⟨h, hl⟩, if_neg (fun h' => by omega), h]
theorem wBytes_fit' {room : Nat} (xs : List UInt8) : ∀ {s : List UInt8 × Nat}, s.2 = 0 → s.1.length + xs.length ≤ room → wBytes room s xs = (s.1 ++ xs, 0) := by
 induction xs with
 | nil => intro s h _; show s = _; rw [List.append_nil, ← h]
 | cons b xs ih =>
   intro s h hl
   rw [List.length_cons] at hl
   show wBytes room (wStep room s [b]) xs = _
   rw [wStep_fit' h (by simp; omega), ih rfl (by simp; omega), List.append_assoc]
   rfl
def evL (v : Ev) : List UInt8 := if v.mark = true then 2 :: small v.at_.toNat else (if v.dead = true then 1 else 0) :: (small v.at_.toNat ++ v.key)
theorem evW_fit {s : List UInt8 × Nat} {v : Ev} (h : s.2 = 0) (hl : s.1.length + (evL v).length ≤ 4096) : evW s v = (s.1 ++ evL v, 0) := by
 unfold evW
 unfold evL at hl ⊢
 split
 · rename_i hm
   rw [if_pos hm, List.length_cons] at hl
   rw [wBytes_fit' [2] h (by simp; omega), wStep_fit' rfl (by simp; omega), List.append_assoc]; rfl
 · rename_i hm
   rw [if_neg hm, List.length_cons, List.length_append] at hl
   rw [wBytes_fit' _ h (by simp; omega), wStep_fit' rfl (by simp; omega), wBytes_fit' _ rfl (by simp; omega), List.append_assoc, List.append_assoc]; rfl
theorem foldE_fit (es : List Ev) : ∀ {s : List UInt8 × Nat}, s.2 = 0 → s.1.length + (es.flatMap evL).length ≤ 4096 → es.foldl evW s = (s.1 ++ es.flatMap evL, 0) := by
 induction es with
 | nil => intro s h _; show s = _; rw [List.flatMap_nil, List.append_nil, ← h]
 | cons v es ih =>
   intro s h hl
   rw [List.flatMap_cons, List.length_append] at hl
   rw [List.foldl_cons, evW_fit h (by omega), ih rfl (by simp only [List.length_append]; omega), List.flatMap_cons, List.append_assoc]
def headL (x : RpD) (m : Nat) : List UInt8 := [lowB x.err] ++ ((small x.text.size ++ x.text.data.toList) ++ ((small (textB x.tag).length ++ textB x.tag) ++ ([lowB x.st] ++ (small x.n.toNat ++ [lowB m]))))
theorem head_fit (x : RpD) (m : Nat) (h : (headL x m).length ≤ 4096) : yS x m 6 = (headL x m, 0) := by
 unfold headL at h
 simp only [List.length_append, List.length_cons, List.length_nil] at h
 have h1 : yS x m 1 = ([lowB x.err], 0) := by
   show wBytes 4096 ([], 0) [lowB x.err] = _
   rw [wBytes_fit' _ rfl (by simp)]; rfl
 have h2 : yS x m 2 = ([lowB x.err] ++ (small x.text.size ++ x.text.data.toList), 0) := by
   show wStep 4096 (yS x m 1) _ = _
   rw [h1, wStep_fit' rfl (by simp only [List.length_append, List.length_cons, List.length_nil]; omega)]
 have h3 : yS x m 3 = ([lowB x.err] ++ (small x.text.size ++ x.text.data.toList) ++ (small (textB x.tag).length ++ textB x.tag), 0) := by
   show wStep 4096 (yS x m 2) _ = _
   rw [h2, wStep_fit' rfl (by simp only [List.length_append, List.length_cons, List.length_nil]; omega)]
 have h4 : yS x m 4 = ([lowB x.err] ++ (small x.text.size ++ x.text.data.toList) ++ (small (textB x.tag).length ++ textB x.tag) ++ [lowB x.st], 0) := by
   show wBytes 4096 (yS x m 3) _ = _
   rw [h3, wBytes_fit' _ rfl (by simp only [List.length_append, List.length_cons, List.length_nil]; omega)]
 have h5 : yS x m 5 = ([lowB x.err] ++ (small x.text.size ++ x.text.data.toList) ++ (small (textB x.tag).length ++ textB x.tag) ++ [lowB x.st] ++ small x.n.toNat, 0) := by
   show wStep 4096 (yS x m 4) _ = _
   rw [h4, wStep_fit' rfl (by simp only [List.length_append, List.length_cons, List.length_nil]; omega)]
 show wBytes 4096 (yS x m 5) [lowB m] = _
 rw [h5, wBytes_fit' _ rfl (by simp only [List.length_append, List.length_cons, List.length_nil]; omega)]
 unfold headL
 simp only [List.append_assoc]
theorem prS_fit (x : RpD) (es : List Ev) (h : (headL x es.length ++ es.flatMap evL).length ≤ 4096) : prS x es = (headL x es.length ++ es.flatMap evL, 0) := by
 rw [List.length_append] at h
 unfold prS
 rw [head_fit x es.length (by omega), foldE_fit es rfl (by omega)]
theorem ev_back {l : List UInt8} (h : (evR l).ef = 0) : evOk (evR l).v = true ∧ OkEv (evR l).v ∧ l = evL (evR l).v ++ (evR l).l := by
 have hkk : ∀ x : ES, (eKey x).ef = 0 → x.ef = 0 := fun x hx => Classical.byContradiction fun hn => by
   unfold eKey at hx; rw [if_neg hn] at hx; exact hn hx
 have haa : ∀ x : ES, (eAt x).ef = 0 → x.ef = 0 ∧ numE 18446744073709551615 x.l = 0 := fun x hx => by
   by_cases hn : x.ef = 0
   · refine ⟨hn, ?_⟩
     unfold eAt at hx; rw [if_pos hn] at hx; exact hx
   · unfold eAt at hx; rw [if_neg hn] at hx; exact absurd hx hn
 have hat0 : (eAt ⟨eV0 l, (eK0 l).l, (eK0 l).er, (eK0 l).ef⟩).ef = 0 := by
   unfold evR at h
   split at h
   · exact h
   · exact hkk _ h
 obtain ⟨hk0, hn0⟩ := haa _ hat0
 have hk0 : (eK0 l).ef = 0 := hk0
 have hn0 : numE 18446744073709551615 (eK0 l).l = 0 := hn0
 have hb0 : byteE l = 0 ∧ byteV l ≤ 2 := by
   have hk0' : (if byteE l = 0 then (if byteV l < 0 ∨ 2 < byteV l then 3 else 0) else byteE l) = 0 := hk0
   by_cases h1 : byteE l = 0
   · rw [if_pos h1] at hk0'
     refine ⟨h1, ?_⟩
     split at hk0'
     · cases hk0'
     · omega
   · rw [if_neg h1] at hk0'; exact absurd hk0' h1
 obtain ⟨b, hbv, hbl⟩ := byte_back hb0.1
 have hkl : (eK0 l).l = l.drop (byteK l) := rfl
 obtain ⟨e1, e2⟩ := num_back hn0
 have hx : eAt ⟨eV0 l, (eK0 l).l, (eK0 l).er, (eK0 l).ef⟩ = ⟨{ eV0 l with at_ := (numV 18446744073709551615 (eK0 l).l : Nat) }, (eK0 l).l.drop (numK 18446744073709551615 (eK0 l).l), numE 18446744073709551615 (eK0 l).l, numE 18446744073709551615 (eK0 l).l⟩ := if_pos hk0
 unfold evR at h ⊢
 rw [hx] at h ⊢
 generalize numV 18446744073709551615 (eK0 l).l = n at *
 generalize (eK0 l).l.drop (numK 18446744073709551615 (eK0 l).l) = l2 at *
 rw [hn0] at h ⊢
 by_cases hk : byteV l = 2
 · rw [if_pos hk] at h ⊢
   refine ⟨?_, ?_, ?_⟩
   · show evOk { eV0 l with at_ := (n : Nat) } = true
     unfold evOk eV0
     simp [hk]
   · show OkEv { eV0 l with at_ := (n : Nat) }
     unfold OkEv
     simp only
     omega
   · show l = evL { eV0 l with at_ := (n : Nat) } ++ l2
     have hb2 : b = 2 := by rw [← UInt8.toNat_inj, ← hbv, hk]; rfl
     unfold evL eV0
     simp only [hk, beq_self_eq_true, if_true, ite_true, Int.toNat_natCast]
     rw [hbl, hb2, ← hkl, e1]; rfl
 · rw [if_neg hk] at h ⊢
   have he : (eKey ⟨{ eV0 l with at_ := (n : Nat) }, l2, 0, 0⟩) = ⟨{ eV0 l with at_ := (n : Nat), key := rdK (gotB l2 25), lkey := rdK_len _ (gotB_len _ _) }, l2.drop 25, endE l2 25, if endE l2 25 = 0 then rdKe (gotB l2 25) else endE l2 25⟩ := if_pos rfl
   rw [he] at h ⊢
   have h' : (if endE l2 25 = 0 then rdKe (gotB l2 25) else endE l2 25) = 0 := h
   have hend : endE l2 25 = 0 := by
     refine Classical.byContradiction fun hn => ?_
     rw [if_neg hn] at h'; exact hn h'
   rw [if_pos hend] at h'
   have hr : rightK (gotB l2 25) = true := by
     cases hr : rightK (gotB l2 25) with
     | true => rfl
     | false => unfold rdKe at h'; rw [hr] at h'; cases h'
   have hk3 : rdK (gotB l2 25) = gotB l2 25 := by unfold rdK; rw [if_pos hr]
   have h25 : 25 ≤ l2.length := by
     unfold endE at hend
     split at hend
     · assumption
     · cases hend
   have hg : gotB l2 25 = l2.take 25 := by unfold gotB; rw [Nat.sub_eq_zero_of_le h25]; simp
   refine ⟨?_, ?_, ?_⟩
   · show evOk { eV0 l with at_ := (n : Nat), key := rdK (gotB l2 25), lkey := _ } = true
     unfold evOk eV0
     simp [hk, hk3, hr]
   · show OkEv { eV0 l with at_ := (n : Nat), key := rdK (gotB l2 25), lkey := _ }
     unfold OkEv
     simp only
     omega
   · show l = evL { eV0 l with at_ := (n : Nat), key := rdK (gotB l2 25), lkey := _ } ++ l2.drop 25
     have hm : (byteV l == 2) = false := by simp [hk]
     have hd : (if (byteV l == 1) = true then (1 : UInt8) else 0) = b := by
       rw [← UInt8.toNat_inj, ← hbv]
       by_cases h1 : byteV l = 1
       · rw [h1]; rfl
       · have h0 : byteV l = 0 := by have := hb0.2; omega
         rw [h0]; rfl
     have hk4 : rdK (l2.take 25) = l2.take 25 := by rw [← hg]; exact hk3
     unfold evL eV0
     simp only [hm, hd, hk4, hg, Int.toNat_natCast]
     rw [if_neg (by decide)]
     rw [List.cons_append, List.append_assoc, List.take_append_drop, ← e1, hkl]
     exact hbl
theorem sNum0 {k lo hi t : Nat} {x : FS} (h : (sNum k lo hi t x).ef = 0) : x.ef = 0 := by
 unfold sNum at h
 split at h
 · assumption
 · assumption
theorem pdText0 {x : PD} (h : (pdText x).ef = 0) : x.ef = 0 ∧ pdText x = ⟨{ x.d with text := ⟨(textS 1200 x.l).toArray⟩ }, x.l.drop (textN 1200 x.l), 0, 0⟩ ∧ textE 1200 x.l = 0 := by
 by_cases hx : x.ef = 0
 · unfold pdText at h ⊢
   rw [if_pos hx] at h ⊢
   have h : textE 1200 x.l = 0 := h
   rw [h]; exact ⟨hx, rfl, rfl⟩
 · unfold pdText at h; rw [if_neg hx] at h; exact absurd h hx
theorem pdTag0 {x : PD} (h : (pdTag x).ef = 0) : x.ef = 0 ∧ pdTag x = ⟨{ x.d with tag := tagR (textS 12 x.l), lt := tagR_len _ }, x.l.drop (textN 12 x.l), 0, 0⟩ ∧ textE 12 x.l = 0 ∧ tagOk (textS 12 x.l) = true := by
 by_cases hx : x.ef = 0
 · unfold pdTag at h ⊢
   rw [if_pos hx] at h ⊢
   have h : (if textE 12 x.l = 0 then (if tagOk (textS 12 x.l) = true then 0 else 14) else textE 12 x.l) = 0 := h
   by_cases h1 : textE 12 x.l = 0
   · rw [if_pos h1] at h
     by_cases h2 : tagOk (textS 12 x.l) = true
     · rw [h1, if_pos h2, if_pos h2]; exact ⟨hx, rfl, rfl, h2⟩
     · rw [if_neg h2] at h; cases h
   · rw [if_neg h1] at h; exact absurd h h1
 · unfold pdTag at h; rw [if_neg hx] at h; exact absurd h hx
theorem pdSt0 {x : PD} (h : (pdSt x).ef = 0) : x.ef = 0 ∧ pdSt x = ⟨{ x.d with st := (byteV x.l : Nat) }, x.l.drop (byteK x.l), 0, 0⟩ ∧ byteE x.l = 0 := by
 by_cases hx : x.ef = 0
 · unfold pdSt at h ⊢
   rw [if_pos hx] at h ⊢
   have h : (if byteE x.l = 0 then (if byteV x.l < 0 ∨ 255 < byteV x.l then 5 else 0) else byteE x.l) = 0 := h
   by_cases h1 : byteE x.l = 0
   · rw [if_pos h1] at h
     by_cases h2 : byteV x.l < 0 ∨ 255 < byteV x.l
     · rw [if_pos h2] at h; cases h
     · rw [h1, if_pos rfl, if_neg h2]; exact ⟨hx, rfl, rfl⟩
   · rw [if_neg h1] at h; exact absurd h h1
 · unfold pdSt at h; rw [if_neg hx] at h; exact absurd h hx
theorem pdN0 {x : PD} (h : (pdN x).ef = 0) : x.ef = 0 ∧ pdN x = ⟨{ x.d with n := (numV 4294967295 x.l : Nat) }, x.l.drop (numK 4294967295 x.l), 0, 0⟩ ∧ numE 4294967295 x.l = 0 := by
 by_cases hx : x.ef = 0
 · unfold pdN at h ⊢
   rw [if_pos hx] at h ⊢
   have h : numE 4294967295 x.l = 0 := h
   rw [h]; exact ⟨hx, rfl, rfl⟩
 · unfold pdN at h; rw [if_neg hx] at h; exact absurd h hx
theorem num_le {m : Nat} {l : List UInt8} (h : numE m l = 0) : numV m l ≤ m := by
 have hv : numV m l = (readS l).1 := if_pos h
 rw [hv]
 unfold numE at h
 split at h
 · exact absurd h (by assumption)
 · split at h
   · cases h
   · omega
theorem pF_back {l : List UInt8} (h : (pF l).ef = 0) : ∃ b0 b1 : UInt8, ∃ s1 s2 : List UInt8, ∃ n : Nat, (pF l).d.err = b0.toNat ∧ (pF l).d.text = ⟨s1.toArray⟩ ∧ s1.length ≤ 1200 ∧ (pF l).d.tag = tagR s2 ∧ tagOk s2 = true ∧ (pF l).d.st = b1.toNat ∧ (pF l).d.n = n ∧ n ≤ 4294967295 ∧ l = b0 :: (small s1.length ++ s1 ++ (small s2.length ++ s2 ++ (b1 :: (small n ++ (pF l).l)))) := by
 unfold pF at h ⊢
 obtain ⟨h4, e4, k4⟩ := pdN0 h
 rw [e4]
 obtain ⟨h3, e3, k3⟩ := pdSt0 h4
 rw [e3] at k4 ⊢
 obtain ⟨h2, e2, k2, t2⟩ := pdTag0 h3
 rw [e2] at k3 k4 ⊢
 obtain ⟨h1, e1, k1⟩ := pdText0 h2
 rw [e1] at k2 t2 k3 k4 ⊢
 have hc : (pC0 l).ef = 0 := h1
 have hc0 : byteE l = 0 := by
   have hc' : (if byteE l = 0 then (if byteV l < 0 ∨ 255 < byteV l then 5 else 0) else byteE l) = 0 := hc
   by_cases h1 : byteE l = 0
   · exact h1
   · rw [if_neg h1] at hc'; exact hc'
 have hl0 : (pC0 l).l = l.drop (byteK l) := rfl
 obtain ⟨b0, v0, l0⟩ := byte_back hc0
 simp only at k1 k2 t2 k3 k4 ⊢
 rw [hl0] at k1 k2 t2 k3 k4 ⊢
 generalize l.drop (byteK l) = la at *
 obtain ⟨la1, ll1⟩ := text_back' k1
 generalize la.drop (textN 1200 la) = lb at *
 obtain ⟨lb1, ll2⟩ := text_back' k2
 generalize lb.drop (textN 12 lb) = lc at *
 obtain ⟨b1, v1, lc1⟩ := byte_back k3
 generalize lc.drop (byteK lc) = ld at *
 obtain ⟨ld1, hn⟩ := num_back k4
 have hn2 := num_le k4
 generalize ld.drop (numK 4294967295 ld) = le at *
 refine ⟨b0, b1, textS 1200 la, textS 12 lb, numV 4294967295 ld, by rw [v0], rfl, ll1, rfl, t2, by rw [v1], rfl, hn2, ?_⟩
 rw [l0, ← ld1, ← lc1, ← lb1, ← la1]
theorem evs_back {s : LS} (hs : s.evs = []) : ∀ k, (evsN k s).ef = 0 → s.ef = 0 ∧ (evsN k s).evs.length = k ∧ (evsN k s).evs.all evOk = true ∧ (∀ v ∈ (evsN k s).evs, OkEv v) ∧ s.l = (evsN k s).evs.flatMap evL ++ (evsN k s).l
 | 0, h => by
   have e : evsN 0 s = s := rfl
   rw [e, hs]; exact ⟨h, rfl, rfl, fun v hv => (by cases hv), rfl⟩
 | k + 1, h => by
   have e : evsN (k + 1) s = evStep (evsN k s) := rfl
   rw [e] at h ⊢
   have hk : (evsN k s).ef = 0 := by
     refine Classical.byContradiction fun hn => ?_
     unfold evStep at h; rw [if_neg hn] at h; exact hn h
   obtain ⟨h1, h2, h3, h4, h5⟩ := evs_back hs k hk
   generalize evsN k s = u at *
   have e2 : evStep u = ⟨u.evs ++ [(evR u.l).v], (evR u.l).l, (evR u.l).er, (evR u.l).ef⟩ := if_pos hk
   rw [e2] at h ⊢
   obtain ⟨g1, g2, g3⟩ := ev_back h
   refine ⟨h1, ?_, ?_, ?_, ?_⟩
   · simp [h2]
   · simp only [List.all_append, h3, List.all_cons, List.all_nil, g1, Bool.and_true]
   · intro v hv
     rcases List.mem_append.1 hv with hv | hv
     · exact h4 v hv
     · rw [List.mem_singleton] at hv; rw [hv]; exact g2
   · simp only [List.flatMap_append, List.flatMap_cons, List.flatMap_nil, List.append_nil]
     rw [List.append_assoc, ← g3]; exact h5
theorem parse_prints {l : List UInt8} (h : prsE l = 0) (hl : l.length ≤ 4096) : prE (prsD l) (prsV l) = 0 ∧ prB (prsD l) (prsV l) = l ∧ (∀ v ∈ prsV l, OkEv v) ∧ (prsV l).length ≤ 16 := by
 have hD : prsD l = (pF l).d := if_pos h
 have hV : prsV l = (pL l).evs := if_pos h
 have hE : (pL l).ef = 0 ∧ (pL l).l = [] := by
   unfold prsE at h
   by_cases h1 : (pL l).ef = 0 ∧ (pL l).l ≠ []
   · rw [if_pos h1] at h; cases h
   · rw [if_neg h1] at h
     exact ⟨h, Classical.byContradiction fun hn => h1 ⟨h, hn⟩⟩
 obtain ⟨k1, k2, k3, k4, k5⟩ := evs_back (s := ⟨[], (pN0 (pF l)).l, (pN0 (pF l)).er, (pN0 (pF l)).ef⟩) rfl (pN (pF l)) hE.1
 have hpl : evsN (pN (pF l)) ⟨[], (pN0 (pF l)).l, (pN0 (pF l)).er, (pN0 (pF l)).ef⟩ = pL l := rfl
 rw [hpl] at k2 k3 k4 k5
 have k1 : (pN0 (pF l)).ef = 0 := k1
 have k5 : (pN0 (pF l)).l = (pL l).evs.flatMap evL ++ (pL l).l := k5
 have hF : (pF l).ef = 0 := sNum0 k1
 have hpn : pN0 (pF l) = ⟨_, (pF l).l.drop (byteK (pF l).l), byteE (pF l).l, if byteE (pF l).l = 0 then (if byteV (pF l).l < 0 ∨ 16 < byteV (pF l).l then 2 else 0) else byteE (pF l).l⟩ := if_pos hF
 have hN : pN (pF l) = byteV (pF l).l := if_pos hF
 have kb : byteE (pF l).l = 0 ∧ byteV (pF l).l ≤ 16 := by
   rw [hpn] at k1
   have k1' : (if byteE (pF l).l = 0 then (if byteV (pF l).l < 0 ∨ 16 < byteV (pF l).l then 2 else 0) else byteE (pF l).l) = 0 := k1
   by_cases h1 : byteE (pF l).l = 0
   · rw [if_pos h1] at k1'
     refine ⟨h1, ?_⟩
     split at k1'
     · cases k1'
     · omega
   · rw [if_neg h1] at k1'; exact absurd k1' h1
 obtain ⟨bn, vn, ln⟩ := byte_back kb.1
 rw [hpn] at k5
 have k5 : (pF l).l.drop (byteK (pF l).l) = (pL l).evs.flatMap evL ++ (pL l).l := k5
 rw [hE.2, List.append_nil] at k5
 obtain ⟨b0, b1, s1, s2, n, d1, d2, d3, d4, d5, d6, d7, d8, d9⟩ := pF_back hF
 have hlen : (pL l).evs.length = bn.toNat := by rw [k2, hN, vn]
 have hb16 : bn.toNat ≤ 16 := by rw [← vn]; exact kb.2
 obtain ⟨t1, t2⟩ := tagOk_right' d5
 have hall : headL (pF l).d (pL l).evs.length ++ (pL l).evs.flatMap evL = l := by
   unfold headL
   rw [d1, d2, d4, d6, d7, hlen, lowB_u8', lowB_u8', lowB_u8', t2, Int.toNat_natCast]
   conv => rhs; rw [d9, ln, k5]
   simp [ByteArray.size, ByteArray.data]
 have hfit : prS (pF l).d (pL l).evs = (l, 0) := by
   rw [prS_fit _ _ (by rw [hall]; exact hl), hall]
 have hpe : prE (pF l).d (pL l).evs = 0 := by
   have g0 := b0.toNat_lt
   have g1 := b1.toNat_lt
   have hsz : (pF l).d.text.size = s1.length := by rw [d2]; rfl
   have c1 : ¬ ((pF l).d.err < 0 ∨ 255 < (pF l).d.err) := by rw [d1]; omega
   have c2 : ¬ 1200 < (pF l).d.text.size := by rw [hsz]; omega
   have c3 : ¬ rightT (pF l).d.tag = false := by rw [d4, t1]; decide
   have c4 : ¬ ((pF l).d.st < 0 ∨ 255 < (pF l).d.st ∨ (pF l).d.n < 0 ∨ 4294967295 < (pF l).d.n) := by rw [d6, d7]; omega
   have c5 : ¬ 16 < (pL l).evs.length := by rw [hlen]; omega
   have c6 : ¬ (pL l).evs.all evOk = false := by rw [k3]; decide
   unfold prE
   rw [if_neg c1, if_neg c2, if_neg c3, if_neg c4, if_neg c5, if_neg c6, hfit]
 rw [hD, hV]
 refine ⟨hpe, ?_, k4, by omega⟩
 unfold prB
 rw [if_pos hpe, hfit]
theorem prsV_ok {l : List UInt8} (hl : l.length ≤ 4096) : ∀ v ∈ prsV l, OkEv v := by
 by_cases h : prsE l = 0
 · exact (parse_prints h hl).2.2.1
 · have hV : prsV l = [] := if_neg h
   rw [hV]; intro v hv; cases hv
theorem prsV_16 {l : List UInt8} (hl : l.length ≤ 4096) : (prsV l).length ≤ 16 := by
 by_cases h : prsE l = 0
 · exact (parse_prints h hl).2.2.2
 · have hV : prsV l = [] := if_neg h
   rw [hV]; simp
end Go.Proofs.YtbfefdedjcppaaaGreatDoor
