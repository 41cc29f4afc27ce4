/- Reading a reply's events: both sides alike. Plain. -/
import Derived.Test.YtbfefdedjcppaaaGreatDoorPM6
namespace Go.Proofs.YtbfefdedjcppaaaGreatDoor
open Go.RowKit Go.Deep
theorem k0_e (l : List UInt8) : (eK0 l).ef = (dK0 l).e := by
 show (if byteE l = 0 then (if byteV l < 0 ∨ 2 < byteV l then 3 else 0) else byteE l) = numIE 0 2 3 0 l
 unfold numIE eN
 by_cases h : byteE l = 0
 · rw [if_pos h]
   by_cases h2 : byteV l < 0 ∨ 2 < byteV l
   · rw [if_pos h2, if_pos ⟨rfl, h, h2⟩]
   · rw [if_neg h2, if_neg (fun x => h2 x.2.2), if_neg (by simp), h]
 · rw [if_neg h, if_neg (fun x => h x.2.1), if_neg (by simp)]
theorem at_both (v : Ev) (l : List UInt8) : (eAt ⟨v, (eK0 l).l, (eK0 l).er, (eK0 l).ef⟩).ef = (dA l).e ∧ ((eAt ⟨v, (eK0 l).l, (eK0 l).er, (eK0 l).ef⟩).ef = 0 → (eAt ⟨v, (eK0 l).l, (eK0 l).er, (eK0 l).ef⟩).l = (dA l).l ∧ (eAt ⟨v, (eK0 l).l, (eK0 l).er, (eK0 l).ef⟩).v = { v with at_ := (dAt l : Nat) }) := by
 have h0 := k0_e l
 have hl : (eK0 l).l = (dK0 l).l := rfl
 unfold eAt dA dAt
 by_cases he : (eK0 l).ef = 0
 · have hd : (dK0 l).e = 0 := h0 ▸ he
   rw [if_pos he]
   simp only [hd, hl]
   refine ⟨rfl, fun _ => ⟨rfl, rfl⟩⟩
 · have hd : (dK0 l).e ≠ 0 := h0 ▸ he
   rw [if_neg he]
   refine ⟨?_, fun h => absurd h he⟩
   show (eK0 l).ef = eM _ (dK0 l).e (dK0 l).l
   unfold eM
   rw [if_pos hd, h0]
theorem vN0 (l : List UInt8) : vN 0 l = byteV l := rfl
theorem ev_both (l : List UInt8) : (evR l).ef = dkE3 l ∧ ((evR l).ef = 0 → (evR l).l = dkL3 l ∧ (evR l).v = dEv l) := by
 obtain ⟨h1, h2⟩ := at_both (eV0 l) l
 unfold evR
 by_cases hk : byteV l = 2
 · rw [if_pos hk]
   have e3 : dkE3 l = (dA l).e := if_pos hk
   have l3 : dkL3 l = (dA l).l := if_pos hk
   have ky : dkKey l = zeros25 := if_pos hk
   rw [e3, l3]
   refine ⟨h1, fun h => ⟨(h2 h).1, ?_⟩⟩
   rw [(h2 h).2]
   unfold dEv eV0
   simp only [ky, vN0]
   rfl
 · rw [if_neg hk]
   have e3 : dkE3 l = if dkE (dA l).e (dA l).l 25 = 0 ∧ rightK (dkKey l) = false then 3 else dkE (dA l).e (dA l).l 25 := if_neg hk
   have l3 : dkL3 l = dkL (dA l).e (dA l).l 25 := if_neg hk
   have ky : dkKey l = dkB (dA l).e (dA l).l 25 := if_neg hk
   rw [e3, l3]
   generalize hx : eAt ⟨eV0 l, (eK0 l).l, (eK0 l).er, (eK0 l).ef⟩ = x at *
   unfold eKey
   by_cases he : x.ef = 0
   · obtain ⟨h3, h4⟩ := h2 he
     have hd : (dA l).e = 0 := h1 ▸ he
     rw [if_pos he]
     have ky2 : dkKey l = gotB x.l 25 := by rw [ky, hd, h3]; exact (gotA_all _)
     have ee : dkE (dA l).e (dA l).l 25 = endE x.l 25 := by rw [hd, h3]; rfl
     have ll : dkL (dA l).e (dA l).l 25 = x.l.drop 25 := by rw [hd, h3]; rfl
     rw [ee, ll, ky2]
     have hE : (if endE x.l 25 = 0 then rdKe (gotB x.l 25) else endE x.l 25) = (if endE x.l 25 = 0 ∧ rightK (gotB x.l 25) = false then 3 else endE x.l 25) := by
       by_cases h0 : endE x.l 25 = 0
       · rw [if_pos h0]
         unfold rdKe
         cases hr : rightK (gotB x.l 25) with
         | true => rw [if_pos rfl, if_neg (by simp), h0]
         | false => rw [if_neg (by simp), if_pos ⟨h0, rfl⟩]
       · rw [if_neg h0, if_neg (fun h => h0 h.1)]
     refine ⟨hE, fun h => ⟨rfl, ?_⟩⟩
     have h' : (if endE x.l 25 = 0 then rdKe (gotB x.l 25) else endE x.l 25) = 0 := h
     have hr : rightK (gotB x.l 25) = true := by
       cases hr : rightK (gotB x.l 25) with
       | true => rfl
       | false =>
         by_cases h0 : endE x.l 25 = 0
         · rw [if_pos h0] at h'
           unfold rdKe at h'
           rw [hr] at h'
           cases h'
         · rw [if_neg h0] at h'; exact absurd h' h0
     have hk3 : rdK (gotB x.l 25) = gotB x.l 25 := by unfold rdK; rw [if_pos hr]
     show ({ x.v with key := rdK (gotB x.l 25), lkey := rdK_len _ (gotB_len _ _) } : Ev) = dEv l
     unfold dEv
     simp only [hk3, h4, ky2, vN0]
     rfl
   · rw [if_neg he]
     have hd : (dA l).e ≠ 0 := h1 ▸ he
     have ee : dkE (dA l).e (dA l).l 25 = (dA l).e := if_neg hd
     rw [ee, if_neg (fun h => hd h.1)]
     exact ⟨h1, fun h => absurd h he⟩
def RelL (s : LS) (t : LD) : Prop := s.ef = t.e ∧ (s.ef = 0 → s.l = t.l ∧ s.evs = t.evs)
theorem rel_ev {s : LS} {t : LD} (h : RelL s t) : RelL (evStep s) (ldStep t) := by
 obtain ⟨h1, h2⟩ := h
 unfold evStep ldStep
 by_cases he : s.ef = 0
 · obtain ⟨h3, h4⟩ := h2 he
   rw [if_pos he, if_pos (h1 ▸ he)]
   obtain ⟨e1, e2⟩ := ev_both s.l
   refine ⟨?_, fun h => ⟨?_, ?_⟩⟩
   · show (evR s.l).ef = dkE3 t.l
     rw [e1, h3]
   · show (evR s.l).l = dkL3 t.l
     rw [(e2 h).1, h3]
   · show s.evs ++ [(evR s.l).v] = t.evs ++ [dEv t.l]
     rw [(e2 h).2, h3, h4]
 · rw [if_neg he, if_neg (h1 ▸ he)]
   exact ⟨h1, h2⟩
theorem rel_evs {s : LS} {t : LD} (h : RelL s t) : ∀ k, RelL (evsN k s) (ldN k t)
 | 0 => h
 | k + 1 => rel_ev (rel_evs h k)
theorem rel_many {x : PD} {y : DD} (h : Rel x y) : pN x = vN y.e y.l ∧ RelL ⟨[], (pN0 x).l, (pN0 x).er, (pN0 x).ef⟩ (dM y) := by
 obtain ⟨h1, h2⟩ := h
 by_cases he : x.ef = 0
 · obtain ⟨h3, _⟩ := h2 he
   have hy : y.e = 0 := h1 ▸ he
   refine ⟨?_, ?_, fun _ => ⟨?_, rfl⟩⟩
   · unfold pN; rw [if_pos he, hy, h3]; rfl
   · show (pN0 x).ef = numIE 0 16 2 y.e y.l
     unfold pN0 sNum
     rw [if_pos he, hy, ← h3]
     show (if byteE x.l = 0 then (if byteV x.l < 0 ∨ 16 < byteV x.l then 2 else 0) else byteE x.l) = numIE 0 16 2 0 x.l
     unfold numIE eN
     by_cases h : byteE x.l = 0
     · rw [if_pos h]
       by_cases h2 : byteV x.l < 0 ∨ 16 < byteV x.l
       · rw [if_pos h2, if_pos ⟨rfl, h, h2⟩]
       · rw [if_neg h2, if_neg (fun x => h2 x.2.2), if_neg (by simp), h]
     · rw [if_neg h, if_neg (fun x => h x.2.1), if_neg (by simp)]
   · show (pN0 x).l = y.l.drop (kN y.e y.l)
     unfold pN0 sNum
     rw [if_pos he, hy, ← h3]; rfl
 · have hy : y.e ≠ 0 := h1 ▸ he
   refine ⟨?_, ?_, fun h => ?_⟩
   · unfold pN vN; rw [if_neg he, if_pos hy]
   · show (pN0 x).ef = numIE 0 16 2 y.e y.l
     unfold pN0 sNum numIE eN
     rw [if_neg he, if_neg (fun h => hy h.1), if_pos hy]
     exact h1
   · have : (pN0 x).ef = x.ef := by unfold pN0 sNum; rw [if_neg he]
     exact absurd (this ▸ h) he
theorem parse_both (l : List UInt8) : prsE l = dpE l ∧ prsD l = dpD l ∧ prsV l = dpV l := by
 have hh := rel_head l
 obtain ⟨hn, hm⟩ := rel_many hh
 have hL : RelL (pL l) (dL l) := by
   show RelL (evsN (pN (pF l)) _) (ldN (vN (dF l).e (dF l).l) (dM (dF l)))
   rw [hn]
   exact rel_evs hm _
 obtain ⟨h1, h2⟩ := hL
 have hE : prsE l = dpE l := by
   unfold prsE dpE
   by_cases he : (pL l).ef = 0
   · obtain ⟨h3, _⟩ := h2 he
     have hy : (dL l).e = 0 := h1 ▸ he
     by_cases hl : (pL l).l = []
     · rw [if_neg (fun h => h.2 hl), if_neg (by rw [← h3, hl]; simp), h1]
     · rw [if_pos ⟨he, hl⟩, if_pos ⟨hy, by rw [← h3]; exact List.length_pos_iff.2 hl⟩]
   · rw [if_neg (fun h => he h.1), if_neg (fun h => he (h1.trans h.1)), h1]
 refine ⟨hE, ?_, ?_⟩
 · unfold prsD dpD
   rw [← hE]
   by_cases h0 : prsE l = 0
   · rw [if_pos h0, if_pos h0]
     have hx : (pF l).ef = 0 := by
       refine Classical.byContradiction fun hne => ?_
       have hs : (pN0 (pF l)).ef ≠ 0 := by unfold pN0 sNum; rw [if_neg hne]; exact hne
       have hp : pL l = ⟨[], (pN0 (pF l)).l, (pN0 (pF l)).er, (pN0 (pF l)).ef⟩ := by
         unfold pL pN
         rw [if_neg hne]; rfl
       unfold prsE at h0
       rw [hp] at h0
       simp only at h0
       rw [if_neg (fun h => hs h.1)] at h0
       exact hs h0
     exact (hh.2 hx).2
   · rw [if_neg h0, if_neg h0]
 · unfold prsV dpV
   rw [← hE]
   by_cases h0 : prsE l = 0
   · rw [if_pos h0, if_pos h0]
     have he : (pL l).ef = 0 := by
       unfold prsE at h0
       split at h0
       · cases h0
       · exact h0
     exact (h2 he).2
   · rw [if_neg h0, if_neg h0]
end Go.Proofs.YtbfefdedjcppaaaGreatDoor
