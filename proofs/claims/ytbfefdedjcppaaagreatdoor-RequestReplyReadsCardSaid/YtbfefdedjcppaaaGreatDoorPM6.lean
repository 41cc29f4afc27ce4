/- Reading a reply: both sides alike. Plain. -/
import Derived.Test.YtbfefdedjcppaaaGreatDoorDY6
namespace Go.Proofs.YtbfefdedjcppaaaGreatDoor
open Go.RowKit Go.Deep
def Rel (x : PD) (y : DD) : Prop := x.ef = y.e ∧ (x.ef = 0 → x.l = y.l ∧ x.d = y.d)
theorem num255 (l : List UInt8) : numIE 0 255 0 0 l = byteE l := by
 unfold numIE
 rw [if_neg (by have := byteV_lt l; omega)]; rfl
theorem rel_err (l : List UInt8) : Rel ⟨{ zeroR with err := (byteV l : Nat) }, (pC0 l).l, (pC0 l).er, (pC0 l).ef⟩ (ddErr ⟨zeroR, l, 0⟩) := by
 have he : (pC0 l).ef = byteE l := by
   show (if byteE l = 0 then (if byteV l < 0 ∨ 255 < byteV l then 5 else 0) else byteE l) = byteE l
   have := byteV_lt l
   by_cases h : byteE l = 0
   · rw [if_pos h, if_neg (by omega), h]
   · rw [if_neg h]
 refine ⟨?_, fun _ => ⟨rfl, rfl⟩⟩
 show (pC0 l).ef = numIE 0 255 0 0 l
 rw [he, num255]
theorem rel_text {x : PD} {y : DD} (h : Rel x y) : Rel (pdText x) (ddText y) := by
 obtain ⟨h1, h2⟩ := h
 unfold pdText
 by_cases he : x.ef = 0
 · obtain ⟨h3, h4⟩ := h2 he
   have hy : y.e = 0 := h1 ▸ he
   rw [if_pos he]
   unfold Rel ddText
   simp only [hy, eT, kT, sT, ne_eq, not_true_eq_false, if_false, ite_false, h3, h4]
   exact ⟨trivial, fun _ => ⟨trivial, trivial⟩⟩
 · rw [if_neg he]
   refine ⟨?_, fun h => absurd h he⟩
   show x.ef = eT 1200 y.e y.l
   unfold eT
   rw [if_pos (by rw [← h1]; exact he), h1]
theorem rel_tag {x : PD} {y : DD} (h : Rel x y) : Rel (pdTag x) (ddTag y) := by
 obtain ⟨h1, h2⟩ := h
 unfold pdTag
 by_cases he : x.ef = 0
 · obtain ⟨h3, h4⟩ := h2 he
   have hy : y.e = 0 := h1 ▸ he
   rw [if_pos he]
   have e1 : eT 12 0 y.l = textE 12 y.l := rfl
   have e2 : sT 12 0 y.l = textS 12 y.l := rfl
   have hE : tagIE 0 y.l = if textE 12 y.l = 0 then (if tagOk (textS 12 y.l) = true then 0 else 14) else textE 12 y.l := by
     unfold tagIE
     rw [e1, e2]
     by_cases ht : textE 12 y.l = 0
     · rw [if_pos ht]
       cases tagOk (textS 12 y.l) with
       | true => rw [if_neg (by simp), if_pos rfl, ht]
       | false => rw [if_pos ⟨rfl, ht, rfl⟩]; rfl
     · rw [if_neg ht, if_neg (fun h => ht h.2.1)]
   refine ⟨?_, fun h0 => ?_⟩
   · show (if textE 12 x.l = 0 then (if tagOk (textS 12 x.l) = true then 0 else 14) else textE 12 x.l) = tagIE y.e y.l
     rw [hy, hE, h3]
   · have h0' : (if textE 12 x.l = 0 then (if tagOk (textS 12 x.l) = true then 0 else 14) else textE 12 x.l) = 0 := h0
     have hk : tagOk (textS 12 x.l) = true := by
       cases hk : tagOk (textS 12 x.l) with
       | true => rfl
       | false =>
         rw [hk] at h0'
         by_cases ht : textE 12 x.l = 0
         · rw [if_pos ht] at h0'; cases h0'
         · rw [if_neg ht] at h0'; exact absurd h0' ht
     have hz : tagIE y.e y.l = 0 := by rw [hy, hE, ← h3]; exact h0'
     refine ⟨?_, ?_⟩
     · show x.l.drop (textN 12 x.l) = y.l.drop (kT 12 y.e y.l)
       rw [hy, h3]; rfl
     · show (if tagOk (textS 12 x.l) = true then ({ x.d with tag := tagR (textS 12 x.l), lt := tagR_len _ } : RpD) else x.d) = { y.d with tag := tagIV y.e y.l, lt := tagIV_len _ _ }
       rw [if_pos hk]
       have hv : tagIV y.e y.l = tagR (textS 12 x.l) := by unfold tagIV; rw [if_pos hz, hy, e2, h3]
       simp only [hv, h4]
 · rw [if_neg he]
   refine ⟨?_, fun h => absurd h he⟩
   show x.ef = tagIE y.e y.l
   unfold tagIE eT
   have hy : y.e ≠ 0 := by rw [← h1]; exact he
   rw [if_neg (fun h => hy h.1), if_pos hy, h1]
theorem rel_st {x : PD} {y : DD} (h : Rel x y) : Rel (pdSt x) (ddSt y) := by
 obtain ⟨h1, h2⟩ := h
 unfold pdSt
 by_cases he : x.ef = 0
 · obtain ⟨h3, h4⟩ := h2 he
   have hy : y.e = 0 := h1 ▸ he
   rw [if_pos he]
   have h256 := byteV_lt x.l
   refine ⟨?_, fun _ => ⟨?_, ?_⟩⟩
   · show (if byteE x.l = 0 then (if byteV x.l < 0 ∨ 255 < byteV x.l then 5 else 0) else byteE x.l) = numIE 0 255 0 y.e y.l
     rw [hy, num255, ← h3]
     by_cases hb : byteE x.l = 0
     · rw [if_pos hb, if_neg (by omega), hb]
     · rw [if_neg hb]
   · show x.l.drop (byteK x.l) = y.l.drop (kN y.e y.l)
     rw [hy, h3]; rfl
   · show ({ x.d with st := (byteV x.l : Nat) } : RpD) = { y.d with st := (vN y.e y.l : Nat) }
     rw [hy, h3, h4]; rfl
 · rw [if_neg he]
   refine ⟨?_, fun h => absurd h he⟩
   show x.ef = numIE 0 255 0 y.e y.l
   have hy : y.e ≠ 0 := by rw [← h1]; exact he
   unfold numIE eN
   rw [if_neg (fun h => hy h.1), if_pos hy, h1]
theorem rel_n {x : PD} {y : DD} (h : Rel x y) : Rel (pdN x) (ddN y) := by
 obtain ⟨h1, h2⟩ := h
 unfold pdN
 by_cases he : x.ef = 0
 · obtain ⟨h3, h4⟩ := h2 he
   have hy : y.e = 0 := h1 ▸ he
   rw [if_pos he]
   refine ⟨?_, fun _ => ⟨?_, ?_⟩⟩
   · show numE 4294967295 x.l = eM 4294967295 y.e y.l
     rw [hy, h3]; rfl
   · show x.l.drop (numK 4294967295 x.l) = y.l.drop (kM 4294967295 y.e y.l)
     rw [hy, h3]; rfl
   · show ({ x.d with n := (numV 4294967295 x.l : Nat) } : RpD) = { y.d with n := (vM 4294967295 y.e y.l : Nat) }
     rw [hy, h3, h4]; rfl
 · rw [if_neg he]
   refine ⟨?_, fun h => absurd h he⟩
   show x.ef = eM 4294967295 y.e y.l
   have hy : y.e ≠ 0 := by rw [← h1]; exact he
   unfold eM
   rw [if_pos hy, h1]
theorem rel_head (l : List UInt8) : Rel (pF l) (dF l) := rel_n (rel_st (rel_tag (rel_text (rel_err l))))
end Go.Proofs.YtbfefdedjcppaaaGreatDoor
