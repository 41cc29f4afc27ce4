/- How arrays of bytes come in. -/
import Derived.Test.YtagdedjclbmlkaaG2
import Derived.Test.YtagdedjclbmlkaaB
import Derived.ShutString
namespace Go.Proofs.Ytagdedjclbmlkaa
open Go.ChangeShapes Go.WideShapes Go.ChangeAt Go.RowKit Go.Deep

def byteOf : Value → UInt8
  | .int _ x => UInt8.ofNat x.toNat
  | _ => 0

theorem open_bytes {H : Type} {enc : TypeId × Value → H} {P : Program} {w : World} {base : Nat} {spare : Nat → Bool} {held : Bool} {r : Reach} {b0 : Nat} {t e : TypeId} {n : Nat} {v : Value} {d : DataW H} {p : List MemPlace}
    (ht : P.underlying t = some (.array n e)) (he : P.underlying e = some (.int .u8)) (hce : P.cellsOf e = 1) (hct : P.cellsOf t = n)
    (hv : Value.okWide P w r b0 t v) (h : DataW.Trod enc P w base spare held t v d p) : ∃ l : List UInt8, l.length = n ∧ v = .agg (bC l) := by
  simp only [Value.okWide, ht] at hv
  obtain ⟨cs, rfl, hsz, _⟩ := hv
  obtain ⟨fuel, hf⟩ := h
  obtain ⟨xs, m, _, _, hlen, hxs, hall⟩ := DataW.trod_array ht hf
  rw [hct] at hsz
  refine ⟨cs.toList.map byteOf, by simpa using hsz, ?_⟩
  congr 1
  apply Array.toList_inj.1
  simp only [bC, List.map_map]
  apply List.ext_getElem?
  intro i
  by_cases hi : i < n
  · have h1 := hall i hi
    rw [List.getElem?_eq_getElem (by omega)] at h1
    have e1 : ((Value.cells (.agg cs)).toList.drop (i * P.cellsOf e)).take (P.cellsOf e) = [cs[i]'(by omega)] := by
      rw [hce, Nat.mul_one]
      show (cs.toList.drop i).take 1 = _
      rw [List.drop_eq_getElem_cons (by simpa using (by omega : i < cs.size))]
      simp
    rw [e1] at h1
    obtain ⟨x, hx, _, wx⟩ := DataW.trod_int he h1
    simp only [List.cons.injEq, and_true] at hx
    have hw : 0 ≤ x ∧ x ≤ 255 := by
      simpa [Lit.wf, show IntKind.u8.min = 0 from rfl, show IntKind.u8.max = 255 from rfl] using wx
    have e2 : cs.toList[i]? = some (.int .u8 x) := by
      rw [← hx]; simp
    simp only [List.getElem?_map, e2, Option.map_some, Function.comp, byteOf]
    congr 2
    simp
    omega
  · rw [List.getElem?_eq_none (by simp; omega), List.getElem?_eq_none (by simp; omega)]

theorem bytes_of_trod {H : Type} {enc : TypeId × Value → H} {P : Program} {w : World} {base : Nat} {spare : Nat → Bool} {held : Bool} {t e : TypeId} {n fuel : Nat} {cs : List Value} {x : DataW H × List MemPlace}
    (ht : P.underlying t = some (.array n e)) (he : P.underlying e = some (.int .u8)) (hce : P.cellsOf e = 1) (hl : cs.length = n)
    (hf : DataW.trod enc P w base spare held fuel t cs = some x) : ∃ l : List UInt8, l.length = n ∧ cs = (bC l).toList := by
  obtain ⟨xs, m, _, _, hlen, hxs, hall⟩ := DataW.trod_array ht hf
  refine ⟨cs.map byteOf, by simpa using hl, ?_⟩
  simp only [bC, List.map_map]
  apply List.ext_getElem?
  intro i
  by_cases hi : i < n
  · have h1 := hall i hi
    rw [List.getElem?_eq_getElem (by omega)] at h1
    have e1 : (cs.drop (i * P.cellsOf e)).take (P.cellsOf e) = [cs[i]'(by omega)] := by
      rw [hce, Nat.mul_one, List.drop_eq_getElem_cons (by omega), List.take_succ_cons, List.take_zero]
    rw [e1] at h1
    obtain ⟨x, hx, _, wx⟩ := DataW.trod_int he h1
    simp only [List.cons.injEq, and_true] at hx
    have hw : 0 ≤ x ∧ x ≤ 255 := by
      simpa [Lit.wf, show IntKind.u8.min = 0 from rfl, show IntKind.u8.max = 255 from rfl] using wx
    have e2 : cs[i]? = some (.int .u8 x) := by
      rw [← hx]; simp
    simp only [List.getElem?_map, e2, Option.map_some, Function.comp, byteOf]
    congr 2
    simp
    omega
  · rw [List.getElem?_eq_none (by omega), List.getElem?_eq_none (by simp; omega)]

end Go.Proofs.Ytagdedjclbmlkaa
