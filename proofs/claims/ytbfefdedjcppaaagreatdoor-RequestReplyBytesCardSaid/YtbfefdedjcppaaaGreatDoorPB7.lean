/- A reply that was read is printed as it was. Plain. -/
import Derived.Test.YtbfefdedjcppaaaGreatDoorPN6
import Derived.Test.YtbfefdedjcppaaaGreatDoorPX6
namespace Go.Proofs.YtbfefdedjcppaaaGreatDoor
open Go.RowKit Go.Deep
theorem lowB_u8' (b : UInt8) : lowB (b.toNat : Int) = b := by
 unfold lowB
 rw [← UInt8.toNat_inj, UInt8.toNat_ofNat']
 have := b.toNat_lt
 omega
theorem wStep_fit' {room : Nat} {s : List UInt8 × Nat} {u : List UInt8} (h : s.2 = 0) (hl : s.1.length + u.length ≤ room) : wStep room s u = (s.1 ++ u, 0) := by
 unfold wStep
 rw [if_pos ⟨h, hl⟩, if_neg (fun h' => by omega), h]
theorem wBytes_fit' {room : Nat} (xs : List UInt8) : ∀ {s : List UInt8 × Nat}, s.2 = 0 → s.1.length + xs.length ≤ room → wBytes room s xs = (s.1 ++ xs, 0) := by
 induction xs with
 | nil => intro s h _; show s = _; rw [List.append_nil, ← h]
 | cons b xs ih =>
   intro s h hl
   rw [List.length_cons] at hl
   show wBytes room (wStep room s [b]) xs = _
   rw [wStep_fit' h (by simp; omega), ih rfl (by simp; omega), List.append_assoc]
   rfl
def evL (v : Ev) : List UInt8 := if v.mark = true then 2 :: small v.at_.toNat else (if v.dead = true then 1 else 0) :: (small v.at_.toNat ++ v.key)
theorem evW_fit {s : List UInt8 × Nat} {v : Ev} (h : s.2 = 0) (hl : s.1.length + (evL v).length ≤ 4096) : evW s v = (s.1 ++ evL v, 0) := by
 unfold evW
 unfold evL at hl ⊢
 split
 · rename_i hm
   rw [if_pos hm, List.length_cons] at hl
   rw [wBytes_fit' [2] h (by simp; omega), wStep_fit' rfl (by simp; omega), List.append_assoc]; rfl
 · rename_i hm
   rw [if_neg hm, List.length_cons, List.length_append] at hl
   rw [wBytes_fit' _ h (by simp; omega), wStep_fit' rfl (by simp; omega), wBytes_fit' _ rfl (by simp; omega), List.append_assoc, List.append_assoc]; rfl
theorem foldE_fit (es : List Ev) : ∀ {s : List UInt8 × Nat}, s.2 = 0 → s.1.length + (es.flatMap evL).length ≤ 4096 → es.foldl evW s = (s.1 ++ es.flatMap evL, 0) := by
 induction es with
 | nil => intro s h _; show s = _; rw [List.flatMap_nil, List.append_nil, ← h]
 | cons v es ih =>
   intro s h hl
   rw [List.flatMap_cons, List.length_append] at hl
   rw [List.foldl_cons, evW_fit h (by omega), ih rfl (by simp only [List.length_append]; omega), List.flatMap_cons, List.append_assoc]
def headL (x : RpD) (m : Nat) : List UInt8 := [lowB x.err] ++ ((small x.text.size ++ x.text.data.toList) ++ ((small (textB x.tag).length ++ textB x.tag) ++ ([lowB x.st] ++ (small x.n.toNat ++ [lowB m]))))
theorem head_fit (x : RpD) (m : Nat) (h : (headL x m).length ≤ 4096) : yS x m 6 = (headL x m, 0) := by
 unfold headL at h
 simp only [List.length_append, List.length_cons, List.length_nil] at h
 have h1 : yS x m 1 = ([lowB x.err], 0) := by
   show wBytes 4096 ([], 0) [lowB x.err] = _
   rw [wBytes_fit' _ rfl (by simp)]; rfl
 have h2 : yS x m 2 = ([lowB x.err] ++ (small x.text.size ++ x.text.data.toList), 0) := by
   show wStep 4096 (yS x m 1) _ = _
   rw [h1, wStep_fit' rfl (by simp only [List.length_append, List.length_cons, List.length_nil]; omega)]
 have h3 : yS x m 3 = ([lowB x.err] ++ (small x.text.size ++ x.text.data.toList) ++ (small (textB x.tag).length ++ textB x.tag), 0) := by
   show wStep 4096 (yS x m 2) _ = _
   rw [h2, wStep_fit' rfl (by simp only [List.length_append, List.length_cons, List.length_nil]; omega)]
 have h4 : yS x m 4 = ([lowB x.err] ++ (small x.text.size ++ x.text.data.toList) ++ (small (textB x.tag).length ++ textB x.tag) ++ [lowB x.st], 0) := by
   show wBytes 4096 (yS x m 3) _ = _
   rw [h3, wBytes_fit' _ rfl (by simp only [List.length_append, List.length_cons, List.length_nil]; omega)]
 have h5 : yS x m 5 = ([lowB x.err] ++ (small x.text.size ++ x.text.data.toList) ++ (small (textB x.tag).length ++ textB x.tag) ++ [lowB x.st] ++ small x.n.toNat, 0) := by
   show wStep 4096 (yS x m 4) _ = _
   rw [h4, wStep_fit' rfl (by simp only [List.length_append, List.length_cons, List.length_nil]; omega)]
 show wBytes 4096 (yS x m 5) [lowB m] = _
 rw [h5, wBytes_fit' _ rfl (by simp only [List.length_append, List.length_cons, List.length_nil]; omega)]
 unfold headL
 simp only [List.append_assoc]
theorem prS_fit (x : RpD) (es : List Ev) (h : (headL x es.length ++ es.flatMap evL).length ≤ 4096) : prS x es = (headL x es.length ++ es.flatMap evL, 0) := by
 rw [List.length_append] at h
 unfold prS
 rw [head_fit x es.length (by omega), foldE_fit es rfl (by omega)]
end Go.Proofs.YtbfefdedjcppaaaGreatDoor
