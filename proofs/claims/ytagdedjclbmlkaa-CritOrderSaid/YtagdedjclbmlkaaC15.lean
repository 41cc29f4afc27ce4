/- walk: the leaves below a node, in order. -/
import Derived.Test.YtagdedjclbmlkaaC14
namespace Go.Proofs.Ytagdedjclbmlkaa
open Go.RowKit

attribute [local go_sem] Oper.semAt_some

/-- The walk stands here. -/
structure Stands (p : Prop) : Prop where
  out : p
theorem stands {p : Prop} (h : Stands p) : p := h.out
set_option maxRecDepth 100000 in
set_option maxHeartbeats 4000000 in
theorem walk_in (fb yb n : Nat) (o : Option T) (St Sx : List (LV o) → World → Prop) (All : List (LV o))
    (hY : ∀ (p : List (LV o)) (x : LV o) W, p ++ [x] <+: All → St p W → CallsIn Fence.wide n Try.prog 57 #[.pointer (some ⟨x.val.1, 0, none⟩), .pointer (some ⟨fb, 0, none⟩), .pointer (some ⟨yb, 0, none⟩)] W fun e W' =>
      (e = .returned (.bool true) ∧ St (p ++ [x]) W') ∨ (e = .returned (.bool false) ∧ Sx (p ++ [x]) W')) :
    ∀ (t : T) (h : ∀ x ∈ lvs t, x ∈ lvsO o) (p : List (LV o)) (W : World), (∀ q W', St q W' → InT W' t) → p ++ lvIn o (lvs t) h <+: All → St p W →
      CallsIn Fence.wide n Try.prog 56 #[.pointer (some ⟨t.addr, 0, none⟩), .func (.func 57) #[] #[.pointer (some ⟨fb, 0, none⟩), .pointer (some ⟨yb, 0, none⟩)]] W fun e W' =>
        (e = .returned (.bool true) ∧ St (p ++ lvIn o (lvs t) h) W') ∨ (e = .returned (.bool false) ∧ ∃ q, q <+: lvIn o (lvs t) h ∧ Sx (p ++ q) W') := by
  intro t
  induction t with
  | leaf a k v =>
    intro h p W hT hA hs
    have hc0 : W.cell? ⟨a, 0, none⟩ = some (.bool true) := by
      have hr : W.heap[a]? = some (.cells (leafC k v).toArray NODE (0, 0)) := hT p W hs
      rw [cell_blk hr]; rfl
    obtain ⟨x, hx, hxv⟩ : ∃ x : LV o, lvIn o (lvs (.leaf a k v)) h = [x] ∧ x.val.1 = a := ⟨⟨(a, k, v), h (a, k, v) (by simp [lvs])⟩, rfl, rfl⟩
    rw [hx] at hA
    have KY := Lib.hid (hY p x W hA hs)
    rw [hxv] at KY
    rw [hx]
    clear hx hxv
    have KZ := Lib.hid (callsIn_wide.1 KY.out)
    clear hY hT hs KY hA
    refine callsIn_wide.2 ?_
    show Calls Try.prog 56 #[.pointer (some ⟨a, 0, none⟩), _] W _
    go_enter Try.func56, Try.ntmps56
    go_wp2_with (go_at_call 57; refine stands ?_)
    refine ⟨?_⟩
    refine KZ.out.mono ?_
    rintro e W2 (⟨rfl, h1⟩ | ⟨rfl, h1⟩)
    · have H1 := Lib.hid h1
      clear h1
      go_wp2_with fail
      go_ret
      exact .inl ⟨rfl, H1.out⟩
    · have H1 := Lib.hid h1
      clear h1
      go_wp2_with fail
      go_ret
      exact .inr ⟨rfl, [x], List.prefix_refl _, H1.out⟩
  | fork a b l r ihl ihr =>
    intro h p W hT hA hs
    rw [show lvIn o (lvs (.fork a b l r)) h = lvIn o (lvs l) (fun x hx => h x (by simp [lvs, hx])) ++ lvIn o (lvs r) (fun x hx => h x (by simp [lvs, hx])) from lvIn_append h, ← List.append_assoc] at hA
    have hA1 : p ++ lvIn o (lvs l) (fun x hx => h x (by simp [lvs, hx])) <+: All := (List.prefix_append _ _).trans hA
    have hr : W.heap[a]? = some (.cells (forkC b l.addr r.addr).toArray NODE (0, 0)) := (hT p W hs).1
    have hc0 : W.cell? ⟨a, 0, none⟩ = some (.bool false) := by rw [cell_blk hr]; rfl
    have hc53 : W.cell? ⟨a, 53, none⟩ = some (.pointer (some ⟨l.addr, 0, none⟩)) := by rw [cell_blk hr]; rfl
    have KL := Lib.hid (callsIn_wide.1 (ihl (fun x hx => h x (by simp [lvs, hx])) p W (fun q W' hq => (hT q W' hq).2.1) hA1 hs))
    have HR : Hid (∀ q W', q ++ lvIn o (lvs r) (fun x hx => h x (by simp [lvs, hx])) <+: All → St q W' → W'.cell? ⟨a, 54, none⟩ = some (.pointer (some ⟨r.addr, 0, none⟩)) ∧ Calls Try.prog 56 #[.pointer (some ⟨r.addr, 0, none⟩), .func (.func 57) #[] #[.pointer (some ⟨fb, 0, none⟩), .pointer (some ⟨yb, 0, none⟩)]] W' fun e W' =>
        (e = .returned (.bool true) ∧ St (q ++ lvIn o (lvs r) (fun x hx => h x (by simp [lvs, hx]))) W') ∨ (e = .returned (.bool false) ∧ ∃ m, m <+: lvIn o (lvs r) (fun x hx => h x (by simp [lvs, hx])) ∧ Sx (q ++ m) W')) := fun q W' hqA hq =>
      ⟨by rw [cell_blk (hT q W' hq).1]; rfl, callsIn_wide.1 (ihr (fun x hx => h x (by simp [lvs, hx])) q W' (fun q W' hq => (hT q W' hq).2.2) hqA hq)⟩
    have HX : Hid (lvIn o (lvs (.fork a b l r)) h = lvIn o (lvs l) (fun x hx => h x (by simp [lvs, hx])) ++ lvIn o (lvs r) (fun x hx => h x (by simp [lvs, hx]))) := lvIn_append h
    generalize lvIn o (lvs (.fork a b l r)) h = all at *
    generalize lvIn o (lvs l) (fun x hx => h x (by simp [lvs, hx])) = Ll at *
    generalize lvIn o (lvs r) (fun x hx => h x (by simp [lvs, hx])) = Lr at *
    have HA := Lib.hid hA
    clear hY hT hs ihl ihr hr h hA hA1
    refine callsIn_wide.2 ?_
    show Calls Try.prog 56 #[.pointer (some ⟨a, 0, none⟩), _] W _
    go_enter Try.func56, Try.ntmps56
    go_wp2_with (go_at_call 56; refine stands ?_)
    refine ⟨?_⟩
    refine KL.out.mono ?_
    rintro e W2 (⟨rfl, h1⟩ | ⟨rfl, q, hq, h1⟩)
    · obtain ⟨hc54, hk⟩ := HR.out _ _ HA.out h1
      have KR := Lib.hid hk
      clear h1 hk HR KL hc0 hc53
      go_wp2_with (go_at_call 56; refine stands ?_)
      refine ⟨?_⟩
      refine KR.out.mono ?_
      rintro e W3 (⟨rfl, h1⟩ | ⟨rfl, m, hm, h1⟩)
      · have H1 := Lib.hid h1
        clear h1
        go_wp2_with fail
        go_ret
        refine .inl ⟨rfl, ?_⟩
        rw [HX.out, ← List.append_assoc]; exact H1.out
      · have H1 := Lib.hid h1
        have HM := Lib.hid hm
        clear h1 hm
        go_wp2_with fail
        go_ret
        refine .inr ⟨rfl, Ll ++ m, ?_, ?_⟩
        · rw [HX.out]; exact (List.prefix_append_right_inj _).2 HM.out
        · rw [← List.append_assoc]; exact H1.out
    · have H1 := Lib.hid h1
      have HQ := Lib.hid hq
      clear h1 hq HR KL hc0 hc53
      go_wp2_with fail
      go_ret
      refine .inr ⟨rfl, q, ?_, H1.out⟩
      rw [HX.out]; exact HQ.out.trans (List.prefix_append _ _)
theorem walkNil_any (yv : Value) (w : World) : Calls Try.prog 56 #[.pointer none, yv] w fun e w' => e = .returned (.bool true) ∧ w' = w := by
  go_enter Try.func56, Try.ntmps56
  go_wp2_with fail
  go_ret
  exact ⟨rfl, rfl⟩
end Go.Proofs.Ytagdedjclbmlkaa
