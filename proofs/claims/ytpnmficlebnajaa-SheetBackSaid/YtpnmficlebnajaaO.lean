/- The two orders. -/
import Derived.Test.YtpnmficlebnajaaT3
namespace Go.Proofs.Ytpnmficlebnajaa
open Go.RowKit

theorem run_loadBytes (w : World) (b : Nat) (l : List UInt8) (c : Nat) (h : Row w b 0 l) : (Extern.Bytes.bytesOf (.slice (some ⟨b, 0, none⟩) l.length c)).run Try.prog w = .ok ⟨l.toArray⟩ w := by
  have hl := Lib.run_loadBytesX (P := Try.prog) w (l.map fun x => (x.toNat : Int)) ⟨b, 0, none⟩ .empty (fun j x hj => by
    have hjl : j < l.length := by
      have := (List.getElem?_eq_some_iff.1 hj).1
      simpa using this
    have e : (⟨b, 0, none⟩ : Addr).add j = ⟨b, 0 + j, none⟩ := by unfold Addr.add; split <;> simp_all
    rw [e, row_nums h j hjl, List.getD_eq_getElem?_getD, hj]
    rfl)
  rw [nums_bytes, List.length_map] at hl
  unfold Extern.Bytes.bytesOf
  rw [hl]
  congr 1
  apply ByteArray.ext
  show (#[] : Array UInt8) ++ l.toArray = l.toArray
  simp

theorem run_compare (w : World) (b1 b2 n1 n2 c1 c2 : Nat) (l1 l2 : List UInt8) (h1 : Row w b1 0 l1) (h2 : Row w b2 0 l2) (e1 : l1.length = n1) (e2 : l2.length = n2) :
    (callFunc 60 #[.slice (some ⟨b1, 0, none⟩) n1 c1, .slice (some ⟨b2, 0, none⟩) n2 c2]).run Try.prog w = .ok (.value (.int .i64 (Lib.compareBytes l1 l2))) w := by
  subst e1 e2
  rw [run_callFunc_extern Try.func60 (by kernel_rfl) (by kernel_rfl) (by kernel_rfl) (e := Extern.BytealgCompare.compare) (by kernel_rfl)]
  change ((do
    let x ← Extern.Bytes.bytesOf (.slice (some ⟨b1, 0, none⟩) l1.length c1)
    let y ← Extern.Bytes.bytesOf (.slice (some ⟨b2, 0, none⟩) l2.length c2)
    pure (goInt (Extern.BytealgCompare.cmp x y)) : Sem Value).run Try.prog w).andThen _ = _
  simp only [Sem.run_bind, run_loadBytes w b1 l1 c1 h1, run_loadBytes w b2 l2 c2 h2, Result.andThen, Sem.run_pure, Lib.cmp_eq]
  rfl

set_option maxHeartbeats 400000 in
theorem compare_any (b1 b2 n1 n2 c1 c2 : Nat) (l1 l2 : List UInt8) (w : World) (h1 : Row w b1 0 l1) (h2 : Row w b2 0 l2) (e1 : l1.length = n1) (e2 : l2.length = n2) :
    Calls Try.prog 53 #[.slice (some ⟨b1, 0, none⟩) n1 c1, .slice (some ⟨b2, 0, none⟩) n2 c2] w fun e w' => e = .returned (.int .i64 (Lib.compareBytes l1 l2)) ∧ w = w' := by
  have hx := run_compare w b1 b2 n1 n2 c1 c2 l1 l2 h1 h2 e1 e2
  clear e1 e2
  have H1 := Lib.hid h1
  have H2 := Lib.hid h2
  clear h1 h2
  go_enter Try.func53, Try.ntmps53
  go_wp2
  go_ret
  exact ⟨rfl, rfl⟩

def lessL (a b : List UInt8) : Bool := decide (Lib.compareBytes a b < 0)

set_option maxHeartbeats 400000 in
theorem less_any (a b : List UInt8) (w : World) (ha : a.length = 12) (hb : b.length = 12) :
    Calls Try.prog 45 #[.agg (bC a), .agg (bC b)] w fun e w' => e = .returned (.bool (lessL a b)) ∧ Below w.heap.size w w' := by
  have HA := Lib.hid ha
  have HB := Lib.hid hb
  clear ha hb
  have h1 := heap_alloc2_old w (.cells (bC a) 40) (.cells (bC b) 40)
  have h2 := heap_alloc2_new w (.cells (bC a) 40) (.cells (bC b) 40)
  have H1 := Lib.hid h1
  have H2 := Lib.hid h2
  clear h1 h2
  go_enter Try.func45, Try.ntmps45
  go_wp2_with fail
  refine wp_region_quiet_below (by kernel_rfl) (by kernel_rfl) ?_
  repeat go_big_quiet_step (exact Calls.regrown_of ((compare_any _ _ 12 12 _ _ a b _ (row_of_block (rg_block H1.out _ _)) (row_of_block (rg_block H2.out _ _)) HA.out HB.out).mono fun _ _ ⟨he, hw⟩ => ⟨he, hw ▸ Below.refl _ _⟩))
  refine wpQuiet_nil ?_
  rintro _ ⟨⟨dq, osq⟩, rfl⟩
  go_wp2_with fail
  go_ret
  exact ⟨rfl, (below_alloc2 _ _ _).trans ((below_regrown _ dq osq).mono (by simp; omega))⟩

/-- The reference's order. -/
def lessR : List UInt8 → List UInt8 → Bool
  | x :: a, y :: b => if x = y then lessR a b else decide (x.toNat < y.toNat)
  | _, _ => false
theorem lessR_drop (a b : List UInt8) (k : Nat) (ha : k < a.length) (hb : k < b.length) : lessR (a.drop k) (b.drop k) = if a[k] = b[k] then lessR (a.drop (k + 1)) (b.drop (k + 1)) else decide (a[k].toNat < b[k].toNat) := by
  rw [List.drop_eq_getElem_cons ha, List.drop_eq_getElem_cons hb]; rfl

set_option maxHeartbeats 400000 in
theorem refLess_any (a b : List UInt8) (w : World) (ha : a.length = 12) (hb : b.length = 12) :
    Calls Try.prog 33 #[.agg (bC a), .agg (bC b)] w fun e w' => e = .returned (.bool (lessR a b)) ∧ Below w.heap.size w w' := by
  have HA := Lib.hid ha
  have HB := Lib.hid hb
  go_enter Try.func33, Try.ntmps33
  go_wp2_with fail
  go_loopw [5] (fun i wr => ∃ k : Nat, k ≤ 12 ∧ i = .int .i64 k ∧ Hid (lessR a b = lessR (a.drop k) (b.drop k)) ∧ ∃ n, wr = ((w.alloc (.cells (bC a) 39)).alloc (.cells (bC b) 39)).drewN n) (fun i _ => 12 - (intOf i).toNat)
  case atStart => exact ⟨0, Nat.zero_le _, rfl, rfl, 0, rfl⟩
  case round =>
    obtain ⟨k, hk, rfl, HL, n, rfl⟩ := hrel
    by_cases hlt : k < 12
    · have c1 : ((w.alloc (.cells (bC a) 39)).alloc (.cells (bC b) 39)).cell? ⟨w.heap.size, k, none⟩ = some (.int .u8 (a[k].toNat : Int)) := by
        have := row_of_block (heap_alloc2_old w (.cells (bC a) 39) (.cells (bC b) 39)) k (by omega)
        simpa using this
      have c2 : ((w.alloc (.cells (bC a) 39)).alloc (.cells (bC b) 39)).cell? ⟨w.heap.size + 1, k, none⟩ = some (.int .u8 (b[k].toNat : Int)) := by
        have := row_of_block (heap_alloc2_new w (.cells (bC a) 39) (.cells (bC b) 39)) k (by omega)
        simpa using this
      have hk' : (k : Int) < 12 := by omega
      have HS : Hid (lessR (a.drop k) (b.drop k) = if a[k] = b[k] then lessR (a.drop (k + 1)) (b.drop (k + 1)) else decide (a[k].toNat < b[k].toNat)) := lessR_drop a b k (by omega) (by omega)
      by_cases e : a[k] = b[k]
      · have q1 : ((a[k].toNat : Int) != (b[k].toNat : Int)) = false := by rw [e]; simp
        have HE := Lib.hid e; clear e
        go_wp2_with fail
        go_quiet (fail)
        go_wp2_with fail
        go_roundw
        case rel => exact ⟨k + 1, by omega, by go_num, by show lessR a b = _; rw [HL.out, HS.out, if_pos HE.out], n + nq, rfl⟩
        case measure => simp [intOf]; omega
      · have q1 : ((a[k].toNat : Int) != (b[k].toNat : Int)) = true := by
          rw [bne_iff_ne]; intro h; apply e; apply UInt8.toNat_inj.1; omega
        have HE := Lib.hid e; clear e
        go_wp2_with fail
        go_quiet (fail)
        go_wp2_with fail
        go_quiet (fail)
        go_wp2_with fail
        go_ret
        refine ⟨ret_bool (by rw [HL.out, HS.out, if_neg HE.out]; try simp), below_drewN (below_drewN (below_drewN (below_alloc2 _ _ _) _) _) _⟩
    · obtain rfl : k = 12 := by omega
      have HD : Hid (lessR (a.drop 12) (b.drop 12) = false) := by
        show lessR _ _ = false
        rw [List.drop_of_length_le (by omega)]; rfl
      go_wp2_with fail
      go_ret
      refine ⟨ret_bool (by rw [HL.out, HD.out]), below_drewN (below_alloc2 _ _ _) _⟩

end Go.Proofs.Ytpnmficlebnajaa
