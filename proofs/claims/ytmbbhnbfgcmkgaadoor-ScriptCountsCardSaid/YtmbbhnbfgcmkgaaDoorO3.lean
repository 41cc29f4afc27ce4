/- ofs; acts compared; same. -/
import Derived.Test.YtmbbhnbfgcmkgaaDoorO2
import Derived.Laws.StructEq
import Derived.Deep.QuietTactic
namespace Go.Proofs.YtmbbhnbfgcmkgaaDoor
open Go.RowKit

theorem bel_trans2 {w a b c : World} (h1 : Below w.heap.size w a) (h2 : Below a.heap.size a b) (h3 : Below b.heap.size b c) : Below w.heap.size w c := (h1.trans (h2.mono h1.size)).trans (h3.mono (Nat.le_trans h1.size h2.size))
set_option maxRecDepth 100000 in
set_option maxHeartbeats 4000000 in
theorem ofs_any (q : Option Addr) (xs : List A4) (n cap : Nat) (w : World) (hn : xs.length = n) (hm : n ≤ 1000000) (hA : Acts w q xs) :
    Calls Tryd.prog 10 #[.slice q n cap] w fun e w' => ∃ v, e = .returned v ∧ OwnE d4C 32 4 w' w.heap.size v (xs.map A4.d) ∧ Below w.heap.size w w' := by
  have HL := Lib.hid hn
  have HA := Lib.hid hA
  clear hn hA
  go_enter Tryd.func10, Tryd.ntmps10
  go_wp2_with fail
  go_loopw [3, 4] (fun v i wr => ∃ k : Nat, k ≤ n ∧ i = .int .i64 k ∧ Hid (OwnE d4C 32 4 wr w.heap.size v ((xs.take k).map A4.d)) ∧ Hid (Below w.heap.size w wr)) (fun _ i _ => n - (intOf i).toNat)
  case atStart => exact ⟨0, Nat.zero_le _, rfl, OwnE.nil _ _, Below.refl _ _⟩
  case round =>
    obtain ⟨k, hk, rfl, HO, HB⟩ := hrel
    by_cases hlt : k < n
    · have hli : (k : Int) < n := by omega
      have hkx : k < xs.length := by rw [HL.out]; exact hlt
      obtain ⟨b, f, rfl, hb, hr⟩ := (HA.out.row.below HB.out) k hkx
      have HR := Lib.hid (InRow.mk hb hr)
      have HX := Lib.hid ((HA.out.ok _ (List.getElem_mem hkx)).below HB.out)
      have HT : Hid ((xs.take (k + 1)).map A4.d = (xs.take k).map A4.d ++ [xs[k].d]) := by show _ = _; rw [List.take_succ_eq_append_getElem hkx, List.map_append]; rfl
      have hLl : ((xs.take k).map A4.d).length ≤ 1000000 := by rw [List.length_map]; have : (xs.take k).length ≤ k := List.length_take_le _ _; omega
      clear hb hr HA HL
      generalize (xs.take k).map A4.d = L at *
      generalize xs[k] = x at *
      go_wp2_with (first
        | (refine wl_ix rfl 22 36 _ _ rfl Tryd.underlying22 4 sizA4 b f n cap k rfl rfl hlt ?_)
        | (refine ld_A4 rfl _ rfl b (f + k * 4) x rfl HR.out.row ?_)
        | (go_at_call 11; (refine (of_any x _ HX.out).mono ?_); rintro e w1 ⟨rfl, hb1⟩; have HO := ko HO hb1; have HB := bt HB hb1; clear hb1)
        | (refine bs_D4 rfl _ rfl x.d rfl ?_)
        | (refine app_D4 rfl _ _ rfl w.heap.size _ _ rfl (ko HO (below_alloc1 _ _)).out _ _ x.d rfl (fun j uu hu => by rw [Nat.zero_add, cell_blk (heap_alloc_new _ _)]; simpa using hu) hLl (by have := HB.out.size; simp; omega) (fun v' wA hoA hgA => ?_); have HO2 := Lib.hid hoA; have HB2 := Lib.hid ((bt HB (below_alloc1 _ _)).out.trans (grown_below hgA (fun g hg => (HO.out.lt g hg).1) (by have := HB.out.size; simp; omega))); clear hoA hgA))
      go_roundw
      case rel => exact ⟨k + 1, by omega, by go_num, by rw [HT.out]; exact HO2.out, HB2.out⟩
      case measure => simp [intOf]; omega
    · obtain rfl : n = k := by omega
      have hE : Hid ((xs.take n).map A4.d = xs.map A4.d) := by show _ = _; rw [List.take_of_length_le (Nat.le_of_eq HL.out)]
      go_wp2_with fail
      go_ret
      exact ⟨_, rfl, by rw [← hE.out]; exact HO.out, HB.out⟩

theorem eqInD (w : World) (a b : D4) : (Op.equalIn 10000 32 (.agg (d4C a).toArray) (.agg (d4C b).toArray)).run Tryd.prog w = .ok (decide (a = b)) w := by
  rw [show (10000 : Nat) = 9999 + 1 from rfl, run_equalIn_struct w 9999 32 _ _ (by kernel_rfl) (by kernel_rfl)]
  have p0 : ∀ (x y z u : Value) (w : World), (part 3 #[x, y, z, u] 0).run Tryd.prog w = .ok x w := fun _ _ _ _ _ => by kernel_rfl
  have p1 : ∀ (x y z u : Value) (w : World), (part 3 #[x, y, z, u] 1).run Tryd.prog w = .ok y w := fun _ _ _ _ _ => by kernel_rfl
  have p2 : ∀ (x y z u : Value) (w : World), (part 3 #[x, y, z, u] 2).run Tryd.prog w = .ok z w := fun _ _ _ _ _ => by kernel_rfl
  have p3 : ∀ (x y z u : Value) (w : World), (part 9 #[x, y, z, u] 3).run Tryd.prog w = .ok u w := fun _ _ _ _ _ => by kernel_rfl
  have q : ∀ (d : Nat) (x y : List UInt8) (w : World), (Op.equalIn (d + 1) 9 (.string ⟨x.toArray⟩) (.string ⟨y.toArray⟩)).run Tryd.prog w = .ok (x == y) w := fun d x y w => by
    rw [run_equalIn_string w d 9 _ _ Tryd.underlying9, ByteArray.toList_eq, ByteArray.toList_eq]
  have qi : ∀ (d : Nat) (x y : Int) (w : World), (Op.equalIn (d + 1) 3 (.int .i64 x) (.int .i64 y)).run Tryd.prog w = .ok (x == y) w := fun d x y w => by
    rw [run_equalIn_int (k' := .i64) (h := Tryd.underlying3)]
  obtain ⟨a1, a2, a3, a4⟩ := a
  obtain ⟨b1, b2, b3, b4⟩ := b
  have hb : decide (({ kind := a1, who := a2, n := a3, b := a4 } : D4) = { kind := b1, who := b2, n := b3, b := b4 }) = ((a1 == b1) && ((a2 == b2) && ((a3 == b3) && (a4 == b4)))) := by
    rw [Bool.eq_iff_iff]; simp
  rw [hb]
  have r1 := qi 9998 a1 b1
  have r2 := qi 9998 a2 b2
  have r3 := qi 9998 a3 b3
  have r4 := q 9998 a4 b4
  generalize (a1 == b1) = c1 at *
  generalize (a2 == b2) = c2 at *
  generalize (a3 == b3) = c3 at *
  generalize (a4 == b4) = c4 at *
  simp only [Program.fieldsOf, Tryd.underlying32, Op.eqFields, d4C]
  simp [p0, p1, p2, p3, r1, r2, r3, r4]
  cases c1 <;> cases c2 <;> cases c3 <;> cases c4 <;> simp
theorem eqlD (w : World) (a b : D4) : (binOp .eql 32 (.agg (d4C a).toArray) (.agg (d4C b).toArray)).run Tryd.prog w = .ok (.bool (decide (a = b))) w := by
  rw [run_eql_struct, eqInD w a b]; rfl
theorem neqD (w : World) (a b : D4) : (binOp .neq 32 (.agg (d4C a).toArray) (.agg (d4C b).toArray)).run Tryd.prog w = .ok (.bool (!decide (a = b))) w := by
  rw [run_neq_struct, eqInD w a b]; rfl
end Go.Proofs.YtmbbhnbfgcmkgaaDoor
