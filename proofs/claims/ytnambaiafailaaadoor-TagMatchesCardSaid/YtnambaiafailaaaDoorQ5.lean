/- Tags compared; part. -/
import Derived.Test.YtnambaiafailaaaDoorP5
import Derived.Laws.StructEq
namespace Go.Proofs.YtnambaiafailaaaDoor
open Go.RowKit

theorem list10 (l : List UInt8) (h : l.length = 10) : ∃ a b c d e f g i j k, l = [a, b, c, d, e, f, g, i, j, k] := by
  match l, h with
  | [a, b, c, d, e, f, g, i, j, k], _ => exact ⟨a, b, c, d, e, f, g, i, j, k, rfl⟩
theorem run_eqIn (w : World) (t : TypeId) (n d : Nat) (ht : Tryd.prog.underlying t = some (.array n 5)) (xs ys : List UInt8) (hx : xs.length = n) (hy : ys.length = n) : (Op.equalIn (d + 2) t (.agg (bC xs)) (.agg (bC ys))).run Tryd.prog w = .ok (xs == ys) w :=
  run_equalIn_bytes w d t 5 n ht Tryd.underlying5 (fun _ => by kernel_rfl) xs ys hx hy
theorem eqIn10 (w : World) (xs ys : List UInt8) (hx : xs.length = 10) (hy : ys.length = 10) : (Op.equalIn 10000 29 (.agg (bC xs)) (.agg (bC ys))).run Tryd.prog w = .ok (xs == ys) w := by
  obtain ⟨a, b, c, d, e, f, g, i, j, k, rfl⟩ := list10 xs hx
  obtain ⟨a', b', c', d', e', f', g', i', j', k', rfl⟩ := list10 ys hy
  rw [show (10000 : Nat) = 9999 + 1 from rfl, run_equalIn_struct w 9999 29 _ _ (by kernel_rfl) (by kernel_rfl)]
  have p0 : ∀ (a b c d e f g i j k : UInt8) (w : World), (part 26 (bC [a, b, c, d, e, f, g, i, j, k]) 0).run Tryd.prog w = .ok (.agg (bC [a, b, c])) w := fun _ _ _ _ _ _ _ _ _ _ _ => by kernel_rfl
  have p1 : ∀ (a b c d e f g i j k : UInt8) (w : World), (part 27 (bC [a, b, c, d, e, f, g, i, j, k]) 3).run Tryd.prog w = .ok (.agg (bC [d, e, f, g])) w := fun _ _ _ _ _ _ _ _ _ _ _ => by kernel_rfl
  have p2 : ∀ (a b c d e f g i j k : UInt8) (w : World), (part 26 (bC [a, b, c, d, e, f, g, i, j, k]) 7).run Tryd.prog w = .ok (.agg (bC [i, j, k])) w := fun _ _ _ _ _ _ _ _ _ _ _ => by kernel_rfl
  have q0 := run_eqIn w 26 3 9997 Tryd.underlying26 [a, b, c] [a', b', c'] rfl rfl
  have q1 := run_eqIn w 27 4 9997 Tryd.underlying27 [d, e, f, g] [d', e', f', g'] rfl rfl
  have q2 := run_eqIn w 26 3 9997 Tryd.underlying26 [i, j, k] [i', j', k'] rfl rfl
  have hb : ([a, b, c, d, e, f, g, i, j, k] == [a', b', c', d', e', f', g', i', j', k']) = (([a, b, c] == [a', b', c']) && (([d, e, f, g] == [d', e', f', g']) && ([i, j, k] == [i', j', k']))) := by
    rw [Bool.eq_iff_iff]; simp; constructor
    · rintro ⟨h1, h2, h3, h4, h5, h6, h7, h8, h9, h10⟩; exact ⟨⟨h1, h2, h3⟩, ⟨h4, h5, h6, h7⟩, h8, h9, h10⟩
    · rintro ⟨⟨h1, h2, h3⟩, ⟨h4, h5, h6, h7⟩, h8, h9, h10⟩; exact ⟨h1, h2, h3, h4, h5, h6, h7, h8, h9, h10⟩
  rw [hb]
  generalize ([a, b, c] == [a', b', c']) = r0 at *
  generalize ([d, e, f, g] == [d', e', f', g']) = r1 at *
  generalize ([i, j, k] == [i', j', k']) = r2 at *
  simp only [Program.fieldsOf, Tryd.underlying29, Op.eqFields]
  simp [p0, p1, p2, q0, q1, q2]
  cases r0 <;> cases r1 <;> cases r2 <;> simp
theorem eql10 (w : World) (xs ys : List UInt8) (hx : xs.length = 10) (hy : ys.length = 10) : (binOp .eql 29 (.agg (bC xs)) (.agg (bC ys))).run Tryd.prog w = .ok (.bool (xs == ys)) w := by
  rw [run_eql_struct, eqIn10 w xs ys hx hy]; rfl
theorem neq10 (w : World) (xs ys : List UInt8) (hx : xs.length = 10) (hy : ys.length = 10) : (binOp .neq 29 (.agg (bC xs)) (.agg (bC ys))).run Tryd.prog w = .ok (.bool (!(xs == ys))) w := by
  rw [run_neq_struct, eqIn10 w xs ys hx hy]; rfl
theorem conv_any (w : World) (b o n cap : Nat) (l : List UInt8) (hl : l.length = n) (h : w.rangeAt b o (bC l).toList) :
    (convert 85 9 (.slice (some ⟨b, o, none⟩) n cap)).run Tryd.prog w = .ok (.string ⟨l.toArray⟩) w := by
  have hb : ∀ i (hi : i < l.length), w.cell? ⟨b, o + i, none⟩ = some (.int .u8 (l[i].toNat : Int)) := fun i hi => h i _ (by simp [bC, hi])
  have := run_convert_bytes_arg (P := Tryd.prog) w 85 5 Tryd.underlying85 Tryd.underlying5 b o n cap (l.map fun x => (x.toNat : Int)) (by simp; omega) (fun i hi => by
    rw [hb i (by omega)]
    simp [hl ▸ hi]) 9 Tryd.underlying9
  rw [this]
  refine congrArg (fun s => Result.ok (Value.string s) w) (ByteArray.ext (Array.toList_inj.1 ?_))
  rw [strOfNums_data, List.map_map]
  show _ = l
  conv => rhs; rw [← List.map_id l]
  apply List.map_congr_left
  intro x _
  simp
set_option maxRecDepth 100000 in
theorem part_any (b o n cap : Nat) (l : List UInt8) (w : World) (hl : l.length = n) (hn : n ≤ 1000000) (h : w.rangeAt b o (bC l).toList) :
    Calls Tryd.prog 63 #[.slice (some ⟨b, o, none⟩) n cap] w fun e w' => e = .returned (.string ⟨(frontZ l).toArray⟩) ∧ w = w' := by
  have hcv := conv_any w b o n cap l hl h
  have HT : Hid (∀ W, Calls Tryd.prog 69 #[.string ⟨l.toArray⟩, .string ⟨#[0]⟩] W fun e w' => e = .returned (.string ⟨(frontZ l).toArray⟩) ∧ w' = W) := fun W => Tryd.strings_TrimRight_one ⟨l.toArray⟩ 0 (by decide) W (by show l.toArray.size ≤ _; simp; omega)
  clear h
  go_enter Tryd.func63, Tryd.ntmps63
  go_wp2_with (go_at_call 69; (refine (HT.out _).mono ?_); rintro e w' ⟨rfl, rfl⟩)
  go_ret
  exact ⟨rfl, rfl⟩
end Go.Proofs.YtnambaiafailaaaDoor
