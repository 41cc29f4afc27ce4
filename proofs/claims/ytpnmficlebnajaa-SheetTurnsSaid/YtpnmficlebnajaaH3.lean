/- texts: a list's texts, by their names. -/
import Derived.Test.YtpnmficlebnajaaH2
import Derived.Test.YtpnmficlebnajaaF13
namespace Go.Proofs.Ytpnmficlebnajaa
open Go.RowKit

theorem wl_mu {ops : Array Oper} {rest : List Oper} {o : Oper} {a : Act} {w : World} {Q : Exit → Act → World → Prop} (hw : Region.wanted o (yielded ops a.tmps) = true) (x y z : Operand)
    (ho : o.op = .mapUpdate 84 x y z) (r : Nat) (hx : a.eval x = .map (some r)) (k : List UInt8) (hy : a.eval y = .agg (bC k)) (hk : k.length = 12) (v : ByteArray) (hz : a.eval z = .string v) (m : TM) (hs : MapIs w r m)
    (h : ∀ w', MapIs w' r (putM m k v) → Turn [r] w w' → wpList Try.prog ops Q rest (a.put o.dst undef) w') : wpList Try.prog ops Q (o :: rest) a w :=
  wpList_step fun K hK => by
    rw [if_pos hw]
    obtain ⟨ob, h1, h2⟩ := hs.put k v hk
    unfold Oper.wp execOp
    simp only [ho, hx, hy, hz, Sem.run_bind, h1, Result.andThen_ok, Sem.run_pure]
    exact hK _ _ (h _ h2 (Turn.put r w ob))
/-- The texts of entries, by their names. -/
def putE (m : TM) (l : List Ent) : TM := l.foldl (fun m x => putM m x.n x.t) m
theorem putE_next (m : TM) {l : List Ent} {i : Nat} (h : i < l.length) : putE m (l.take (i + 1)) = putM (putE m (l.take i)) l[i].n l[i].t := by
  unfold putE
  rw [List.take_succ_eq_append_getElem h, List.foldl_append]
  rfl
set_option maxRecDepth 100000 in
set_option maxHeartbeats 4000000 in
theorem texts_any (q : Option Addr) (l : List Ent) (n cap : Nat) (w : World) (hn : l.length = n) (hc : n ≤ cap) (hm : cap ≤ maxLen) (hq : SlAt entC 13 w q l) :
    Calls Try.prog 40 #[.slice q n cap] w fun e w' => ∃ r, e = .returned (.map (some r)) ∧ MapIs w' r (putE [] l) ∧ w.heap.size ≤ r ∧ Below w.heap.size w w' := by
  unfold maxLen at hm
  have HQ := Lib.hid hq
  have HN := Lib.hid hn
  have HM0 := Lib.hid (mapIs_new w)
  have HW0 : Hid (Below w.heap.size w (w.alloc (.map #[] 0))) := below_alloc1 _ _
  clear hq hn
  have hmm := @run_makeMap Try.prog
  go_enter Try.func40, Try.ntmps40
  go_upto_region 2 with fail
  generalize w.alloc (.map #[] 0) = W0 at *
  obtain ⟨r, hr⟩ : ∃ r, r = w.heap.size := ⟨_, rfl⟩
  rw [← hr] at HM0 ⊢
  have HRr : Hid (w.heap.size ≤ r) := Lib.hid (Nat.le_of_eq hr.symm)
  clear hr
  go_wp2_with fail
  go_loopw [9] (fun i wr => ∃ k : Nat, k ≤ n ∧ i = .int .i64 k ∧ Hid (MapIs wr r (putE [] (l.take k))) ∧ Hid (Below w.heap.size w wr)) (fun i _ => n - (intOf i).toNat)
  case atStart => exact ⟨0, Nat.zero_le _, rfl, HM0, HW0⟩
  case round =>
    obtain ⟨k, hk, rfl, HM, HW⟩ := hrel
    by_cases hlt : k < n
    · have hlt' : (k : Int) < n := by omega
      have hk2 : k < l.length := by rw [HN.out]; exact hlt
      obtain ⟨b, ob, rfl, hb, hr⟩ := HQ.out k hk2
      have HR : Hid (wr.rangeAt b (ob + k * 13) (entC l[k])) := range_of_block hr (HW.out.block b hb)
      have HPn : Hid (putE [] (l.take (k + 1)) = putM (putE [] (l.take k)) l[k].n l[k].t) := putE_next [] hk2
      clear hr
      generalize l[k] = x at *
      generalize putE [] (l.take k) = m at *
      have HX12 : Hid (x.n.length = 12) := x.hn
      have hba := below_alloc1 wr (.cells (entC x).toArray 44)
      have HW1 : Hid (Below w.heap.size w (wr.alloc (.cells (entC x).toArray 44))) := HW.out.trans (hba.mono HW.out.size)
      have HM1 : Hid (MapIs (wr.alloc (.cells (entC x).toArray 44)) r m) := HM.out.block (hba.block _ HM.out.lt)
      have hr1 : (wr.alloc (.cells (entC x).toArray 44)).rangeAt wr.heap.size 0 (entC x) := range_whole (heap_alloc_new _ _)
      have HX1 := Lib.hid (ent_name hr1)
      have hxt : (wr.alloc (.cells (entC x).toArray 44)).cell? ⟨wr.heap.size, 12, none⟩ = some (.string x.t) := by have := ent_text hr1; simpa using this
      clear hr1 hba
      go_upto_region 5 with (first
        | (with_reducible refine ld_E rfl _ rfl b (ob + k * 13) x rfl HR.out ?_)
        | (refine wl_strn rfl 44 _ _ rfl (entC x).toArray _ _ (sizE'' x) (entC_sz x) (entC_all x) rfl rfl ?_))
      generalize wr.alloc (.cells (entC x).toArray 44) = W1 at *
      generalize wr.heap.size = g at *
      go_wp2_with (first
        | (with_reducible refine ld_N rfl _ rfl g 0 x.n HX12.out rfl HX1.out ?_)
        | (refine wl_mu rfl (.tmp 13) (.tmp 15) (.tmp 17) rfl r rfl x.n rfl HX12.out x.t rfl m HM1.out ?_; intro W2 hm2 ht2))
      have hb2 : Below w.heap.size w W2 := HW1.out.trans (ht2.below (by intro x hx; rw [List.mem_singleton] at hx; rw [hx]; exact HRr.out) HW1.out.size)
      go_roundw
      case rel => exact ⟨k + 1, by omega, by go_num, by rw [HPn.out]; exact hm2, hb2⟩
      case measure => simp [intOf]; omega
    · obtain rfl : k = n := by omega
      have HMf : Hid (MapIs wr r (putE [] l)) := by
        have := HM.out
        rwa [List.take_of_length_le (by rw [HN.out]; omega)] at this
      go_wp2_with fail
      go_ret
      exact ⟨r, rfl, HMf.out, HRr.out, HW.out⟩
end Go.Proofs.Ytpnmficlebnajaa
