/- symMerge at every range. -/
import Derived.Test.YthimpgnagjgmdaaH19
namespace Go.Proofs.Ythimpgnagjgmdaa
open Go.RowKit Go.Sort

theorem sym_any (bx g cap n : Nat) (cF : Int → Int → Int) (V : Int → Prop) (tail : List Value) (T : TypeId) (hsz : n ≤ 1000000) (hS : SWO (ltF cF)) : ∀ f, SymF bx g cap n cF V tail T f
  | 0 => fun a m b d w h1 h2 h3 => by omega
  | f + 1 => fun a m b d w hf ham hmb hb hn hV hF hd hs1 hs2 hl => by
    by_cases c1 : m = a + 1
    · subst c1
      exact sym1_any bx g cap n a b cF V d tail T w hF hV hd hn hmb hb hsz hS (fun q h1 h2 => hl a q (Nat.le_refl _) (by omega) h1 h2) hs2
    · by_cases c2 : b = m + 1
      · subst c2
        exact sym2_any bx g cap n a m cF V d tail T w hF hV hd hn (by omega) hb hsz hS (fun q h1 h2 => hl q m h1 h2 (Nat.le_refl _) (by omega)) hs1
      · exact symM_any bx g cap n a m b cF V d tail T w f (sym_any bx g cap n cF V tail T hsz hS f) hf hF hV hd hn (by omega) (by omega) hb hsz hS hl hs1 hs2
end Go.Proofs.Ythimpgnagjgmdaa
