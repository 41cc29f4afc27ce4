/- The table of powers, out of what a row's condition says; how a row of acts and its bytes are handed over. -/
import Derived.Test.YtmbbhnbfgcmkgaaDoorKN
import Derived.Test.YtmbbhnbfgcmkgaaDoorGT
import Derived.Stop.LaidErr
import Derived.Lib.LaidTab
import Derived.Test.YtmbbhnbfgcmkgaaDoorCards
import Derived.Test.YtmbbhnbfgcmkgaaDoorTie
namespace Go.Proofs.YtmbbhnbfgcmkgaaDoor
open Go.RowKit
theorem tb_of_laid {W : World} {n1 n2 : String} {d1 d2 : DataW Unit} {rest : List (String × DataW Unit)} (hL : laidMetH Tryd.prog ((n1, d1) :: (n2, d2) :: ("internal/strconv.uint64pow10", Rows.laid_internal_strconv_uint64pow10) :: rest) W) (hp : (((n1, d1) :: (n2, d2) :: ("internal/strconv.uint64pow10", Rows.laid_internal_strconv_uint64pow10) :: rest).all fun x => x.2.handleName?.isNone) = true) : TB W := by
  rw [MakeChecks.laidMetH_plain _ _ _ hp] at hL
  exact Lib.tabIs_of_head (g := 1) (t := 101) (e := 92) (n := 20) (by kernel_rfl) (by kernel_rfl) Tryd.underlying101 Tryd.underlying92 (by kernel_rfl) (by kernel_rfl) hL.tail.tail
theorem mx_of_shape {w : World} (h : w.ShapedOpen Tryd.prog) : MX w :=
  cell_of_shapedOpen_int (g := 0) (t := 3) (zero := #[.int .i64 0]) h (of_decide_eq_true (by kernel_rfl)) (by kernel_rfl) rfl (by kernel_rfl) (by kernel_rfl) Tryd.underlying3
end Go.Proofs.YtmbbhnbfgcmkgaaDoor
