/-
  From the rows' laid tables to what the walks ask of the world. No claim stands here.
-/
import Derived.Test.YthkpikkjgggimaaGreatDoorRows
import Derived.Test.YthkpikkjgggimaaGreatDoorBK
import Derived.Stop.LaidErr
import Derived.Lib.LaidTab
import Derived.MakeChecks
namespace Go.Proofs.YthkpikkjgggimaaGreatDoor
open Go Go.RowKit
set_option linter.unusedVariables false

theorem pow_tab : (Rows.laid_internal_strconv_uint64pow10 : DataW Unit) = Lib.tabData .u64 Lib.pow10Tab := by kernel_rfl
theorem here_of {W : World} (hsh : W.ShapedOpen Tryz.prog)
    (hL : laidMetH Tryz.prog [("math/bits.deBruijn32tab", Rows.laid_math_bits_deBruijn32tab), ("math/bits.deBruijn64tab", Rows.laid_math_bits_deBruijn64tab), ("internal/strconv.uint64pow10", Rows.laid_internal_strconv_uint64pow10)] W) : Here W := by
  rw [MakeChecks.laidMetH_plain _ _ _ (by kernel_rfl)] at hL
  have h3 := laidMet.tail (laidMet.tail hL)
  rw [pow_tab] at h3
  exact ⟨hsh, Lib.tabIs_of_head (g := 1) (t := 152) (e := 144) (n := 20) (by kernel_rfl) (by kernel_rfl) Tryz.underlying152 Tryz.underlying144 (by kernel_rfl) (by kernel_rfl) h3⟩
end Go.Proofs.YthkpikkjgggimaaGreatDoor
