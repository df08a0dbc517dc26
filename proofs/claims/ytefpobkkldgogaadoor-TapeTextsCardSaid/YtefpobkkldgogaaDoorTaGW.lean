/- What the listed variables give the walks. -/
import Derived.Test.YtefpobkkldgogaaDoorTaG
import Derived.Test.YtefpobkkldgogaaDoorRows
import Derived.ProofKit
import Derived.LaidMore
import Derived.OpenShut
import Derived.ShutString
import Derived.Lay
import Derived.Lib.LaidTab
import Derived.Stop.LaidErr
import Derived.Stop.Joined
import Derived.Shelf.Vars
import Derived.SevenTiedAt
namespace Go.Proofs.YtefpobkkldgogaaDoor
open Go.ChangeShapes Go.WideShapes Go.ChangeAt Go.RowKit

theorem own : ownKnob Tryd.prog.godebug = none := by kernel_rfl
theorem laidOut : laidOutB Tryd.prog = true := by kernel_rfl
theorem star : "*" ++ "errors.errorString" = "*errors.errorString" := by decide
theorem perr_row (u : TypeId) (h : Tryd.prog.typeName? 3 u = some "*errors.errorString") : u = 142 :=
  typeName_ptr_named (nm := "errors.errorString") (by rw [star]; kernel_rfl) (by kernel_rfl) (by decide) u (by rw [star]; exact h)
abbrev laidL : List (String × DataW Unit) := [("math/bits.deBruijn32tab", Rows.laid_math_bits_deBruijn32tab), ("math/bits.deBruijn64tab", Rows.laid_math_bits_deBruijn64tab), ("internal/strconv.uint64pow10", Rows.laid_internal_strconv_uint64pow10), ("unicode/utf8.acceptRanges", Rows.laid_unicode_utf8_acceptRanges), ("strconv.ErrRange", Rows.laid_strconv_ErrRange), ("strconv.ErrSyntax", Rows.laid_strconv_ErrSyntax), ("unicode/utf8.first", Rows.laid_unicode_utf8_first)]
theorem GW.of_laid {W : World} (hL0 : laidMetH Tryd.prog laidL W) (hsh : W.ShapedOpen Tryd.prog) : GW W := by
  rw [MakeChecks.laidMetH_plain _ _ _ (by kernel_rfl)] at hL0
  have h3 := hL0.tail.tail
  have h5 := h3.tail.tail
  have h6 := h5.tail
  refine ⟨cell_of_shapedOpen_int (g := 0) (t := 3) (zero := #[.int .i64 0]) hsh (of_decide_eq_true (by kernel_rfl)) (by kernel_rfl) rfl (by kernel_rfl) (by kernel_rfl) Tryd.underlying3, ?_, ?_, Lib.tabIs_of_head (g := 1) (by kernel_rfl) (by kernel_rfl) Tryd.underlying128 Tryd.underlying112 (by kernel_rfl) (by kernel_rfl) h3⟩
  · obtain ⟨a, s, hv, _⟩ := laid_sentinel h6 (g := 4) (by kernel_rfl) (by kernel_rfl) Tryd.underlying76 perr_row Tryd.underlying142 Tryd.underlying144 rfl rfl Tryd.underlying9 (by kernel_rfl) (by kernel_rfl)
    have := World.var?_cell (g := 4) (by kernel_rfl) hv 0
    exact ⟨_, _, this⟩
  · obtain ⟨a, s, hv, _⟩ := laid_sentinel h5 (g := 5) (by kernel_rfl) (by kernel_rfl) Tryd.underlying76 perr_row Tryd.underlying142 Tryd.underlying144 rfl rfl Tryd.underlying9 (by kernel_rfl) (by kernel_rfl)
    have := World.var?_cell (g := 5) (by kernel_rfl) hv 0
    exact ⟨_, _, this⟩
theorem toStr (b : ByteArray) : ∃ xs : List UInt8, b = strOf xs := ⟨b.data.toList, by simp [strOf]⟩
end Go.Proofs.YtefpobkkldgogaaDoor
