/- The closed facts that the rows of this seat share. -/
import Derived.Test.YtjjaghiihkdclaaDoorCards
import Derived.Test.YtjjaghiihkdclaaDoorTie
import Derived.Test.YtjjaghiihkdclaaDoorRow
import Derived.Test.YtjjaghiihkdclaaDoorLaid
set_option linter.unusedVariables false
set_option linter.unusedSimpArgs false
namespace Go.Proofs.YtjjaghiihkdclaaDoor
open Go.ChangeShapes Go.WideShapes Go.ChangeAt Go.RowKit Jw

theorem own : ownKnob Tryd.prog.godebug = none := by kernel_rfl
theorem star : "*" ++ "errors.errorString" = "*errors.errorString" := by decide
theorem sentTypes : SentTypes Tryd.prog 26 67 84 9 where
  hi := ⟨_, Tryd.underlying26⟩
  hrow := fun u h => typeName_ptr_named (nm := "errors.errorString") (by rw [star]; kernel_rfl) (by kernel_rfl) (by decide) u (by rw [star]; exact h)
  hp := Tryd.underlying67
  he := ⟨_, Tryd.underlying84, rfl, rfl⟩
  hs := Tryd.underlying9
  hc := by kernel_rfl
  hcs := by kernel_rfl
noncomputable def low : Nat := (World.holding Tryd.prog default ⟨#[], #[], []⟩).heap.size
end Go.Proofs.YtjjaghiihkdclaaDoor
