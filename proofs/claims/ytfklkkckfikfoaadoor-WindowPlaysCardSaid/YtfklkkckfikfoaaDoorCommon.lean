/- The closed facts that the rows of this seat share. -/
import Derived.Test.YtfklkkckfikfoaaDoorCards
import Derived.Test.YtfklkkckfikfoaaDoorTie
import Derived.Test.YtfklkkckfikfoaaDoorRow
import Derived.Test.YtfklkkckfikfoaaDoorLaid
namespace Go.Proofs.YtfklkkckfikfoaaDoor
open Go.ChangeShapes Go.WideShapes Go.ChangeAt Go.RowKit Jw

theorem own : ownKnob Tryd.prog.godebug = none := by kernel_rfl
theorem star : "*" ++ "errors.errorString" = "*errors.errorString" := by decide
theorem sentTypes : SentTypes Tryd.prog 31 63 80 9 where
  hi := ⟨_, Tryd.underlying31⟩
  hrow := fun u h => typeName_ptr_named (nm := "errors.errorString") (by rw [star]; kernel_rfl) (by kernel_rfl) (by decide) u (by rw [star]; exact h)
  hp := Tryd.underlying63
  he := ⟨_, Tryd.underlying80, rfl, rfl⟩
  hs := Tryd.underlying9
  hc := by kernel_rfl
  hcs := by kernel_rfl
noncomputable def low : Nat := (World.holding Tryd.prog default ⟨#[], #[], []⟩).heap.size
end Go.Proofs.YtfklkkckfikfoaaDoor
