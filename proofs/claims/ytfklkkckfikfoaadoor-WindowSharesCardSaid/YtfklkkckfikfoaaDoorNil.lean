/- A nil list of ints, as an argument. -/
import Derived.Test.YtfklkkckfikfoaaDoorRow
import Derived.Deep.Slices
set_option linter.unusedVariables false
set_option linter.unusedSimpArgs false
namespace Jw
open Go Go.RowKit Go.ChangeShapes Go.WideShapes Go.ChangeAt

theorem open_nil {H : Type} {enc : TypeId × Value → H} {P : Program} {W : World} {t e : TypeId} {v : Value} {d : DataW H} {ps : List MemPlace} {r : Reach} {b0 : Nat}
    (ht : P.underlying t = some (.slice e)) (he : P.underlying e = some (.int .i64)) (hc : P.cellsOf e = 1)
    (hval : Value.okWide P W r b0 t v) (h : DataW.Trod enc P W 0 (fun _ => true) true t v d ps) : ∀ (ao : Option Addr) (len cap : Nat), v = .slice ao len cap → ao = none → len = 0 ∧ cap = 0 := by
  obtain ⟨ao, len, cap, rfl⟩ := okWide_slice ht hval
  obtain ⟨fuel, hf⟩ := h
  rcases open_ints ht he hc hf with ⟨hcs, hx⟩ | ⟨a, len', cap', zs, hcs, _⟩
  · simp only [Value.cells, List.cons.injEq, and_true, Value.slice.injEq] at hcs
    obtain ⟨rfl, rfl, rfl⟩ := hcs
    intro ao' l' c' e _
    injection e with _ e1 e2
    exact ⟨e1.symm, e2.symm⟩
  · simp only [Value.cells, List.cons.injEq, and_true, Value.slice.injEq] at hcs
    obtain ⟨rfl, rfl, rfl⟩ := hcs
    intro ao' l' c' e hn
    injection e with e0 _ _
    rw [hn] at e0
    cases e0
end Jw
