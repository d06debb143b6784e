/- A struct of two doubles, as an argument. -/
import Derived.Test.YtpnobanhffjmaaaRowF
set_option linter.unusedVariables false
set_option linter.unusedSimpArgs false
namespace Jw
open Go Go.RowKit Go.ChangeShapes Go.WideShapes Go.ChangeAt

theorem open_fpair {H : Type} {enc : TypeId × Value → H} {P : Program} {W : World} {t : TypeId} {f0 f1 : Field} {v : Value} {d : DataW H} {ps : List MemPlace} {r : Reach} {b0 : Nat}
    (ht : P.underlying t = some (.struct #[f0, f1])) (hc : P.cellsOf t = 2) (o0 : f0.offset = 0) (o1 : f1.offset = 1) (c0 : P.cellsOf f0.type = 1) (c1 : P.cellsOf f1.type = 1)
    (i0 : P.underlying f0.type = some (.float .f64)) (i1 : P.underlying f1.type = some (.float .f64))
    (hval : Value.okWide P W r b0 t v) (h : DataW.Trod enc P W 0 (fun _ => true) true t v d ps) :
    ∃ (x y : Nat), v = .agg #[.float .f64 x, .float .f64 y] := by
  obtain ⟨cs, rfl, hs⟩ := okWide_struct ht hval
  obtain ⟨fuel, hf⟩ := h
  obtain ⟨y0, y1, m, hx, hl, h0, h1⟩ := trod_struct2 ht hf
  rw [hc] at hs
  obtain ⟨a, b, rfl⟩ : ∃ a b, cs = #[a, b] := by
    rcases cs with ⟨l⟩
    match l, hs with
    | [a, b], _ => exact ⟨a, b, rfl⟩
  simp only [Value.cells, o0, o1, c0, c1] at h0 h1
  obtain ⟨z0, e0, _⟩ := trod_f64 i0 h0
  obtain ⟨z1, e1, _⟩ := trod_f64 i1 h1
  exact ⟨z0, z1, by rw [e0, e1]⟩
end Jw
