/- A slice of bytes, as an argument. -/
import Derived.Test.YtjjaghiihkdclaaDoorRow
set_option linter.unusedVariables false
set_option linter.unusedSimpArgs false
namespace Jw
open Go Go.RowKit Go.ChangeShapes Go.WideShapes Go.ChangeAt
theorem open_u8s {H : Type} {enc : TypeId × Value → H} {P : Program} {W : World} {t e : TypeId} {v : Value} {d : DataW H} {ps : List MemPlace} {r : Reach} {b0 : Nat}
    (ht : P.underlying t = some (.slice e)) (he : P.underlying e = some (.int .u8)) (hc : P.cellsOf e = 1)
    (hval : Value.okWide P W r b0 t v) (h : DataW.Trod enc P W 0 (fun _ => true) true t v d ps) (hlt : ∀ x ∈ ps, x.block < W.heap.size) :
    ∃ (ao : Option Addr) (cap : Nat) (zs : List Int), v = .slice ao zs.length cap ∧ zs.length ≤ cap ∧ cap ≤ maxLen ∧ (ao = none → zs.length = 0 ∧ cap = 0) ∧
      (zs.length ≠ 0 → ∃ b off, ao = some ⟨b, off, none⟩ ∧ b < W.heap.size ∧ ∀ k, k < zs.length → W.cell? ⟨b, off + k, none⟩ = some (.int .u8 (zs.getD k 0))) ∧
      (∀ k, 0 ≤ zs.getD k 0 ∧ zs.getD k 0 ≤ 255) := by
  obtain ⟨ao, len, cap, rfl⟩ := okWide_slice ht hval
  obtain ⟨fuel, hf⟩ := h
  rcases open_ints ht he hc hf with ⟨hcs, hx⟩ | ⟨a, len', cap', zs, hcs, _, hl, hm, hz, hx, hcell, hwz⟩
  · simp only [Value.cells, List.cons.injEq, and_true, Value.slice.injEq] at hcs
    obtain ⟨rfl, rfl, rfl⟩ := hcs
    exact ⟨none, 0, [], rfl, by simp, by simp, fun _ => ⟨rfl, rfl⟩, fun h => by simp at h, fun k => by simp⟩
  · simp only [Value.cells, List.cons.injEq, and_true, Value.slice.injEq] at hcs
    obtain ⟨rfl, rfl, rfl⟩ := hcs
    simp only [Prod.mk.injEq] at hx
    obtain ⟨rfl, rfl⟩ := hx
    simp only [if_true] at hz
    have hlen : (zs.take len).length = len := by rw [List.length_take]; omega
    refine ⟨some a, cap, zs.take len, by rw [hlen], by omega, hm, (fun h => by cases h), (fun hn => ?_), fun k => ?_⟩
    · rw [hlen] at hn
      have h0 := hcell 0 (by omega)
      have hsp : a.spot = none := by
        rcases hsp : a.spot with _ | x
        · rfl
        · simp only [Addr.add, if_true] at h0
          unfold World.cell? at h0; rw [hsp] at h0; split at h0 <;> simp at h0
      obtain ⟨b, off, spot⟩ := a
      simp only at hsp
      subst hsp
      have hb : b < W.heap.size := by
        have := hlt (.cell b off) (by simp [MemPlace.row]; omega)
        exact this
      refine ⟨b, off, rfl, hb, fun k hk => ?_⟩
      rw [hlen] at hk
      have := hcell k (by omega)
      rw [addr_add] at this
      rw [this, List.getD_eq_getElem?_getD, List.getD_eq_getElem?_getD, List.getElem?_take_of_lt hk]
    · rcases Nat.lt_or_ge k (zs.take len).length with hk | hk
      · have hm2 : (zs.take len).getD k 0 ∈ zs := by
          rw [List.getD_eq_getElem?_getD, List.getElem?_eq_getElem hk]
          exact List.mem_of_mem_take (List.getElem_mem hk)
        have := hwz _ hm2
        simp [Lit.wf] at this
        exact ⟨this.1, this.2⟩
      · rw [List.getD_eq_getElem?_getD, List.getElem?_eq_none hk]
        simp
end Jw
