/- A slice of texts, as an argument. -/
import Derived.Test.YtfphfljndhideaaDoorCommon
import Derived.Test.YtfphfljndhideaaDoorF
import Derived.SliceStrings
set_option linter.unusedVariables false
set_option linter.unusedSimpArgs false
namespace Go.Proofs.YtfphfljndhideaaDoor
open Go.ChangeShapes Go.WideShapes Go.ChangeAt Go.RowKit Jw Lab

theorem bulk_each {H : Type} {l : List ByteArray} {p : ByteArray} (h : p ∈ l) : p.data.toList.length + 1 ≤ Rows.uptoBulkAll (Go.ChangeShapes.strs l : List (DataW H)) := by
  have h1 := bulk_part (H := H) (d := DataW.lit (.string p.data.toList)) (l := Go.ChangeShapes.strs l) (List.mem_map.2 ⟨p, h, rfl⟩)
  have h2 : Rows.uptoBulk (DataW.lit (H := H) (.string p.data.toList)) = p.data.toList.length + 1 := by simp [Rows.uptoBulk]
  omega
theorem bulk_count {H : Type} (l : List (DataW H)) : l.length ≤ Rows.uptoBulkAll l := by
  induction l with
  | nil => simp [Rows.uptoBulkAll]
  | cons x r ih =>
    have := bulk_one x
    simp only [Rows.uptoBulkAll, List.length_cons]
    omega
theorem open_txts {H : Type} {enc : TypeId × Value → H} {P : Program} {W : World} {t e : TypeId} {v : Value} {d : DataW H} {ps : List MemPlace} {r : Reach} {b0 : Nat}
    (ht : P.underlying t = some (.slice e)) (he : P.underlying e = some .string) (hc : P.cellsOf e = 1)
    (hval : Value.okWide P W r b0 t v) (h : DataW.Trod enc P W 0 (fun _ => true) true t v d ps) (hlt : ∀ x ∈ ps, x.block < W.heap.size) :
    ∃ (L : List (List UInt8)), Rs W v L ∧ L.length ≤ maxLen ∧ (∀ p ∈ L, p.length ≤ maxLen) ∧ L.length ≤ Rows.uptoBulk d ∧ ∀ p ∈ L, p.length ≤ Rows.uptoBulk d := by
  obtain ⟨ao, len, cap, rfl⟩ := okWide_slice ht hval
  obtain ⟨fuel, hf⟩ := h
  rcases open_strings ht he hc hf with ⟨hcs, hx⟩ | ⟨a, len', cap', ss, hcs, _, hl, hm, hz, hx, hcell, hwz⟩
  · simp only [Value.cells, List.cons.injEq, and_true, Value.slice.injEq] at hcs
    obtain ⟨rfl, rfl, rfl⟩ := hcs
    exact ⟨[], ⟨none, 0, rfl, fun h => absurd rfl h⟩, by simp, by simp, by simp, by simp⟩
  · simp only [Value.cells, List.cons.injEq, and_true, Value.slice.injEq] at hcs
    obtain ⟨rfl, rfl, rfl⟩ := hcs
    simp only [Prod.mk.injEq] at hx
    obtain ⟨rfl, rfl⟩ := hx
    simp only [if_true] at hz
    have hlen : ((ss.take len).map fun s => s.data.toList).length = len := by rw [List.length_map, List.length_take]; omega
    have hbk : Rows.uptoBulk (DataW.slice (H := H) (Go.ChangeShapes.strs (ss.take len)) (Go.ChangeShapes.strs (ss.drop len))) = Rows.uptoBulkAll (Go.ChangeShapes.strs (ss.take len) : List (DataW H)) + Rows.uptoBulkAll (Go.ChangeShapes.strs (ss.drop len) : List (DataW H)) + 1 := by simp [Rows.uptoBulk]
    refine ⟨(ss.take len).map fun s => s.data.toList, ⟨some a, cap, by rw [hlen], fun hn => ?_⟩, by rw [hlen]; omega, fun p hp => ?_, ?_, fun p hp => ?_⟩
    · rw [hlen] at hn
      have h0 := hcell 0 (by omega)
      have hsp : a.spot = none := by
        rcases hsp : a.spot with _ | x
        · rfl
        · simp only [Addr.add, if_true] at h0
          unfold World.cell? at h0; rw [hsp] at h0; split at h0 <;> simp at h0
      obtain ⟨b, off, spot⟩ := a
      simp only at hsp
      subst hsp
      have hb : b < W.heap.size := by
        have := hlt (.cell b off) (by simp [MemPlace.row]; omega)
        exact this
      refine ⟨b, off, rfl, hb, fun k hk => ?_⟩
      rw [hlen] at hk
      have := hcell k (by omega)
      rw [addr_add] at this
      rw [this, List.getD_eq_getElem?_getD, List.getD_eq_getElem?_getD, List.getElem?_map, List.getElem?_take_of_lt hk, List.getElem?_eq_getElem (by omega)]
      rfl
    · obtain ⟨s, hs, rfl⟩ := List.mem_map.1 hp
      exact hwz s (List.mem_of_mem_take hs)
    · rw [hlen, hbk]
      have := bulk_count (Go.ChangeShapes.strs (ss.take len) : List (DataW H))
      have h2 : (Go.ChangeShapes.strs (ss.take len) : List (DataW H)).length = len := by rw [Go.ChangeShapes.strs, List.length_map, List.length_take]; omega
      omega
    · obtain ⟨s, hs, rfl⟩ := List.mem_map.1 hp
      have := bulk_each (H := H) hs
      rw [hbk]
      omega
end Go.Proofs.YtfphfljndhideaaDoor
