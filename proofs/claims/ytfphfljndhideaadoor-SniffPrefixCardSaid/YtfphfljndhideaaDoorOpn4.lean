/- A slice of bytes, as an argument: its room, too. -/
import Derived.Test.YtfphfljndhideaaDoorCommon
import Derived.Test.YtfphfljndhideaaDoorS2
import Derived.Deep.Slices
set_option linter.unusedVariables false
set_option linter.unusedSimpArgs false
namespace Go.Proofs.YtfphfljndhideaaDoor
open Go.ChangeShapes Go.WideShapes Go.ChangeAt Go.RowKit Jw Lab

theorem open_bytes2 {H : Type} {enc : TypeId × Value → H} {P : Program} {W : World} {t e : TypeId} {v : Value} {d : DataW H} {ps : List MemPlace} {r : Reach} {b0 : Nat}
    (ht : P.underlying t = some (.slice e)) (he : P.underlying e = some (.int .u8)) (hc : P.cellsOf e = 1)
    (hval : Value.okWide P W r b0 t v) (h : DataW.Trod enc P W 0 (fun _ => true) true t v d ps) (hlt : ∀ x ∈ ps, x.block < W.heap.size) :
    ∃ l : List UInt8, Rb W v l ∧ l.length ≤ maxLen ∧ (∀ n c, v = .slice none n c → n = 0 ∧ c = 0) ∧ ∀ o n c, v = .slice o n c → n ≤ c ∧ c ≤ maxLen := by
  obtain ⟨ao, len, cap, rfl⟩ := okWide_slice ht hval
  obtain ⟨fuel, hf⟩ := h
  rcases open_ints ht he hc hf with ⟨hcs, hx⟩ | ⟨a, len', cap', zs, hcs, _, hl, hm, hz, hx, hcell, hwz⟩
  · simp only [Value.cells, List.cons.injEq, and_true, Value.slice.injEq] at hcs
    obtain ⟨rfl, rfl, rfl⟩ := hcs
    exact ⟨[], ⟨none, 0, rfl, fun h => absurd rfl h⟩, by simp, fun n c e => by injection e with _ e1 e2; exact ⟨e1.symm, e2.symm⟩, fun o n c e => by injection e with _ e1 e2; subst e1 e2; simp⟩
  · simp only [Value.cells, List.cons.injEq, and_true, Value.slice.injEq] at hcs
    obtain ⟨rfl, rfl, rfl⟩ := hcs
    simp only [Prod.mk.injEq] at hx
    obtain ⟨rfl, rfl⟩ := hx
    simp only [if_true] at hz
    have hlen : ((zs.take len).map fun z => UInt8.ofNat z.toNat).length = len := by rw [List.length_map, List.length_take]; omega
    refine ⟨(zs.take len).map fun z => UInt8.ofNat z.toNat, ⟨some a, cap, by rw [hlen], fun hn => ?_⟩, by rw [hlen]; omega, (fun n c e => by cases e), fun o n c e => by injection e with _ e1 e2; subst e1 e2; exact ⟨hl, hm⟩⟩
    rw [hlen] at hn
    have h0 := hcell 0 (by omega)
    have hsp : a.spot = none := by
      rcases hsp : a.spot with _ | x
      · rfl
      · simp only [Addr.add, if_true] at h0
        unfold World.cell? at h0; rw [hsp] at h0; split at h0 <;> simp at h0
    obtain ⟨b, off, spot⟩ := a
    simp only at hsp
    subst hsp
    have hb : b < W.heap.size := by
      have := hlt (.cell b off) (by simp [MemPlace.row]; omega)
      exact this
    refine ⟨b, off, rfl, hb, fun k hk => ?_⟩
    rw [hlen] at hk
    have := hcell k (by omega)
    rw [addr_add] at this
    have hkz : k < zs.length := by omega
    have hm2 : zs.getD k 0 ∈ zs := by
      rw [List.getD_eq_getElem?_getD, List.getElem?_eq_getElem hkz]
      exact List.getElem_mem hkz
    have hb2 := hwz _ hm2
    simp only [Lit.wf, Bool.and_eq_true, decide_eq_true_eq] at hb2
    have hb3 : 0 ≤ zs.getD k 0 ∧ zs.getD k 0 ≤ 255 := ⟨hb2.1, hb2.2⟩
    rw [this, List.getD_eq_getElem?_getD (l := List.map _ _), List.getElem?_map, List.getElem?_take_of_lt hk, List.getElem?_eq_getElem hkz]
    have e2 : zs.getD k 0 = zs[k] := by rw [List.getD_eq_getElem?_getD, List.getElem?_eq_getElem hkz]; rfl
    rw [e2] at hb3 ⊢
    show some (Value.int .u8 zs[k]) = some (.int .u8 ((UInt8.ofNat zs[k].toNat).toNat : Int))
    congr 2
    have : (UInt8.ofNat zs[k].toNat).toNat = zs[k].toNat := by
      rw [UInt8.toNat_ofNat']
      omega
    rw [this]
    omega
end Go.Proofs.YtfphfljndhideaaDoor
