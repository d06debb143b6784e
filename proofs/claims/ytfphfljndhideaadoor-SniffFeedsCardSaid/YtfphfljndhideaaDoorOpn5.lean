/- A slice of slices of bytes, as an argument. -/
import Derived.Test.YtfphfljndhideaaDoorCommon
import Derived.Test.YtfphfljndhideaaDoorF2
import Derived.Deep.Matrix
set_option linter.unusedVariables false
set_option linter.unusedSimpArgs false
namespace Go.Proofs.YtfphfljndhideaaDoor
open Go.ChangeShapes Go.WideShapes Go.ChangeAt Go.RowKit Jw Lab

def u8s (zs : List Int) : List UInt8 := zs.map fun z => UInt8.ofNat z.toNat
theorem spot_of {W : World} {a : Addr} {v : Value} (h : W.cell? (a.add 0) = some v) : a.spot = none := by
  rcases hsp : a.spot with _ | x
  · rfl
  · simp only [Addr.add, if_true] at h
    unfold World.cell? at h; rw [hsp] at h; split at h <;> simp at h
theorem u8_one (z : Int) (h : (Lit.int .u8 z).wf = true) : z = ((UInt8.ofNat z.toNat).toNat : Int) := by
  simp only [Lit.wf, Bool.and_eq_true, decide_eq_true_eq] at h
  have hb : 0 ≤ z ∧ z ≤ 255 := ⟨h.1, h.2⟩
  rw [UInt8.toNat_ofNat']
  omega
theorem rb_ints {W : World} {A : Option Addr} {L C : Nat} {zs : List Int} (hLC : L ≤ C) (hz : zs.length = C) (hwf : ∀ n ∈ zs, (Lit.int .u8 n).wf = true) (hnil : A = none → C = 0)
    (hlt : ∀ a', A = some a' → C ≠ 0 → a'.block < W.heap.size) (hc : ∀ a', A = some a' → ∀ c, c < C → W.cell? (a'.add c) = some (.int .u8 (zs.getD c 0))) : Rb W (.slice A L C) (u8s (zs.take L)) := by
  have hlen : (u8s (zs.take L)).length = L := by rw [u8s, List.length_map, List.length_take]; omega
  refine ⟨A, C, by rw [hlen], fun hn => ?_⟩
  rw [hlen] at hn
  cases A with
  | none => have := hnil rfl; omega
  | some a =>
    have h0 := hc a rfl 0 (by omega)
    have hs := spot_of h0
    have hb := hlt a rfl (by omega)
    obtain ⟨b, off, spot⟩ := a
    simp only at hs
    subst hs
    refine ⟨b, off, rfl, hb, fun k hk => ?_⟩
    rw [hlen] at hk
    have := hc _ rfl k (by omega)
    rw [addr_add] at this
    have hkz : k < zs.length := by omega
    rw [this, u8s, List.getD_eq_getElem?_getD, List.getD_eq_getElem?_getD, List.getElem?_map, List.getElem?_take_of_lt hk, List.getElem?_eq_getElem hkz]
    exact congrArg (fun z => some (Value.int .u8 z)) (u8_one _ (hwf _ (List.getElem_mem hkz)))
theorem open_pieces {H : Type} {enc : TypeId × Value → H} {P : Program} {W : World} {t e q : TypeId} {v : Value} {d : DataW H} {ps : List MemPlace} {r : Reach} {b0 : Nat}
    (ht : P.underlying t = some (.slice e)) (he : P.underlying e = some (.slice q)) (hq : P.underlying q = some (.int .u8)) (ce : P.cellsOf e = 1) (cq : P.cellsOf q = 1)
    (hval : Value.okWide P W r b0 t v) (h : DataW.Trod enc P W 0 (fun _ => true) true t v d ps) (hlt : ∀ x ∈ ps, x.block < W.heap.size) :
    ∃ L : List (List UInt8), Rbb W v L ∧ L.length ≤ maxLen ∧ ∀ p ∈ L, p.length ≤ maxLen := by
  obtain ⟨ao, len, cap, rfl⟩ := okWide_slice ht hval
  obtain ⟨fuel, hf⟩ := h
  rcases Go.Deep.open_int_rows ht he hq ce cq hf with ⟨hcs, hx⟩ | ⟨a, len', cap', A, L, C, Z, hcs, _, hl, hm, hx, hrow⟩
  · simp only [Value.cells, List.cons.injEq, and_true, Value.slice.injEq] at hcs
    obtain ⟨rfl, rfl, rfl⟩ := hcs
    exact ⟨[], ⟨none, 0, rfl, fun h => absurd rfl h⟩, by simp, by simp⟩
  · simp only [Value.cells, List.cons.injEq, and_true, Value.slice.injEq] at hcs
    obtain ⟨rfl, rfl, rfl⟩ := hcs
    simp only [Prod.mk.injEq] at hx
    obtain ⟨rfl, rfl⟩ := hx
    have hlen : ((List.range len).map fun r => u8s ((Z r).take (L r))).length = len := by simp
    refine ⟨(List.range len).map fun r => u8s ((Z r).take (L r)), ⟨some a, cap, by rw [hlen], fun hn => ?_⟩, by rw [hlen]; omega, fun p hp => ?_⟩
    · rw [hlen] at hn
      have h0 := (hrow 0 (by omega)).1
      have hs := spot_of h0
      have hb : a.block < W.heap.size := by
        obtain ⟨b, off, spot⟩ := a
        simp only at hs
        subst hs
        have := hlt (.cell b off) (by simp [MemPlace.row]; omega)
        exact this
      obtain ⟨b, off, spot⟩ := a
      simp only at hs
      subst hs
      refine ⟨b, off, rfl, hb, fun k hk => ?_⟩
      rw [hlen] at hk
      obtain ⟨c1, c2, c3, c4, c5, c6, c7⟩ := hrow k (by omega)
      rw [addr_add] at c1
      refine ⟨_, c1, ?_, fun n c e => ?_⟩
      · have e : ((List.range len).map fun r => u8s ((Z r).take (L r))).getD k [] = u8s ((Z k).take (L k)) := by
          rw [List.getD_eq_getElem?_getD, List.getElem?_map, List.getElem?_range hk]
          rfl
        rw [e]
        refine rb_ints c2 c4 c5 c6 (fun a' ha hC => ?_) (fun a' ha => (c7 a' ha).2)
        have h1 := (c7 a' ha).2 0 (by omega)
        have hs' := spot_of h1
        have hmem : ∀ x ∈ MemPlace.row a' (Z k).length, x.block < W.heap.size := fun x hx => hlt x (by
          refine List.mem_append_right _ (List.mem_flatMap.2 ⟨k, List.mem_range.2 (by omega), ?_⟩)
          rw [ha]
          exact hx)
        obtain ⟨b', off', spot'⟩ := a'
        simp only at hs'
        subst hs'
        have := hmem (.cell b' off') (by simp [MemPlace.row]; omega)
        exact this
      · injection e with e1 e2 e3
        have := c6 e1
        omega
    · obtain ⟨r', hr', rfl⟩ := List.mem_map.1 hp
      have hr2 := List.mem_range.1 hr'
      obtain ⟨_, c2, c3, c4, _⟩ := hrow r' (by omega)
      rw [u8s, List.length_map, List.length_take]
      omega
end Go.Proofs.YtfphfljndhideaaDoor
