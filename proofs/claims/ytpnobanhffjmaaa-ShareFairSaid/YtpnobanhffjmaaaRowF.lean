/- Slices of doubles, and of structs of two doubles, as arguments. -/
import Derived.Test.YtpnobanhffjmaaaRow
import Derived.Deep.Slices
namespace Jw
open Go Go.RowKit Go.ChangeShapes Go.WideShapes Go.ChangeAt

theorem trod_f64 {H : Type} {enc : TypeId × Value → H} {P : Program} {w : World} {base : Nat} {sp : Nat → Bool} {held : Bool} {fuel : Nat} {t : TypeId} {v : Value} {x : DataW H × List MemPlace}
    (ht : P.underlying t = some (.float .f64)) (h : DataW.trod enc P w base sp held fuel t [v] = some x) : ∃ b, v = .float .f64 b ∧ (Lit.float .f64 b).wf = true := by
  cases fuel with
  | zero => simp [DataW.trod] at h
  | succ fuel =>
    cases v <;> simp only [DataW.trod, ht] at h <;> first | (cases h; done) | skip
    rename_i k b
    split at h
    · rename_i hh
      obtain ⟨rfl, hw⟩ := hh
      exact ⟨b, rfl, hw⟩
    · cases h

/-- A slice of doubles, as an argument. -/
theorem open_floats {H : Type} {enc : TypeId × Value → H} {P : Program} {W : World} {t e : TypeId} {v : Value} {d : DataW H} {ps : List MemPlace} {r : Reach} {b0 : Nat}
    (ht : P.underlying t = some (.slice e)) (he : P.underlying e = some (.float .f64)) (hc : P.cellsOf e = 1)
    (hval : Value.okWide P W r b0 t v) (h : DataW.Trod enc P W 0 (fun _ => true) true t v d ps) (hlt : ∀ x ∈ ps, x.block < W.heap.size) :
    ∃ (ao : Option Addr) (cap : Nat) (l : List Nat), v = .slice ao l.length cap ∧ l.length ≤ maxLen ∧
      (l.length ≠ 0 → ∃ b off, ao = some ⟨b, off, none⟩ ∧ b < W.heap.size ∧ ∀ k, k < l.length → W.cell? ⟨b, off + k, none⟩ = some (.float .f64 (l.getD k 0))) := by
  obtain ⟨ao, len, cap, rfl⟩ := okWide_slice ht hval
  obtain ⟨fuel, hf⟩ := h
  rcases Go.Deep.open_slice1 ht hc hf with ⟨hcs, hx⟩ | ⟨a, len', cap', m, n, V, D, Pl, hcs, _, hl, hm, hmm, hx, hcell⟩
  · simp only [Value.cells, List.cons.injEq, and_true, Value.slice.injEq] at hcs
    obtain ⟨rfl, rfl, rfl⟩ := hcs
    exact ⟨none, 0, [], rfl, by simp, fun h => by simp at h⟩
  · simp only [Value.cells, List.cons.injEq, and_true, Value.slice.injEq] at hcs
    obtain ⟨rfl, rfl, rfl⟩ := hcs
    simp only [Prod.mk.injEq] at hx
    obtain ⟨rfl, rfl⟩ := hx
    simp only [if_true] at hmm
    have each : ∀ i, i < len → ∃ q : Nat, W.cell? (a.add i) = some (.float .f64 q) := by
      intro i hi
      obtain ⟨k1, k2⟩ := hcell i (by omega)
      obtain ⟨q, e, _⟩ := trod_f64 he k2
      exact ⟨q, by rw [k1, e]⟩
    obtain ⟨q, hq⟩ := Go.Deep.choose_lt each
    refine ⟨some a, cap, (List.range len).map q, by simp, by simp; omega, fun hn => ?_⟩
    have hn' : 0 < len := by simp at hn; omega
    have hsp' : a.spot = none := by
      have h0 := hq 0 hn'
      simp only [Addr.add, if_true] at h0
      exact spot_none h0
    obtain ⟨b, off, spot⟩ := a
    simp only at hsp'
    subst hsp'
    have hb : b < W.heap.size := by
      have := hlt (.cell b off) (by simp [MemPlace.row]; left; omega)
      exact this
    refine ⟨b, off, rfl, hb, fun k hk => ?_⟩
    have hk' : k < len := by simpa using hk
    have g1 := hq k hk'
    rw [addr_add] at g1
    have e : ((List.range len).map q).getD k 0 = q k := by
      rw [List.getD_eq_getElem?_getD, List.getElem?_map, List.getElem?_range hk']; rfl
    rw [e]
    exact g1

/-- A slice of structs of two doubles, as an argument. -/
theorem open_fpairs {H : Type} {enc : TypeId × Value → H} {P : Program} {W : World} {t e : TypeId} {f0 f1 : Field} {v : Value} {d : DataW H} {ps : List MemPlace} {r : Reach} {b0 : Nat}
    (ht : P.underlying t = some (.slice e)) (he : P.underlying e = some (.struct #[f0, f1])) (hc : P.cellsOf e = 2) (o0 : f0.offset = 0) (o1 : f1.offset = 1) (c0 : P.cellsOf f0.type = 1) (c1 : P.cellsOf f1.type = 1)
    (i0 : P.underlying f0.type = some (.float .f64)) (i1 : P.underlying f1.type = some (.float .f64))
    (hval : Value.okWide P W r b0 t v) (h : DataW.Trod enc P W 0 (fun _ => true) true t v d ps) (hlt : ∀ x ∈ ps, x.block < W.heap.size) :
    ∃ (ao : Option Addr) (cap : Nat) (l : List (Nat × Nat)), v = .slice ao l.length cap ∧ l.length ≤ maxLen ∧ (ao = none → l.length = 0 ∧ cap = 0) ∧
      (l.length ≠ 0 → ∃ b off, ao = some ⟨b, off, none⟩ ∧ b < W.heap.size ∧
        ∀ k, k < l.length → W.cell? ⟨b, off + k * 2, none⟩ = some (.float .f64 (l.getD k (0, 0)).1) ∧ W.cell? ⟨b, off + k * 2 + 1, none⟩ = some (.float .f64 (l.getD k (0, 0)).2)) := by
  obtain ⟨ao, len, cap, rfl⟩ := okWide_slice ht hval
  obtain ⟨fuel, hf⟩ := h
  rcases Go.Deep.open_slice_pairs ht he hc o0 o1 c0 c1 hf with ⟨hcs, hx⟩ | ⟨a, len', cap', m, n, V0, V1, D0, D1, P0, P1, hcs, _, hl, hm, hmm, hx, hcell⟩
  · simp only [Value.cells, List.cons.injEq, and_true, Value.slice.injEq] at hcs
    obtain ⟨rfl, rfl, rfl⟩ := hcs
    exact ⟨none, 0, [], rfl, by simp, fun _ => ⟨rfl, rfl⟩, fun h => by simp at h⟩
  · simp only [Value.cells, List.cons.injEq, and_true, Value.slice.injEq] at hcs
    obtain ⟨rfl, rfl, rfl⟩ := hcs
    simp only [Prod.mk.injEq] at hx
    obtain ⟨rfl, rfl⟩ := hx
    simp only [if_true] at hmm
    have each : ∀ i, i < len → ∃ q : Nat × Nat, W.cell? (a.add (i * 2)) = some (.float .f64 q.1) ∧ W.cell? (a.add (i * 2 + 1)) = some (.float .f64 q.2) := by
      intro i hi
      obtain ⟨k1, k2, k3, k4⟩ := hcell i (by omega)
      obtain ⟨z0, e0, _⟩ := trod_f64 i0 k3
      obtain ⟨z1, e1, _⟩ := trod_f64 i1 k4
      exact ⟨(z0, z1), by rw [k1, e0], by rw [k2, e1]⟩
    obtain ⟨q, hq⟩ := Go.Deep.choose_lt each
    refine ⟨some a, cap, (List.range len).map q, by simp, by simp; omega, fun h => (by cases h), fun hn => ?_⟩
    have hn' : 0 < len := by simp at hn; omega
    have hsp' : a.spot = none := by
      have h0 := (hq 0 hn').1
      simp only [Nat.zero_mul, Addr.add, if_true] at h0
      exact spot_none h0
    obtain ⟨b, off, spot⟩ := a
    simp only at hsp'
    subst hsp'
    have hb : b < W.heap.size := by
      have := hlt (.cell b off) (by simp [MemPlace.row]; left; omega)
      exact this
    refine ⟨b, off, rfl, hb, fun k hk => ?_⟩
    have hk' : k < len := by simpa using hk
    obtain ⟨g1, g2⟩ := hq k hk'
    rw [addr_add] at g1 g2
    have e : ((List.range len).map q).getD k (0, 0) = q k := by
      rw [List.getD_eq_getElem?_getD, List.getElem?_map, List.getElem?_range hk']; rfl
    rw [e]
    exact ⟨g1, by rw [← Nat.add_assoc] at g2; exact g2⟩
end Jw
