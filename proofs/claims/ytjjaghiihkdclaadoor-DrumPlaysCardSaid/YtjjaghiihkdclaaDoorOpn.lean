/- A slice of bytes, as an argument. -/
import Derived.Test.YtjjaghiihkdclaaDoorRow
import Derived.Deep.Slices
import Derived.Deep.Fields
import Derived.ChangeSame
set_option linter.unusedVariables false
set_option linter.unusedSimpArgs false
namespace Jw
open Go Go.RowKit Go.ChangeShapes Go.WideShapes Go.ChangeAt Go.Deep
theorem open_u8s {H : Type} {enc : TypeId × Value → H} {P : Program} {W : World} {t e : TypeId} {v : Value} {d : DataW H} {ps : List MemPlace} {r : Reach} {b0 : Nat}
    (ht : P.underlying t = some (.slice e)) (he : P.underlying e = some (.int .u8)) (hc : P.cellsOf e = 1)
    (hval : Value.okWide P W r b0 t v) (h : DataW.Trod enc P W 0 (fun _ => true) true t v d ps) (hlt : ∀ x ∈ ps, x.block < W.heap.size) :
    ∃ (ao : Option Addr) (cap : Nat) (zs : List Int), v = .slice ao zs.length cap ∧ zs.length ≤ cap ∧ cap ≤ maxLen ∧ (ao = none → zs.length = 0 ∧ cap = 0) ∧
      (zs.length ≠ 0 → ∃ b off, ao = some ⟨b, off, none⟩ ∧ b < W.heap.size ∧ ∀ k, k < zs.length → W.cell? ⟨b, off + k, none⟩ = some (.int .u8 (zs.getD k 0))) ∧
      (∀ k, 0 ≤ zs.getD k 0 ∧ zs.getD k 0 ≤ 255) := by
  obtain ⟨ao, len, cap, rfl⟩ := okWide_slice ht hval
  obtain ⟨fuel, hf⟩ := h
  rcases open_ints ht he hc hf with ⟨hcs, hx⟩ | ⟨a, len', cap', zs, hcs, _, hl, hm, hz, hx, hcell, hwz⟩
  · simp only [Value.cells, List.cons.injEq, and_true, Value.slice.injEq] at hcs
    obtain ⟨rfl, rfl, rfl⟩ := hcs
    exact ⟨none, 0, [], rfl, by simp, by simp, fun _ => ⟨rfl, rfl⟩, fun h => by simp at h, fun k => by simp⟩
  · simp only [Value.cells, List.cons.injEq, and_true, Value.slice.injEq] at hcs
    obtain ⟨rfl, rfl, rfl⟩ := hcs
    simp only [Prod.mk.injEq] at hx
    obtain ⟨rfl, rfl⟩ := hx
    simp only [if_true] at hz
    have hlen : (zs.take len).length = len := by rw [List.length_take]; omega
    refine ⟨some a, cap, zs.take len, by rw [hlen], by omega, hm, (fun h => by cases h), (fun hn => ?_), fun k => ?_⟩
    · rw [hlen] at hn
      have h0 := hcell 0 (by omega)
      have hsp : a.spot = none := by
        rcases hsp : a.spot with _ | x
        · rfl
        · simp only [Addr.add, if_true] at h0
          unfold World.cell? at h0; rw [hsp] at h0; split at h0 <;> simp at h0
      obtain ⟨b, off, spot⟩ := a
      simp only at hsp
      subst hsp
      have hb : b < W.heap.size := by
        have := hlt (.cell b off) (by simp [MemPlace.row]; omega)
        exact this
      refine ⟨b, off, rfl, hb, fun k hk => ?_⟩
      rw [hlen] at hk
      have := hcell k (by omega)
      rw [addr_add] at this
      rw [this, List.getD_eq_getElem?_getD, List.getD_eq_getElem?_getD, List.getElem?_take_of_lt hk]
    · rcases Nat.lt_or_ge k (zs.take len).length with hk | hk
      · have hm2 : (zs.take len).getD k 0 ∈ zs := by
          rw [List.getD_eq_getElem?_getD, List.getElem?_eq_getElem hk]
          exact List.mem_of_mem_take (List.getElem_mem hk)
        have := hwz _ hm2
        simp [Lit.wf] at this
        exact ⟨this.1, this.2⟩
      · rw [List.getD_eq_getElem?_getD, List.getElem?_eq_none hk]
        simp
section
variable {H : Type} {enc : TypeId × Value → H} {P : Program} {w : World} {base : Nat} {spare : Nat → Bool} {held : Bool}
/-- One field of a struct whose fields are one cell each: its cell, and its own reading. -/
theorem field_at {e : TypeId} {fs : Array Field} {n C : Nat} {a : Addr} {o : Nat} {row : List Value} {y : DataW H × List MemPlace} (he : P.underlying e = some (.struct fs)) (hone : oneCellFields P fs = true) (hC : C = fs.size)
    (hc : w.cells? base (a.add o) C = some row) (ht : DataW.trod enc P w base spare held n e row = some y) (j : Nat) (f : Field) (hj : fs[j]? = some f) :
    ∃ (v : Value) (m : Nat) (z : DataW H × List MemPlace), w.cell? (a.add (o + j)) = some v ∧ DataW.trod enc P w base spare held m f.type [v] = some z := by
  obtain ⟨_, hlen, hcell⟩ := World.cells?_some hc
  obtain ⟨ys, m, _, _, _, hys, hread⟩ := DataW.trod_struct he ht
  obtain ⟨hoff, hsize⟩ := hone_of hone j f hj
  have hjs : j < fs.size := (Array.getElem?_eq_some_iff.1 hj).1
  have hjr : j < row.length := by omega
  have hr := hread j f hj
  rw [hoff, hsize, List.drop_eq_getElem_cons hjr, List.take_succ_cons, List.take_zero, List.getElem?_eq_getElem (show j < ys.length by omega)] at hr
  refine ⟨row[j], m, ys[j]'(by omega), ?_, hr⟩
  have h := hcell j (by omega)
  rw [Go.Deep.add_add, List.getElem?_eq_getElem hjr] at h
  exact h
end
/-- A slice of structs of three ints and a byte, as an argument. -/
theorem open_ops {H : Type} {enc : TypeId × Value → H} {P : Program} {W : World} {t e : TypeId} {f0 f1 f2 f3 : Field} {v : Value} {d : DataW H} {ps : List MemPlace} {r : Reach} {b0 : Nat}
    (ht : P.underlying t = some (.slice e)) (he : P.underlying e = some (.struct #[f0, f1, f2, f3])) (hone : oneCellFields P #[f0, f1, f2, f3] = true) (hC : P.cellsOf e = 4)
    (i0 : P.underlying f0.type = some (.int .i64)) (i1 : P.underlying f1.type = some (.int .i64)) (i2 : P.underlying f2.type = some (.int .i64)) (i3 : P.underlying f3.type = some (.int .u8))
    (hval : Value.okWide P W r b0 t v) (h : DataW.Trod enc P W 0 (fun _ => true) true t v d ps) (hlt : ∀ x ∈ ps, x.block < W.heap.size) :
    ∃ (ao : Option Addr) (cap : Nat) (l : List (Int × Int × Int × Int)), v = .slice ao l.length cap ∧ l.length ≤ maxLen ∧ (∀ k, (l.getD k (0, 0, 0, 0)).2.2.1 ≤ 9223372036854775807) ∧
      (l.length ≠ 0 → ∃ b off, ao = some ⟨b, off, none⟩ ∧ b < W.heap.size ∧
        ∀ k, k < l.length → W.cell? ⟨b, off + k * 4, none⟩ = some (.int .i64 (l.getD k (0, 0, 0, 0)).1) ∧ W.cell? ⟨b, off + k * 4 + 1, none⟩ = some (.int .i64 (l.getD k (0, 0, 0, 0)).2.1) ∧
          W.cell? ⟨b, off + k * 4 + 2, none⟩ = some (.int .i64 (l.getD k (0, 0, 0, 0)).2.2.1) ∧ W.cell? ⟨b, off + k * 4 + 3, none⟩ = some (.int .u8 (l.getD k (0, 0, 0, 0)).2.2.2)) := by
  obtain ⟨ao, len, cap, rfl⟩ := okWide_slice ht hval
  obtain ⟨fuel, hf⟩ := h
  rcases open_slice ht hf with ⟨hcs, hx⟩ | ⟨a, len', cap', m, n, D, Pl, hcs, _, hl, hm, hmm, hx, hcell⟩
  · simp only [Value.cells, List.cons.injEq, and_true, Value.slice.injEq] at hcs
    obtain ⟨rfl, rfl, rfl⟩ := hcs
    exact ⟨none, 0, [], rfl, by simp, fun k => by simp, fun h => by simp at h⟩
  · simp only [Value.cells, List.cons.injEq, and_true, Value.slice.injEq] at hcs
    obtain ⟨rfl, rfl, rfl⟩ := hcs
    simp only [Prod.mk.injEq] at hx
    obtain ⟨rfl, rfl⟩ := hx
    simp only [if_true] at hmm
    have each : ∀ i, i < len → ∃ q : Int × Int × Int × Int, q.2.2.1 ≤ 9223372036854775807 ∧ W.cell? (a.add (i * 4)) = some (.int .i64 q.1) ∧ W.cell? (a.add (i * 4 + 1)) = some (.int .i64 q.2.1) ∧ W.cell? (a.add (i * 4 + 2)) = some (.int .i64 q.2.2.1) ∧ W.cell? (a.add (i * 4 + 3)) = some (.int .u8 q.2.2.2) := by
      intro i hi
      obtain ⟨cs', hcc, htt⟩ := hcell i (by omega)
      rw [hC] at hcc
      obtain ⟨v0, _, _, k0, t0⟩ := field_at he hone rfl hcc htt 0 f0 rfl
      obtain ⟨v1, _, _, k1, t1⟩ := field_at he hone rfl hcc htt 1 f1 rfl
      obtain ⟨v2, _, _, k2, t2⟩ := field_at he hone rfl hcc htt 2 f2 rfl
      obtain ⟨v3, _, _, k3, t3⟩ := field_at he hone rfl hcc htt 3 f3 rfl
      obtain ⟨z0, e0, _, _⟩ := DataW.trod_int i0 t0
      obtain ⟨z1, e1, _, _⟩ := DataW.trod_int i1 t1
      obtain ⟨z2, e2, _, wf⟩ := DataW.trod_int i2 t2
      obtain ⟨z3, e3, _, _⟩ := DataW.trod_int i3 t3
      simp only [List.cons.injEq, and_true] at e0 e1 e2 e3
      simp [Lit.wf] at wf
      exact ⟨(z0, z1, z2, z3), wf.2, by rw [← e0]; exact k0, by rw [← e1]; exact k1, by rw [← e2]; exact k2, by rw [← e3]; exact k3⟩
    obtain ⟨q, hq⟩ := Go.Deep.choose_lt each
    have hget : ∀ k, k < len → ((List.range len).map q).getD k (0, 0, 0, 0) = q k := fun k hk => by
      rw [List.getD_eq_getElem?_getD, List.getElem?_map, List.getElem?_range hk]; rfl
    refine ⟨some a, cap, (List.range len).map q, by simp, by simp; omega, fun k => ?_, fun hn => ?_⟩
    · rcases Nat.lt_or_ge k len with hk | hk
      · rw [hget k hk]; exact (hq k hk).1
      · rw [List.getD_eq_getElem?_getD, List.getElem?_eq_none (by simpa using hk)]; simp
    have hn' : 0 < len := by simp at hn; omega
    have h0 := (hq 0 hn').2.1
    have hsp := spot_none h0
    have hsp' : a.spot = none := by
      simp only [Nat.zero_mul, Addr.add, if_true] at hsp
      exact hsp
    obtain ⟨b, off, spot⟩ := a
    simp only at hsp'
    subst hsp'
    have hb : b < W.heap.size := by
      have := hlt (.cell b off) (by simp [MemPlace.row, hC]; left; omega)
      exact this
    refine ⟨b, off, rfl, hb, fun k hk => ?_⟩
    have hk' : k < len := by simpa using hk
    obtain ⟨_, g1, g2, g3, g4⟩ := hq k hk'
    rw [addr_add] at g1 g2 g3 g4
    rw [hget k hk']
    exact ⟨g1, by rw [← Nat.add_assoc] at g2; exact g2, by rw [← Nat.add_assoc] at g3; exact g3, by rw [← Nat.add_assoc] at g4; exact g4⟩
end Jw
