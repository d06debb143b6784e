/- A script of calls, as an argument. -/
import Derived.Test.YtgimmdnmndbcpaaGreatDoorRow
import Derived.Test.YtgimmdnmndbcpaaGreatDoorP2
import Derived.Deep.Slices
import Derived.Deep.Fields
import Derived.ChangeSame
set_option linter.unusedVariables false
set_option linter.unusedSimpArgs false
namespace Go.Proofs.YtgimmdnmndbcpaaGreatDoor
open Go.ChangeShapes Go.WideShapes Go.ChangeAt Go.RowKit Jw Lab Go.Deep

theorem trod_f64 {H : Type} {enc : TypeId × Value → H} {P : Program} {w : World} {base : Nat} {sp : Nat → Bool} {held : Bool} {fuel : Nat} {t : TypeId} {v : Value} {x : DataW H × List MemPlace}
    (ht : P.underlying t = some (.float .f64)) (h : DataW.trod enc P w base sp held fuel t [v] = some x) : ∃ b, v = .float .f64 b ∧ (Lit.float .f64 b).wf = true := by
  cases fuel with
  | zero => simp [DataW.trod] at h
  | succ fuel =>
    cases v <;> simp only [DataW.trod, ht] at h <;> first | (cases h; done) | skip
    rename_i k b
    split at h
    · rename_i hh
      obtain ⟨rfl, hw⟩ := hh
      exact ⟨b, rfl, hw⟩
    · cases h
theorem spot_at {W : World} {a : Addr} {v : Value} (h : W.cell? (a.add 0) = some v) : a.spot = none := by
  rcases hsp : a.spot with _ | x
  · rfl
  · simp only [Addr.add, if_true] at h
    unfold World.cell? at h; rw [hsp] at h; split at h <;> simp at h
section
variable {H : Type} {enc : TypeId × Value → H} {P : Program} {w : World} {base : Nat} {spare : Nat → Bool} {held : Bool}
/-- One field of a struct whose fields are one cell each: its cell, its own reading, its places. -/
theorem field_at2 {e : TypeId} {fs : Array Field} {n C : Nat} {a : Addr} {o : Nat} {row : List Value} {y : DataW H × List MemPlace} (he : P.underlying e = some (.struct fs)) (hone : oneCellFields P fs = true) (hC : C = fs.size)
    (hc : w.cells? base (a.add o) C = some row) (ht : DataW.trod enc P w base spare held n e row = some y) (j : Nat) (f : Field) (hj : fs[j]? = some f) :
    ∃ (v : Value) (m : Nat) (z : DataW H × List MemPlace), w.cell? (a.add (o + j)) = some v ∧ DataW.trod enc P w base spare held m f.type [v] = some z ∧ ∀ q ∈ z.2, q ∈ y.2 := by
  obtain ⟨_, hlen, hcell⟩ := World.cells?_some hc
  obtain ⟨ys, m, _, hy, _, hys, hread⟩ := DataW.trod_struct he ht
  obtain ⟨hoff, hsize⟩ := hone_of hone j f hj
  have hjs : j < fs.size := (Array.getElem?_eq_some_iff.1 hj).1
  have hjr : j < row.length := by omega
  have hjy : j < ys.length := by omega
  have hr := hread j f hj
  rw [hoff, hsize, List.drop_eq_getElem_cons hjr, List.take_succ_cons, List.take_zero, List.getElem?_eq_getElem hjy] at hr
  refine ⟨row[j], m, ys[j], ?_, hr, fun q hq => ?_⟩
  · have h := hcell j (by omega)
    rw [Go.Deep.add_add, List.getElem?_eq_getElem hjr] at h
    exact h
  · rw [hy]
    exact List.mem_flatMap.2 ⟨ys[j], List.getElem_mem hjy, hq⟩
/-- A slice of ints, as a field. -/
theorem ri_field {t e : TypeId} {v : Value} {m : Nat} {z : DataW H × List MemPlace} (ht : P.underlying t = some (.slice e)) (he : P.underlying e = some (.int .i64)) (hc : P.cellsOf e = 1)
    (h : DataW.trod enc P w base (fun _ => true) held m t [v] = some z) (hlt : ∀ q ∈ z.2, q.block < w.heap.size) : ∃ zs, Ri w v zs ∧ Nl v ∧ zs.length ≤ maxLen ∧ ∀ x ∈ zs, (Lit.int .i64 x).wf = true := by
  rcases Go.ChangeShapes.open_ints ht he hc h with ⟨hcs, hx⟩ | ⟨a, len, cap, zs, hcs, _, hl, hm, hz, hx, hcell, hwz⟩
  · simp only [List.cons.injEq, and_true] at hcs
    subst hcs
    exact ⟨[], ⟨none, 0, rfl, fun h => by simp at h⟩, fun ao n c e _ => by injection e with _ e2 e3; omega, by simp, fun x hx => by simp at hx⟩
  · simp only [List.cons.injEq, and_true] at hcs
    subst hcs
    simp only [if_true] at hz
    subst hx
    have hlen : (zs.take len).length = len := by rw [List.length_take]; omega
    refine ⟨zs.take len, ⟨some a, cap, by rw [hlen], fun hn => ?_⟩, (fun ao n c e h => by injection e with e1 _ _; rw [h] at e1; cases e1), by rw [hlen]; omega, fun x hx => hwz x (List.mem_of_mem_take hx)⟩
    rw [hlen] at hn
    have h0 := hcell 0 (by omega)
    have hsp := spot_at h0
    obtain ⟨b, off, spot⟩ := a
    simp only at hsp
    subst hsp
    have hb : b < w.heap.size := by
      have := hlt (.cell b off) (by simp [MemPlace.row]; omega)
      exact this
    refine ⟨b, off, rfl, hb, fun k hk => ?_⟩
    rw [hlen] at hk
    have := hcell k (by omega)
    rw [addr_add] at this
    rw [this, List.getD_eq_getElem?_getD, List.getD_eq_getElem?_getD, List.getElem?_take_of_lt hk]
end
theorem open_pos {H : Type} {enc : TypeId × Value → H} {P : Program} {W : World} {t e q : TypeId} {f0 f1 f2 f3 f4 f5 : Field} {v : Value} {d : DataW H} {ps : List MemPlace} {r : Reach} {b0 : Nat}
    (ht : P.underlying t = some (.slice e)) (he : P.underlying e = some (.struct #[f0, f1, f2, f3, f4, f5])) (hone : oneCellFields P #[f0, f1, f2, f3, f4, f5] = true) (hC : P.cellsOf e = 6)
    (i0 : P.underlying f0.type = some (.int .i64)) (i1 : P.underlying f1.type = some (.int .i64)) (i2 : P.underlying f2.type = some (.int .i64)) (i3 : P.underlying f3.type = some .string) (i4 : P.underlying f4.type = some (.float .f64))
    (i5 : P.underlying f5.type = some (.slice q)) (iq : P.underlying q = some (.int .i64)) (hq1 : P.cellsOf q = 1)
    (hval : Value.okWide P W r b0 t v) (h : DataW.Trod enc P W 0 (fun _ => true) true t v d ps) (hlt : ∀ x ∈ ps, x.block < W.heap.size) :
    ∃ ops : List Po, Ro W v ops ∧ ops.length ≤ maxLen ∧ ∀ o ∈ ops, (Lit.float .f64 o.wt).wf = true := by
  obtain ⟨ao, len, cap, rfl⟩ := okWide_slice ht hval
  obtain ⟨fuel, hf⟩ := h
  rcases open_slice ht hf with ⟨hcs, hx⟩ | ⟨a, len', cap', m, n, D, Pl, hcs, _, hl, hm, hmm, hx, hcell⟩
  · simp only [Value.cells, List.cons.injEq, and_true, Value.slice.injEq] at hcs
    obtain ⟨rfl, rfl, rfl⟩ := hcs
    exact ⟨[], ⟨none, 0, rfl, fun h => by simp at h⟩, by simp, fun o ho => by simp at ho⟩
  · simp only [Value.cells, List.cons.injEq, and_true, Value.slice.injEq] at hcs
    obtain ⟨rfl, rfl, rfl⟩ := hcs
    simp only [Prod.mk.injEq] at hx
    obtain ⟨rfl, rfl⟩ := hx
    simp only [if_true] at hmm
    have each : ∀ i, i < len → ∃ o : Po, (Lit.float .f64 o.wt).wf = true ∧ ∃ bv, W.cell? (a.add (i * 6)) = some (n64 o.kd) ∧ W.cell? (a.add (i * 6 + 1)) = some (n64 o.ag) ∧ W.cell? (a.add (i * 6 + 2)) = some (n64 o.nw) ∧
        W.cell? (a.add (i * 6 + 3)) = some (.string (bs o.pt)) ∧ W.cell? (a.add (i * 6 + 4)) = some (fl o.wt) ∧ W.cell? (a.add (i * 6 + 5)) = some bv ∧ Ri W bv o.bz ∧ Nl bv ∧ o.pt.length ≤ 9223372036854775807 := by
      intro i hi
      obtain ⟨cs', hcc, htt⟩ := hcell i (by omega)
      rw [hC] at hcc
      obtain ⟨v0, _, _, k0, t0, _⟩ := field_at2 he hone rfl hcc htt 0 f0 rfl
      obtain ⟨v1, _, _, k1, t1, _⟩ := field_at2 he hone rfl hcc htt 1 f1 rfl
      obtain ⟨v2, _, _, k2, t2, _⟩ := field_at2 he hone rfl hcc htt 2 f2 rfl
      obtain ⟨v3, _, _, k3, t3, _⟩ := field_at2 he hone rfl hcc htt 3 f3 rfl
      obtain ⟨v4, _, _, k4, t4, _⟩ := field_at2 he hone rfl hcc htt 4 f4 rfl
      obtain ⟨v5, _, _, k5, t5, p5⟩ := field_at2 he hone rfl hcc htt 5 f5 rfl
      obtain ⟨z0, e0, _, _⟩ := DataW.trod_int i0 t0
      obtain ⟨z1, e1, _, _⟩ := DataW.trod_int i1 t1
      obtain ⟨z2, e2, _, _⟩ := DataW.trod_int i2 t2
      obtain ⟨s3, e3, _, hs3⟩ := DataW.trod_string i3 t3
      obtain ⟨b4, e4, w4⟩ := trod_f64 i4 t4
      obtain ⟨zs, hr, hnl, _, _⟩ := ri_field i5 iq hq1 t5 (fun q hq => hlt q (List.mem_append_right _ (List.mem_flatMap.2 ⟨i, List.mem_range.2 (by omega), p5 q hq⟩)))
      simp only [List.cons.injEq, and_true] at e0 e1 e2 e3
      subst e0 e1 e2 e3 e4
      unfold maxLen at hs3
      refine ⟨⟨z0, z1, z2, s3.data.toList, b4, zs⟩, w4, v5, k0, k1, k2, k3, k4, k5, hr, hnl, ?_⟩
      have : s3.data.toList.length = s3.size := rfl
      show s3.data.toList.length ≤ _
      omega
    obtain ⟨q, hq⟩ := Go.Deep.choose_lt each
    have hget : ∀ k, k < len → ((List.range len).map q).getD k default = q k := fun k hk => by
      rw [List.getD_eq_getElem?_getD, List.getElem?_map, List.getElem?_range hk]; rfl
    refine ⟨(List.range len).map q, ⟨some a, cap, by simp, fun hn => ?_⟩, by simp; omega, fun o ho => ?_⟩
    · have hn' : 0 < len := by simp at hn; omega
      obtain ⟨_, _, h0, _⟩ := hq 0 hn'
      rw [Nat.zero_mul] at h0
      have hsp := spot_at h0
      obtain ⟨b, off, spot⟩ := a
      simp only at hsp
      subst hsp
      have hb : b < W.heap.size := by
        have := hlt (.cell b off) (by simp [MemPlace.row, hC]; left; omega)
        exact this
      refine ⟨b, off, rfl, hb, fun k hk => ?_⟩
      have hk' : k < len := by simpa using hk
      obtain ⟨_, bv, g1, g2, g3, g4, g5, g6, g7, g8, g9⟩ := hq k hk'
      rw [addr_add] at g1 g2 g3 g4 g5 g6
      rw [hget k hk']
      simp only [← Nat.add_assoc] at g2 g3 g4 g5 g6
      exact ⟨bv, g1, g2, g3, g4, g5, g6, g7, g8, g9⟩
    · obtain ⟨k, hk, rfl⟩ := List.mem_map.1 ho
      exact (hq k (List.mem_range.1 hk)).1
end Go.Proofs.YtgimmdnmndbcpaaGreatDoor
