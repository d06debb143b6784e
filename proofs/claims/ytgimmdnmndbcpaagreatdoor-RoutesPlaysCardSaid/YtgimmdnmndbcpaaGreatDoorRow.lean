/- From a law's walk to its row: the arguments read behind the call as before it. -/
import Derived.WalkKit
import Derived.ProofKit
import Derived.OpenShut
import Derived.Deep.DeepHandedRow
import Derived.Deep.SlicePairs
namespace Jw
open Go Go.RowKit Go.ChangeShapes Go.WideShapes Go.ChangeAt

theorem trodAll_below {H : Type} {enc : TypeId × Value → H} {P : Program} (hl : laidOutB P = true) {W W' : World} (hb : Below W.heap.size W W') :
    ∀ (ts : List TypeId) (vs : List Value) (ds : List (DataW H)) (ps : List MemPlace), ts.all (fun t => P.readableRec t && decide (t < P.types.size)) = true →
      DataW.TrodAll enc P W 0 (fun _ => true) true ts vs ds ps → (∀ x ∈ ps, x.block < W.heap.size) →
      DataW.TrodAll enc P W' 0 (fun b => decide (b < W.heap.size)) true ts vs ds ps
  | [], [], [], _, _, h, _ => h
  | t :: ts, v :: vs, d :: ds, ps, hall, h, hlt => by
    simp only [List.all_cons, Bool.and_eq_true, decide_eq_true_eq] at hall
    obtain ⟨p, q, h1, h2, rfl⟩ := h
    exact ⟨p, q, Below.trod hl hall.1.1 hall.1.2 h1 hb (fun x hx => hlt x (List.mem_append_left _ hx)),
      trodAll_below hl hb ts vs ds q (by simpa using hall.2) h2 (fun x hx => hlt x (List.mem_append_right _ hx)), rfl⟩
  | [], [], _ :: _, _, _, h, _ => h.elim
  | [], _ :: _, _, _, _, h, _ => h.elim
  | _ :: _, [], _, _, _, h, _ => h.elim
  | _ :: _, _ :: _, [], _, _, h, _ => h.elim

/-- A law that says true and lets all that was there stand. -/
theorem law_post {H : Type} {enc : TypeId × Value → H} {P : Program} {f : Func} {s : ChangeSpec} {W W' : World} {args : Array Value} {ds gs : List (DataW H)} {before : List MemPlace} {tb : TypeId}
    (hl : laidOutB P = true) (hp : f.params.toList.all (fun t => P.readableRec t && decide (t < P.types.size)) = true) (hr : f.resultTypes = #[tb]) (hb : P.underlying tb = some .bool)
    (hv : s.vars = []) (hW : DataW.Whole enc P f.params.toList s.vars false W args.toList ds gs before)
    (hs : s.fn H (ds ++ gs) = { results := [.lit (.bool true)], args := ds }) (hB : Below W.heap.size W W') :
    s.post enc P f false true false false W args (.bool true) W' := by
  have hW0 := hW
  obtain ⟨p, q, hA, hV, hbe, hfz, hnd⟩ := hW
  rw [hv] at hV
  obtain ⟨rfl, rfl⟩ := trodVars_none hV
  rw [List.append_nil] at hbe
  subst hbe
  refine ⟨ds, [], before, [], before, [], hW0, ?_, ?_, ?_, hB.frame _, fun h => by cases h⟩
  · rw [hs, hr]
    exact trodAll_mk1 (shut_bool hb true)
  · rw [hs]
    exact trodAll_below hl hB _ _ _ _ hp hA (fun x hx => by simpa using hW0.lt x hx)
  · rw [hs, hv]
    rfl

/-- A slice of ints, as an argument. -/
theorem open_nums {H : Type} {enc : TypeId × Value → H} {P : Program} {W : World} {t e : TypeId} {v : Value} {d : DataW H} {ps : List MemPlace} {r : Reach} {b0 : Nat}
    (ht : P.underlying t = some (.slice e)) (he : P.underlying e = some (.int .i64)) (hc : P.cellsOf e = 1)
    (hval : Value.okWide P W r b0 t v) (h : DataW.Trod enc P W 0 (fun _ => true) true t v d ps) (hlt : ∀ x ∈ ps, x.block < W.heap.size) :
    ∃ (ao : Option Addr) (cap : Nat) (zs sp : List Int), v = .slice ao zs.length cap ∧ (d = .nil ∨ d = .slice (lits .i64 zs) (lits .i64 sp)) ∧ zs.length ≤ maxLen ∧
      (zs.length ≠ 0 → ∃ b off, ao = some ⟨b, off, none⟩ ∧ b < W.heap.size ∧ ∀ k, k < zs.length → W.cell? ⟨b, off + k, none⟩ = some (.int .i64 (zs.getD k 0))) ∧
      (∀ k, -9223372036854775808 ≤ zs.getD k 0 ∧ zs.getD k 0 ≤ 9223372036854775807) ∧ (zs.length = 0 ∨ d = .slice (lits .i64 zs) (lits .i64 sp)) := by
  obtain ⟨ao, len, cap, rfl⟩ := okWide_slice ht hval
  obtain ⟨fuel, hf⟩ := h
  rcases open_ints ht he hc hf with ⟨hcs, hx⟩ | ⟨a, len', cap', zs, hcs, _, hl, hm, hz, hx, hcell, hwz⟩
  · simp only [Value.cells, List.cons.injEq, and_true, Value.slice.injEq] at hcs
    obtain ⟨rfl, rfl, rfl⟩ := hcs
    obtain ⟨rfl, rfl⟩ := hx
    exact ⟨none, 0, [], [], rfl, .inl rfl, by simp, fun h => by simp at h, fun k => by simp, .inl rfl⟩
  · simp only [Value.cells, List.cons.injEq, and_true, Value.slice.injEq] at hcs
    obtain ⟨rfl, rfl, rfl⟩ := hcs
    simp only [Prod.mk.injEq] at hx
    obtain ⟨rfl, rfl⟩ := hx
    simp only [if_true] at hz
    have hlen : (zs.take len).length = len := by rw [List.length_take]; omega
    refine ⟨some a, cap, zs.take len, zs.drop len, by rw [hlen], .inr rfl, by rw [hlen]; omega, fun hn => ?_, fun k => ?_, .inr rfl⟩
    · rw [hlen] at hn
      have h0 := hcell 0 (by omega)
      have hsp : a.spot = none := by
        rcases hsp : a.spot with _ | x
        · rfl
        · simp only [Addr.add, if_true] at h0
          unfold World.cell? at h0; rw [hsp] at h0; split at h0 <;> simp at h0
      obtain ⟨b, off, spot⟩ := a
      simp only at hsp
      subst hsp
      have hb : b < W.heap.size := by
        have := hlt (.cell b off) (by simp [MemPlace.row]; omega)
        exact this
      refine ⟨b, off, rfl, hb, fun k hk => ?_⟩
      rw [hlen] at hk
      have := hcell k (by omega)
      have e1 : (⟨b, off, none⟩ : Addr).add k = ⟨b, off + k, none⟩ := by
        unfold Addr.add
        by_cases hk0 : k = 0
        · subst hk0; simp
        · simp [hk0]
      rw [e1] at this
      rw [this, List.getD_eq_getElem?_getD, List.getD_eq_getElem?_getD, List.getElem?_take_of_lt hk]
    · rcases Nat.lt_or_ge k (zs.take len).length with hk | hk
      · have hm2 : (zs.take len).getD k 0 ∈ zs := by
          rw [List.getD_eq_getElem?_getD, List.getElem?_eq_getElem hk]
          exact List.mem_of_mem_take (List.getElem_mem hk)
        have := hwz _ hm2
        simp [Lit.wf] at this
        exact ⟨this.1, this.2⟩
      · rw [List.getD_eq_getElem?_getD, List.getElem?_eq_none hk]
        simp
theorem addr_add (b off k : Nat) : (⟨b, off, none⟩ : Addr).add k = ⟨b, off + k, none⟩ := by
  unfold Addr.add
  by_cases hk0 : k = 0
  · subst hk0; simp
  · simp [hk0]

theorem spot_none {W : World} {a : Addr} {v : Value} (h : W.cell? a = some v) : a.spot = none := by
  rcases hsp : a.spot with _ | x
  · rfl
  · unfold World.cell? at h; rw [hsp] at h; split at h <;> simp at h

/-- A slice of structs of two ints, as an argument. -/
theorem open_pairs {H : Type} {enc : TypeId × Value → H} {P : Program} {W : World} {t e : TypeId} {f0 f1 : Field} {v : Value} {d : DataW H} {ps : List MemPlace} {r : Reach} {b0 : Nat}
    (ht : P.underlying t = some (.slice e)) (he : P.underlying e = some (.struct #[f0, f1])) (hc : P.cellsOf e = 2) (o0 : f0.offset = 0) (o1 : f1.offset = 1) (c0 : P.cellsOf f0.type = 1) (c1 : P.cellsOf f1.type = 1)
    (i0 : P.underlying f0.type = some (.int .i64)) (i1 : P.underlying f1.type = some (.int .i64))
    (hval : Value.okWide P W r b0 t v) (h : DataW.Trod enc P W 0 (fun _ => true) true t v d ps) (hlt : ∀ x ∈ ps, x.block < W.heap.size) :
    ∃ (ao : Option Addr) (cap : Nat) (l : List (Int × Int)), v = .slice ao l.length cap ∧ l.length ≤ maxLen ∧
      (l.length ≠ 0 → ∃ b off, ao = some ⟨b, off, none⟩ ∧ b < W.heap.size ∧
        ∀ k, k < l.length → W.cell? ⟨b, off + k * 2, none⟩ = some (.int .i64 (l.getD k (0, 0)).1) ∧ W.cell? ⟨b, off + k * 2 + 1, none⟩ = some (.int .i64 (l.getD k (0, 0)).2)) := by
  obtain ⟨ao, len, cap, rfl⟩ := okWide_slice ht hval
  obtain ⟨fuel, hf⟩ := h
  rcases Go.Deep.open_slice_pairs ht he hc o0 o1 c0 c1 hf with ⟨hcs, hx⟩ | ⟨a, len', cap', m, n, V0, V1, D0, D1, P0, P1, hcs, _, hl, hm, hmm, hx, hcell⟩
  · simp only [Value.cells, List.cons.injEq, and_true, Value.slice.injEq] at hcs
    obtain ⟨rfl, rfl, rfl⟩ := hcs
    exact ⟨none, 0, [], rfl, by simp, fun h => by simp at h⟩
  · simp only [Value.cells, List.cons.injEq, and_true, Value.slice.injEq] at hcs
    obtain ⟨rfl, rfl, rfl⟩ := hcs
    simp only [Prod.mk.injEq] at hx
    obtain ⟨rfl, rfl⟩ := hx
    simp only [if_true] at hmm
    have each : ∀ i, i < len → ∃ q : Int × Int, W.cell? (a.add (i * 2)) = some (.int .i64 q.1) ∧ W.cell? (a.add (i * 2 + 1)) = some (.int .i64 q.2) := by
      intro i hi
      obtain ⟨k1, k2, k3, k4⟩ := hcell i (by omega)
      obtain ⟨z0, e0, _, _⟩ := DataW.trod_int i0 k3
      obtain ⟨z1, e1, _, _⟩ := DataW.trod_int i1 k4
      simp only [List.cons.injEq, and_true] at e0 e1
      exact ⟨(z0, z1), by rw [k1, e0], by rw [k2, e1]⟩
    obtain ⟨q, hq⟩ := Go.Deep.choose_lt each
    refine ⟨some a, cap, (List.range len).map q, by simp, by simp; omega, fun hn => ?_⟩
    have hn' : 0 < len := by simp at hn; omega
    have h0 := (hq 0 hn').1
    have hsp := spot_none h0
    have hsp' : a.spot = none := by
      simp only [Nat.zero_mul, Addr.add, if_true] at hsp
      exact hsp
    obtain ⟨b, off, spot⟩ := a
    simp only at hsp'
    subst hsp'
    have hb : b < W.heap.size := by
      have := hlt (.cell b off) (by simp [MemPlace.row]; left; omega)
      exact this
    refine ⟨b, off, rfl, hb, fun k hk => ?_⟩
    have hk' : k < len := by simpa using hk
    obtain ⟨g1, g2⟩ := hq k hk'
    rw [addr_add] at g1 g2
    have e : ((List.range len).map q).getD k (0, 0) = q k := by
      rw [List.getD_eq_getElem?_getD, List.getElem?_map, List.getElem?_range hk']; rfl
    rw [e]
    exact ⟨g1, by rw [← Nat.add_assoc] at g2; exact g2⟩
end Jw
