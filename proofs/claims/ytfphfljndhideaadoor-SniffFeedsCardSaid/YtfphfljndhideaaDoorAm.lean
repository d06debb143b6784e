/- Appending to a row that a conversion has laid: its mark stands behind its last cell. -/
import Derived.Test.YtfphfljndhideaaDoorS8
import Derived.Deep.AppendLies
set_option linter.unusedVariables false
set_option linter.unusedSimpArgs false
namespace Go.Proofs.YtfphfljndhideaaDoor
open Go Go.RowKit Jw Lab

theorem store_mark (P : Program) (g o : Nat) (t : TypeId) (fz : Nat × Nat) : ∀ (vs : List Value) (i : Nat) (cur : Array Value) (w : World), w.heap[g]? = some (.cells cur t fz) → cur.size ≤ fz.1 → o + i + vs.length ≤ cur.size → (∀ v ∈ vs, v.oneCell' = true) →
    (storeCells ⟨g, o, none⟩ vs i).run P w = .ok () (w.setRow g (cur.toList.take (o + i) ++ vs ++ cur.toList.drop (o + i + vs.length)).toArray)
  | [], i, cur, w, hg, _, _, _ => by
    simp only [storeCells, List.append_nil, List.length_nil, Nat.add_zero, List.take_append_drop, Array.toArray_toList]
    rw [setRow_self w g cur t fz hg]
    rfl
  | v :: rest, i, cur, w, hg, hfz, hl, h1 => by
    have hi : o + i < cur.size := by simp at hl; omega
    have hcell : w.cell? ⟨g, o + i, none⟩ = some cur[o + i] := by simp [World.cell?, hg, hi]
    have hfro : w.frozen? ⟨g, o + i, none⟩ = false := by
      obtain ⟨lo, hi'⟩ := fz
      simp only [World.frozen?, hg, Bool.and_eq_false_iff, decide_eq_false_iff_not]
      left
      simp only at hfz
      omega
    have hst : (store ((⟨g, o, none⟩ : Addr).add i) v).run P w = .ok () (w.setRow g (cur.setIfInBounds (o + i) v)) := by
      rw [addr_add, run_store P w _ v _ (h1 v (by simp)), hcell]
      simp [hfro, setCell_eq_setRow w g (o + i) cur t fz v hg]
    have ih := store_mark P g o t fz rest (i + 1) (cur.setIfInBounds (o + i) v) (w.setRow g (cur.setIfInBounds (o + i) v)) (setRow_heap w g cur _ t _ hg) (by simpa using hfz) (by simp at hl ⊢; omega) (fun x hx => h1 x (by simp [hx]))
    simp only [storeCells, Sem.run_bind, hst, Result.andThen_ok, ih, setRow_setRow]
    congr 3
    have e := list_seg_step cur.toList (o + i) v rest (by simp at hl ⊢; omega)
    simpa [Array.toList_setIfInBounds, Nat.add_assoc] using e

/-- A row that a conversion has laid: its bytes are l. -/
def Mk (w : World) (g cap : Nat) (l : List UInt8) : Prop := ∃ cur fz, w.heap[g]? = some (.cells cur 5 fz) ∧ cur.size ≤ fz.1 ∧ cur.size = cap ∧ l.length ≤ cap ∧ cur.toList.take l.length = bv l

theorem app_mark (w : World) (g cap : Nat) (l more : List UInt8) (hm : Mk w g cap l) (i0 : TypeInfo) (hi : Tryd.prog.info? 5 = some i0) (hz : i0.zero = some (.int .u8 0)) (hs : i0.size = 1) (hb : i0.bytes = 1)
    (ad : Addr) (c : Nat) (hnews : ∀ j u, (bv more)[j]? = some u → w.cell? (ad.add j) = some u) (hsz : l.length + more.length ≤ 140737488355328) :
    ∃ v' w', (Builtin.append_ #[37, 37] 37 #[.slice (some ⟨g, 0, none⟩) l.length cap, .slice (some ad) more.length c]).run Tryd.prog w = .ok v' w' ∧ Rb w' v' (l ++ more) ∧ w.grownBy w' (some g) ∧ ∀ b n c, v' = .slice (some b) n c → b.block = g ∨ w.heap.size ≤ b.block := by
  obtain ⟨cur, fz, hg, hfz, hcs, hlc, htake⟩ := hm
  have hglt : g < w.heap.size := (Array.getElem?_eq_some_iff.1 hg).1
  have hll : (l ++ more).length = l.length + more.length := by simp
  by_cases hroom : l.length + more.length ≤ cap
  · have hst := store_mark Tryd.prog g l.length 5 fz (bv more) 0 cur w hg hfz (by rw [bv_len]; omega) (bv_cell more)
    have hf := run_firstCells_some (P := Tryd.prog) w 1 more.length ad more.length c (bv more) (by rw [bv_len]; omega) hnews
    simp only [Nat.add_zero] at hst
    have hr : (Builtin.append_ #[37, 37] 37 #[.slice (some ⟨g, 0, none⟩) l.length cap, .slice (some ad) more.length c]).run Tryd.prog w = .ok (.slice (some ⟨g, 0, none⟩) (l.length + more.length) cap) (w.setRow g (cur.toList.take l.length ++ bv more ++ cur.toList.drop (l.length + (bv more).length)).toArray) := by
      simp [Builtin.append_, run_underlying Tryd.underlying37, sizeOf, typeInfo, hi, hs, Builtin.lenOf, hroom, hf, Addr.add_lit, hst]
    have hnew := setRow_heap w g cur (cur.toList.take l.length ++ bv more ++ cur.toList.drop (l.length + (bv more).length)).toArray 5 fz hg
    refine ⟨_, _, hr, ⟨_, _, by rw [hll], fun _ => ⟨g, 0, rfl, by simpa using hglt, fun k hk => ?_⟩⟩, ⟨rfl, rfl, rfl, by simp, fun k _ hk => setRow_other w g k _ (fun e => hk (by rw [e]))⟩, fun b n c e => by injection e with e1; injection e1 with e1; subst e1; exact .inl rfl⟩
    rw [Nat.zero_add]
    have : (w.setRow g (cur.toList.take l.length ++ bv more ++ cur.toList.drop (l.length + (bv more).length)).toArray).cell? ⟨g, k, none⟩ = (cur.toList.take l.length ++ bv more ++ cur.toList.drop (l.length + (bv more).length)).toArray[k]? := cell_of_row _ _ k _ 5 _ hnew
    rw [this, htake, ← bv_append, List.getElem?_toArray, List.getElem?_append_left (by rw [bv_len]; exact hk)]
    exact bv_at (l ++ more) k hk
  · have holds : ∀ j u, (bv l)[j]? = some u → w.cell? ((⟨g, 0, none⟩ : Addr).add j) = some u := fun j u hj => by
      rw [addr_add, Nat.zero_add, cell_of_row w g j cur 5 fz hg]
      rw [← htake, List.getElem?_take] at hj
      split at hj
      · simpa using hj
      · cases hj
    have hr := run_append_grow (P := Tryd.prog) w 37 37 5 i0 (.int .u8 0) Tryd.underlying37 hi hz ⟨g, 0, none⟩ l.length cap (bv l) (by rw [hs, bv_len, Nat.mul_one]) holds ad more.length c (bv more) (by rw [hs, bv_len, Nat.mul_one]) hnews (by omega) (by omega) (by rw [hb]; exact growslice_fits (by omega) (by omega))
    refine ⟨_, _, hr, ⟨_, _, by rw [hll], fun _ => ⟨w.heap.size, 0, rfl, by simp, fun k hk => ?_⟩⟩, ⟨rfl, rfl, rfl, by simp, fun k hk _ => Below.heap_alloc w.drew _ _ hk⟩, fun b n c e => by injection e with e1; injection e1 with e1; subst e1; exact .inr (Nat.le_refl _)⟩
    rw [Nat.zero_add]
    have hk' : k < ((bv l).toArray ++ (bv more).toArray).size := by simp [bv_len]; rw [hll] at hk; omega
    have e1 : ((bv l).toArray ++ (bv more).toArray)[k]? = some (.int .u8 (((l ++ more).getD k 0).toNat : Int)) := by
      rw [List.append_toArray, ← bv_append, List.getElem?_toArray]
      exact bv_at (l ++ more) k hk
    have hnew := heap_alloc_new w.drew (.cells ((bv l).toArray ++ (bv more).toArray ++ Builtin.zeroCells (Value.int .u8 0).cells (grownCap w (l.length + more.length) cap 5 - (l.length + more.length))) 5)
    have e2 : (w.drew.alloc (.cells ((bv l).toArray ++ (bv more).toArray ++ Builtin.zeroCells (Value.int .u8 0).cells (grownCap w (l.length + more.length) cap 5 - (l.length + more.length))) 5)).cell? ⟨w.heap.size, k, none⟩ = ((bv l).toArray ++ (bv more).toArray ++ Builtin.zeroCells (Value.int .u8 0).cells (grownCap w (l.length + more.length) cap 5 - (l.length + more.length)))[k]? := cell_of_row _ _ k _ 5 _ hnew
    refine e2.trans ?_
    rw [Array.getElem?_append_left hk']
    exact e1
theorem app_mark_none (w : World) (g cap : Nat) (l : List UInt8) (hm : Mk w g cap l) (i0 : TypeInfo) (hi : Tryd.prog.info? 5 = some i0) (hs : i0.size = 1) :
    (Builtin.append_ #[37, 37] 37 #[.slice (some ⟨g, 0, none⟩) l.length cap, .slice none 0 0]).run Tryd.prog w = .ok (.slice (some ⟨g, 0, none⟩) l.length cap) w := by
  obtain ⟨cur, fz, hg, hfz, hcs, hlc, htake⟩ := hm
  simp [Builtin.append_, run_underlying Tryd.underlying37, sizeOf, typeInfo, hi, hs, Builtin.lenOf, hlc, Builtin.firstCells, loadCells, loadCellsFrom, storeCells]
/-- For the walk. -/
theorem wp_app_mark {ops : Array Oper} {rest : List Oper} {o : Oper} {a : Act} {Q : Exit → Act → World → Prop} (hgd : o.guard = none) (s x : Operand)
    (ho : o.op = .call { callee := .builtin .append, args := #[s, x], argTypes := #[37, 37] }) (hty : o.type = 37) (w : World) (g cap : Nat) (l more : List UInt8) (hm : Mk w g cap l)
    (hs : a.eval s = .slice (some ⟨g, 0, none⟩) l.length cap) (v : Value) (hx : a.eval x = v) (hr : Rb w v more) (hno : ∀ n c, v = .slice none n c → n = 0 ∧ c = 0) (hsz : l.length + more.length ≤ 140737488355328)
    (h : ∀ v' w', Rb w' v' (l ++ more) → w.grownBy w' (some g) → (∀ b n c, v' = .slice (some b) n c → b.block = g ∨ w.heap.size ≤ b.block) → wpList Tryd.prog ops Q rest (a.put o.dst v') w') : wpList Tryd.prog ops Q (o :: rest) a w := by
  obtain ⟨i0, hi, hz0, hz1, hz2⟩ := info_parts' info5
  obtain ⟨ao, c, rfl, hc⟩ := hr
  refine wpList_plain hgd fun K hK => ?_
  cases ao with
  | none =>
    obtain ⟨h0, rfl⟩ := hno _ _ rfl
    have hnil := List.eq_nil_of_length_eq_zero h0
    subst hnil
    have hr := app_mark_none w g cap l hm i0 hi hz1
    have hx' : a.eval x = .slice none 0 0 := hx
    unfold Oper.wp execOp
    simp only [ho, hty, resolve, invoke, builtin, Sem.run_bind, Sem.run_pure, Result.andThen_ok, List.map_toArray, List.map_cons, List.map_nil, hs, hx', hr]
    refine hK _ _ (h _ _ ?_ ⟨rfl, rfl, rfl, Nat.le_refl _, fun _ _ _ => rfl⟩ (fun b n c e => by injection e with e1; injection e1 with e1; subst e1; exact .inl rfl))
    rw [List.append_nil]
    obtain ⟨cur, fz, hg, _, hcs, hlc, htake⟩ := hm
    refine ⟨_, _, rfl, fun _ => ⟨g, 0, rfl, (Array.getElem?_eq_some_iff.1 hg).1, fun k hk => ?_⟩⟩
    rw [Nat.zero_add, cell_of_row w g k cur 5 fz hg]
    have := bv_at l k hk
    rw [← htake, List.getElem?_take_of_lt hk] at this
    simpa using this
  | some ad =>
    obtain ⟨v', w', hr, h1, h2, h3⟩ := app_mark w g cap l more hm i0 hi hz0 hz1 hz2 ad c (fun j u hj => by
      have hjl : j < more.length := by
        have := (List.getElem?_eq_some_iff.1 hj).1
        rwa [bv_len] at this
      rw [bv_at more j hjl] at hj
      obtain ⟨b, off, e, _, hcc⟩ := hc (by omega)
      obtain rfl : ad = ⟨b, off, none⟩ := Option.some.inj e
      rw [addr_add, hcc j hjl]
      exact hj) hsz
    unfold Oper.wp execOp
    simp only [ho, hty, resolve, invoke, builtin, Sem.run_bind, Sem.run_pure, Result.andThen_ok, List.map_toArray, List.map_cons, List.map_nil, hs, hx, hr]
    exact hK _ _ (h v' w' h1 h2 h3)
theorem conv_mk (l : List UInt8) (w : World) : Mk (Lib.bytesWorld w 5 (bs l)) w.heap.size (grownCap w l.length 0 5) l := by
  have hge := grownCap_ge w l.length 0 5
  refine ⟨Lib.bytesCells w 5 (bs l), _, Lib.bytesWorld_at_new w 5 (bs l), Nat.le_refl _, ?_, hge, ?_⟩
  · have : (bs l).size = l.length := rfl
    simp only [Lib.bytesCells, Array.size_append, Array.size_map, Array.size_replicate, this]
    show l.length + _ = _
    omega
  · simp only [Lib.bytesCells, Array.toList_append, Array.toList_map]
    rw [List.take_append_of_le_length (by simp [bs]), List.take_of_length_le (by simp [bs])]
    rfl
end Go.Proofs.YtfphfljndhideaaDoor
