/- The reference of layer 16: a route let go: drop, Leave. -/
import Derived.Test.YtgimmdnmndbcpaaGreatDoorZ2
import Derived.Deep.RegionHeld3
import Derived.Deep.RegionLaw
import Derived.Deep.DeepCutAuto
set_option linter.unusedVariables false
set_option linter.unusedSimpArgs false
namespace Go.Proofs.YtgimmdnmndbcpaaGreatDoor
open Go.RowKit Jw Lab Go.Shelf Go.Deep
attribute [local go_sem] run_store_float

/-- An append whose run is known. -/
theorem wp_append_run {P : Program} {w w' : World} {o : Oper} {a : Act} {K : Act → World → Prop} {Q : Exit → Act → World → Prop} (s x : Operand) (t : TypeId)
    (ho : o.op = .call { callee := .builtin .append, args := #[s, x], argTypes := #[t, t] }) {v vx v' : Value} (hs : a.eval s = v) (hx : a.eval x = vx)
    (hrun : (Builtin.append_ #[t, t] o.type #[v, vx]).run P w = .ok v' w') (h : K (a.put o.dst v') w') : Oper.wp P o a w K Q := by
  unfold Oper.wp
  simp [execOp, ho, resolve, invoke, builtin, hs, hx, hrun, Result.andThen]
  exact h
theorem step_append_run {P : Program} {w w' : World} {ops : Array Oper} {o : Oper} {a : Act} {K : Act → World → Prop} {Q : Exit → Act → World → Prop} {E : Prop} (hgd : o.guard = none) (s x : Operand) (t : TypeId)
    (ho : o.op = .call { callee := .builtin .append, args := #[s, x], argTypes := #[t, t] }) {v vx v' : Value} (hs : a.eval s = v) (hx : a.eval x = vx)
    (hrun : (Builtin.append_ #[t, t] o.type #[v, vx]).run P w = .ok v' w') (h : K (a.put o.dst v') w') : if Region.wanted o (yielded ops a.tmps) = true then Oper.wp P o a w K Q else E := by
  have hw : Region.wanted o (yielded ops a.tmps) = true := by simp [Region.wanted, hgd]
  rw [if_pos hw]
  exact wp_append_run s x t ho hs hx hrun h
theorem info31z : (Tryz.prog.info? 31).map (fun i => (i.zero, i.size, i.bytes)) = some (some (fl 0), 1, 8) := by kernel_rfl
theorem tL_part (L : List Rt) (k m : Nat) : (tL (L.drop k |>.take m)) = ((tL L).drop (k * 5)).take (m * 5) := by
  induction L generalizing k m with
  | nil => simp [tL]
  | cons x L ih =>
    cases k with
    | zero =>
      cases m with
      | zero => simp [tL]
      | succ m =>
        have := ih 0 m
        simp only [List.drop_zero, Nat.zero_mul] at this ⊢
        rw [List.take_succ_cons]
        show tc x ++ tL (L.take m) = (tc x ++ tL L).take ((m + 1) * 5)
        rw [List.take_append, this]
        congr 1
        · rw [List.take_of_length_le (by simp [tc]; omega)]
        · congr 1; simp [tc]; omega
    | succ k =>
      rw [List.drop_succ_cons, ih k m]
      show _ = ((tc x ++ tL L).drop ((k + 1) * 5)).take (m * 5)
      rw [List.drop_append, List.drop_eq_nil_of_le (show (tc x).length ≤ (k + 1) * 5 by simp [tc]; omega), List.nil_append]
      congr 2
      simp [tc]
      omega
theorem tL_one (L : List Rt) : ∀ u ∈ tL L, u.oneCell' = true := by
  intro u hu
  obtain ⟨r, _, h⟩ := List.mem_flatMap.1 hu
  simp [tc] at h
  rcases h with rfl | rfl | rfl | rfl | rfl <;> rfl
theorem tnL_one (L : List Rt) : ∀ u ∈ tnL L, u.oneCell' = true := by
  intro u hu
  obtain ⟨r, _, rfl⟩ := List.mem_map.1 hu
  rfl
set_option maxRecDepth 20000 in
/-- Two pieces of a row, put together anew. -/
theorem erase_two {w : World} {t e : TypeId} {i : TypeInfo} {z : Value} {size bytes : Nat} (ht : Tryz.prog.underlying t = some (.slice e)) (hi : Tryz.prog.info? e = some i) (hz : i.zero = some z) (hsize : i.size = size) (hby : i.bytes = bytes) (hzs : z.cells.size = size) (hsz : 0 < size) (hsb : bytes ≤ 100)
    {g n cap k : Nat} {xs : List Value} (ho : w.ownsRow 0 e size (.slice (some ⟨g, 0, none⟩) n cap) n xs) (hk : k < n) (hn : n ≤ 100000) (h1 : ∀ u ∈ xs, u.oneCell' = true) (A : Addr) (hA : A = ⟨g, (k + 1) * size, none⟩ ∨ n - (k + 1) = 0) :
    ∃ v2 w2 v3 w3, (Builtin.append_ #[t, t] t #[.slice (some ⟨w.heap.size, 0, none⟩) 0 0, .slice (some ⟨g, 0, none⟩) k cap]).run Tryz.prog (w.alloc (.cells #[] e)) = .ok v2 w2 ∧
      (Builtin.append_ #[t, t] t #[v2, .slice (some A) (n - (k + 1)) (cap - (k + 1))]).run Tryz.prog w2 = .ok v3 w3 ∧
      w3.ownsRow w.heap.size e size v3 (n - 1) (xs.take (k * size) ++ xs.drop ((k + 1) * size)) ∧ Below w.heap.size w w2 ∧ Below w.heap.size w w3 := by
  have hb1 : Below w.heap.size w (w.alloc (.cells #[] e)) := (Below.refl _ _).alloc (Nat.le_refl _) _
  have hgl : g < w.heap.size := (own_lo ho g rfl).2
  have hlen := ho.1
  have hcell : ∀ w', Below w.heap.size w w' → ∀ j, j < n * size → w'.cell? ⟨g, j, none⟩ = xs[j]? := by
    intro w' hb j hj
    obtain ⟨g', cg, e1, _, _, hc⟩ := own_cellN ho (by omega)
    injection e1 with e1 _ _
    injection e1 with e1
    injection e1 with e1 _ _
    subst e1
    exact (hb.cell (p := ⟨g, j, none⟩) hgl).trans (hc j hj)
  have hkn : k * size ≤ n * size := Nat.mul_le_mul_right _ (by omega)
  have hkn2 : (k + 1) * size + (n - (k + 1)) * size = n * size := by rw [← Nat.add_mul]; congr 1; omega
  have own1 : (w.alloc (.cells #[] e)).ownsRow w.heap.size e size (.slice (some ⟨w.heap.size, 0, none⟩) 0 0) 0 [] := World.ownsRow_made w #[] 0 (Nat.le_refl _) (Nat.zero_le _) (by simp)
  obtain ⟨v2, w2, hr1, ho2, hg2, _, hl2⟩ := run_append_own_at (P := Tryz.prog) (w := w.alloc (.cells #[] e)) w.heap.size t t e i z size bytes ht hi hz hsize hby hzs hsz _ 0 [] own1 ⟨g, 0, none⟩ k cap (xs.take (k * size))
    (by rw [List.length_take]; omega) (fun j u hu => by
      rw [List.getElem?_take] at hu
      split at hu
      · rw [addr_add, Nat.zero_add, hcell _ hb1 j (by omega)]; exact hu
      · cases hu) (fun u hu => h1 u (List.mem_of_mem_take hu)) (by unfold maxLen; omega) (Nat.le_trans (Nat.mul_le_mul_left _ hsb) (by omega)) (by simp)
  have hb2 : Below w.heap.size w w2 := by
    refine hb1.trans ⟨hg2.os, hg2.tape, hg2.output, hg2.size, fun j hj => hg2.block j (by simp; omega) (fun e => ?_)⟩
    simp only [Value.ownBlock, Option.some.injEq] at e
    omega
  obtain ⟨v3, w3, hr2, ho3, hg3, _, hl3⟩ := run_append_own_at (P := Tryz.prog) (w := w2) w.heap.size t t e i z size bytes ht hi hz hsize hby hzs hsz v2 (0 + k) ([] ++ xs.take (k * size)) ho2 A (n - (k + 1)) (cap - (k + 1)) (xs.drop ((k + 1) * size))
    (by rw [List.length_drop]; omega) (fun j u hu => by
      rw [List.getElem?_drop] at hu
      have hj := (List.getElem?_eq_some_iff.1 hu).1
      rcases hA with rfl | h0
      · rw [addr_add, hcell _ hb2 _ (by omega)]; exact hu
      · rw [h0, Nat.zero_mul] at hkn2
        omega) (fun u hu => h1 u (List.mem_of_mem_drop hu)) (by unfold maxLen; omega) (Nat.le_trans (Nat.mul_le_mul_left _ hsb) (by omega)) hb2.size
  have hb3 : Below w.heap.size w w3 := by
    refine hb2.trans ⟨hg3.os, hg3.tape, hg3.output, hg3.size, fun j hj => hg3.block j (Nat.lt_of_lt_of_le hj hb2.size) (fun e => ?_)⟩
    have := (own_lo ho2 j e.symm).1
    omega
  refine ⟨v2, w2, v3, w3, hr1, hr2, ?_, hb2, hb3⟩
  have e : 0 + k + (n - (k + 1)) = n - 1 := by omega
  rw [e, List.nil_append] at ho3
  exact ho3

theorem tL_erase (L : List Rt) (k : Nat) : (tL L).take (k * 5) ++ (tL L).drop ((k + 1) * 5) = tL (L.eraseIdx k) := by
  have h1 := tL_part L 0 k
  have h2 := tL_part L (k + 1) L.length
  rw [List.drop_zero, Nat.zero_mul, List.drop_zero] at h1
  rw [List.take_of_length_le (by simp), List.take_of_length_le (by simp [tL_len])] at h2
  rw [← h1, ← h2, ← tL_app, List.eraseIdx_eq_take_drop_succ]
theorem tnL_erase (L : List Rt) (k : Nat) : (tnL L).take (k * 1) ++ (tnL L).drop ((k + 1) * 1) = tnL (L.eraseIdx k) := by
  rw [Nat.mul_one, Nat.mul_one, tnL, tnL, ← List.map_take, ← List.map_drop, ← List.map_append, List.eraseIdx_eq_take_drop_succ]

set_option maxRecDepth 20000 in
set_option maxHeartbeats 4000000 in
theorem rdrop_any {mb : Nat} {lv tv : Value} {L : List Rt} {w : World} (h : Mr mb lv tv L w) (hL : L.length ≤ 100000) (k : Nat) (hk : k < L.length) :
    Calls Tryz.prog 36 #[pp mb, n64 k] w fun e w' => e = .returned (.tuple #[]) ∧ Nr mb lv tv w w' (L.eraseIdx k) := by
  obtain ⟨i0, hi, hz0, hz1, hz2⟩ := info_parts' info50
  obtain ⟨i1, hj, hy0, hy1, hy2⟩ := info_parts' info31z
  obtain ⟨a1, a2, a3⟩ := h.apart
  obtain ⟨g, cg, rfl, _, hgl, _⟩ := own_cellN h.ol (by omega)
  obtain ⟨g', cg', rfl, _, hgl', _⟩ := own_cellN h.ot (by omega)
  have hmg : mb ≠ g := fun e => a1 (by rw [e]; rfl)
  have hmg' : mb ≠ g' := fun e => a2 (by rw [e]; rfl)
  have hml := h.blk.lt
  have hcg : L.length ≤ cg := by
    obtain ⟨_, ⟨h0, _⟩ | ⟨_, _, _, e1, _, _, hn, _⟩⟩ := h.ol
    · cases h0
    · injection e1 with _ _ e3; omega
  have hcg' : L.length ≤ cg' := by
    obtain ⟨_, ⟨h0, _⟩ | ⟨_, _, _, e1, _, _, hn, _⟩⟩ := h.ot
    · cases h0
    · injection e1 with _ _ e3; omega
  obtain ⟨A, hA, hA2⟩ : ∃ A : Addr, (if cg = k + 1 then some (⟨g, 0, none⟩ : Addr) else some ⟨g, (k + 1) * 5, none⟩) = some A ∧ (A = ⟨g, (k + 1) * 5, none⟩ ∨ L.length - (k + 1) = 0) := by
    by_cases e : cg = k + 1
    · rw [if_pos e]; exact ⟨_, rfl, .inr (by omega)⟩
    · rw [if_neg e]; exact ⟨_, rfl, .inl rfl⟩
  obtain ⟨A', hA', hA2'⟩ : ∃ A : Addr, (if cg' = k + 1 then some (⟨g', 0, none⟩ : Addr) else some ⟨g', k + 1, none⟩) = some A ∧ (A = ⟨g', (k + 1) * 1, none⟩ ∨ L.length - (k + 1) = 0) := by
    by_cases e : cg' = k + 1
    · rw [if_pos e]; exact ⟨_, rfl, .inr (by omega)⟩
    · rw [if_neg e]; exact ⟨_, rfl, .inl (by rw [Nat.mul_one])⟩
  obtain ⟨v2, w2, v3, w3, hr1, hr2, ho3, hb2, hb3⟩ := erase_two (w := w.drew) Tryz.underlying27 hi hz0 hz1 hz2 rfl (by decide) (by decide) (show w.drew.ownsRow 0 57 5 _ L.length (tL L) from h.ol) hk hL (tL_one L) A hA2
  rw [tL_erase] at ho3
  obtain ⟨av3, cv3, rfl⟩ := own_form ho3
  obtain ⟨w4, hw4⟩ : ∃ w4, w4 = w3.setCell ⟨mb, 0, none⟩ (Value.slice av3 (L.length - 1) cv3) := ⟨_, rfl⟩
  have hblk3 : Blk w3 mb #[.slice (some ⟨g, 0, none⟩) L.length cg, .slice (some ⟨g', 0, none⟩) L.length cg'] 30 := (show Blk w.drew mb _ 30 from h.blk).below hb3 hml
  have hblk4 : Blk w4 mb #[(Value.slice av3 (L.length - 1) cv3), .slice (some ⟨g', 0, none⟩) L.length cg'] 30 := by rw [hw4]; exact hblk3.set 0 (Value.slice av3 (L.length - 1) cv3)
  have hne3 : (Value.slice av3 (L.length - 1) cv3).ownBlock ≠ some mb := fun e => by have := (own_lo ho3 mb e).1; have : w.drew.heap.size = w.heap.size := rfl; omega
  have ho4 : w4.ownsRow w.heap.size 57 5 (Value.slice av3 (L.length - 1) cv3) (L.length - 1) (tL (L.eraseIdx k)) := by
    rw [hw4]
    exact own_same ho3 fun b hb => Below.heap_setCell _ _ _ _ (fun e => hne3 (by rw [hb]; exact congrArg some e))
  have hf4 : Fp (fun j => j = mb) w w4 := by
    rw [hw4]
    exact (show Fp (fun j => j = mb) w w3 from ⟨hb3.os, hb3.tape, hb3.output, hb3.size, fun j hj _ => hb3.block j hj⟩).then (Fp.set mb 0 (Value.slice av3 (L.length - 1) cv3) w3 rfl)
  have ht4 : w4.ownsRow 0 31 1 (.slice (some ⟨g', 0, none⟩) L.length cg') L.length (tnL L) := own_same h.ot fun b hb => by
    simp only [Value.ownBlock, Option.some.injEq] at hb
    exact hf4.other b (by omega) (fun e => hmg' (by omega))
  obtain ⟨v5, w5, v6, w6, hr3, hr4, ho6, hb5, hb6⟩ := erase_two (w := w4.drew) Tryz.underlying28 hj hy0 hy1 hy2 rfl (by decide) (by decide) (show w4.drew.ownsRow 0 31 1 _ L.length (tnL L) from ht4) hk hL (tnL_one L) A' hA2'
  rw [tnL_erase] at ho6
  obtain ⟨av6, cv6, rfl⟩ := own_form ho6
  have hs4 : w.heap.size ≤ w4.heap.size := hf4.size
  have hlen : (L.eraseIdx k).length = L.length - 1 := List.length_eraseIdx_of_lt hk
  have hres : Nr mb (.slice (some ⟨g, 0, none⟩) L.length cg) (.slice (some ⟨g', 0, none⟩) L.length cg') w (w6.setCell ⟨mb, 1, none⟩ (Value.slice av6 (L.length - 1) cv6)) (L.eraseIdx k) := by
    have hml4 : mb < w4.drew.heap.size := Nat.lt_of_lt_of_le hml hs4
    have hblk6 : Blk w6 mb #[(Value.slice av3 (L.length - 1) cv3), .slice (some ⟨g', 0, none⟩) L.length cg'] 30 := (show Blk w4.drew mb _ 30 from hblk4).below hb6 hml4
    have hne6 : (Value.slice av6 (L.length - 1) cv6).ownBlock ≠ some mb := fun e => by have := (own_lo ho6 mb e).1; omega
    refine ⟨(Value.slice av3 (L.length - 1) cv3), (Value.slice av6 (L.length - 1) cv6), ⟨hblk6.set 1 (Value.slice av6 (L.length - 1) cv6), ?_, ?_⟩, ?_, fun j hj => ?_⟩
    · rw [hlen]
      refine own_base (own_same ho4 fun b hb => ?_) (Nat.zero_le _)
      have hb4 := (own_lo ho4 b hb).2
      rw [Below.heap_setCell _ _ _ _ (fun e => hne3 (by rw [hb]; exact congrArg some e))]
      exact hb6.block b hb4
    · rw [hlen]
      refine own_base (own_same ho6 fun b hb => ?_) (Nat.zero_le _)
      exact Below.heap_setCell _ _ _ _ (fun e => hne6 (by rw [hb]; exact congrArg some e))
    · refine (hf4.mono (fun j hj => .inl hj)).then ((show Fp _ w4 w6 from ⟨hb6.os, hb6.tape, hb6.output, hb6.size, fun j hj _ => hb6.block j hj⟩).then (Fp.set mb 1 (Value.slice av6 (L.length - 1) cv6) w6 (.inl rfl)))
    · rcases hj with e | e | e
      · exact .inl (.inl e)
      · exact .inr (own_lo ho4 j e).1
      · have := (own_lo ho6 j e).1
        have h2 : w4.drew.heap.size = w4.heap.size := rfl
        exact .inr (by omega)
  have HRES := Lib.hid hres
  have cm : w.cell? ⟨mb, 0, none⟩ = some (.slice (some ⟨g, 0, none⟩) L.length cg) := h.blk.cell 0 _ rfl
  have hr1 : (Builtin.append_ #[27, 27] 27 #[.slice (some ⟨w.heap.size, 0, none⟩) 0 0, .slice (some ⟨g, 0, none⟩) k cg]).run Tryz.prog (w.alloc (.cells #[] 57)).drew = .ok v2 w2 := hr1
  have hr3 : (Builtin.append_ #[28, 28] 28 #[.slice (some ⟨w4.heap.size, 0, none⟩) 0 0, .slice (some ⟨g', 0, none⟩) k cg']).run Tryz.prog (w4.alloc (.cells #[] 31)).drew = .ok v5 w5 := hr3
  have cm1 : (w.alloc (.cells #[] 57)).drew.cell? ⟨mb, 0, none⟩ = some (.slice (some ⟨g, 0, none⟩) L.length cg) := (((Below.refl w.heap.size w).alloc (Nat.le_refl _) (.cells #[] 57)).drew.cell (p := ⟨mb, 0, none⟩) hml).trans cm
  have cm2 : w2.cell? ⟨mb, 0, none⟩ = some (.slice (some ⟨g, 0, none⟩) L.length cg) := (hb2.cell (p := ⟨mb, 0, none⟩) hml).trans cm
  have cm3 : w3.cell? ⟨mb, 0, none⟩ = some (.slice (some ⟨g, 0, none⟩) L.length cg) := hblk3.cell 0 _ rfl
  have fm3 := hblk3.free 0
  have cn : w4.cell? ⟨mb, 1, none⟩ = some (.slice (some ⟨g', 0, none⟩) L.length cg') := hblk4.cell 1 _ rfl
  have hml4 : mb < w4.heap.size := Nat.lt_of_lt_of_le hml hs4
  have cn1 : (w4.alloc (.cells #[] 31)).drew.cell? ⟨mb, 1, none⟩ = some (.slice (some ⟨g', 0, none⟩) L.length cg') := (((Below.refl w4.heap.size w4).alloc (Nat.le_refl _) (.cells #[] 31)).drew.cell (p := ⟨mb, 1, none⟩) hml4).trans cn
  have cn5 : w5.cell? ⟨mb, 1, none⟩ = some (.slice (some ⟨g', 0, none⟩) L.length cg') := (hb5.cell (p := ⟨mb, 1, none⟩) hml4).trans cn
  have cn6 : w6.cell? ⟨mb, 1, none⟩ = some (.slice (some ⟨g', 0, none⟩) L.length cg') := (hb6.cell (p := ⟨mb, 1, none⟩) hml4).trans cn
  have fm6 : w6.frozen? ⟨mb, 1, none⟩ = false := (((show Blk w4.drew mb _ 30 from hblk4).below hb6 hml4).free 1)
  have HW4 := Lib.hid hw4
  clear hA2 hA2' hres h hi hj hz0 hz1 hz2 hy0 hy1 hy2 a1 a2 a3 hblk3 hblk4 hne3 ho4 hf4 ht4 ho6 hb5 hb6 ho3 hb2 hb3 hs4 hlen hw4
  have d1 : k ≤ cg := by omega
  have d2 : k ≤ cg' := by omega
  have hwr : IntKind.i64.wrap ((k : Int) + 1) = (k : Int) + 1 := by simp only [IntKind.wrap, IntKind.signed, IntKind.bits]; simp; omega
  have e0 : (0 : Int) ≤ (k : Int) + 1 := by omega
  have e1 : (k : Int) + 1 ≤ (L.length : Int) := by omega
  go_enter Tryz.func36, Tryz.ntmps36
  go_upto_region 0 with fail
  go_cut [] (fun wx => wx = w4)
  case first =>
    go_region_law (first | refine step_append_run rfl (.tmp 5) (.tmp 11) 27 rfl rfl rfl hr1 ?_ | refine step_append_run rfl (.tmp 12) (.tmp 19) 27 rfl rfl rfl hr2 ?_)
    all_goals
      rw [← HW4.out]
      go_wp2
      go_meet
      exact rfl
  case rest =>
    subst hcut
    clear hr1 hr2 cm cm1 cm2 cm3 fm3 HW4
    go_upto_region 1 with fail
    go_region_law (first | refine step_append_run rfl (.tmp 24) (.tmp 30) 28 rfl rfl rfl hr3 ?_ | refine step_append_run rfl (.tmp 31) (.tmp 38) 28 rfl rfl rfl hr4 ?_)
    all_goals
      go_wp2
      go_end0
      exact ⟨rfl, HRES.out⟩

theorem leaveL_bad {p : List UInt8} {a : Int} {L : List Rt} {e : Nat} (h : askE p a = some e) : leaveL p a L = (some e, L) := by rw [leaveL, thereL, h]
theorem leaveL_none {p : List UInt8} {a : Int} {L : List Rt} (h : askE p a = none) (hi : idx (isR p a) L = -1) : leaveL p a L = (some 11, L) := by rw [leaveL, thereL, h, hi]; rfl
theorem leaveL_hit {p : List UInt8} {a : Int} {L : List Rt} {k : Nat} {r : Rt} (h : askE p a = none) (hi : idx (isR p a) L = k) (hr : L[k]? = some r) : leaveL p a L = (none, L.eraseIdx k) := by
  rw [leaveL, thereL, h, hi]
  simp only
  rw [if_pos (by omega)]
  simp only [Int.toNat_natCast]

set_option maxRecDepth 20000 in
set_option maxHeartbeats 1000000 in
theorem rleave_any {mb : Nat} {lv tv : Value} {L : List Rt} {w : World} (h : Mr mb lv tv L w) (hL : L.length ≤ 100000) (p : List UInt8) (hl : p.length < 4294967281) (a : Int) :
    Calls Tryz.prog 12 #[pp mb, .string (bs p), n64 a] w fun e w' => e = .returned (n64 (nE (leaveL p a L).1)) ∧ Nr mb lv tv w w' (leaveL p a L).2 := by
  have HA := Lib.hid (rask_any p hl a w)
  have HF := Lib.hid (fun (w1 : World) (hb : Below w.heap.size w w1) => rfind_any (h.below hb) hL p a)
  have HM := Lib.hid h
  cases he : askE p a with
  | some e =>
    rw [leaveL_bad he]
    rw [he] at HA
    have hne := @nE_ne e
    obtain ⟨E, hE⟩ : ∃ E, E = nE (some e) := ⟨_, rfl⟩
    obtain ⟨I, hI⟩ : ∃ I, I = idx (isR p a) L := ⟨_, rfl⟩
    rw [← hE] at hne HA ⊢
    rw [← hI] at HF
    clear h he hE hI
    go_enter Tryz.func12, Tryz.ntmps12
    go_wp2_with (first
      | (go_at_call 32; refine HA.out.mono ?_; rintro e w1 ⟨rfl, hB⟩; have HB := Lib.hid hB; clear hB)
      | (go_at_call 33; refine (HF.out _ HB.out).mono ?_; rintro e w2 ⟨rfl, hB⟩; have HB2 := Lib.hid (below_all HB.out hB); clear hB))
    go_ret
    exact ⟨rfl, Nr.of_below HM.out HB2.out⟩
  | none =>
    rw [he] at HA
    have HA := Lib.hid (show Calls Tryz.prog 32 #[.string (bs p), n64 a] w fun e w' => e = .returned (n64 0) ∧ Below w.heap.size w w' from HA.out)
    rcases idxL_cases (isR p a) L with ⟨hi, _⟩ | ⟨k, r, hr, _, hi, _⟩
    · rw [leaveL_none he hi]
      rw [hi] at HF
      clear h he hi
      go_enter Tryz.func12, Tryz.ntmps12
      go_wp2_with (first
        | (go_at_call 32; refine HA.out.mono ?_; rintro e w1 ⟨rfl, hB⟩; have HB := Lib.hid hB; clear hB)
        | (go_at_call 33; refine (HF.out _ HB.out).mono ?_; rintro e w2 ⟨rfl, hB⟩; have HB2 := Lib.hid (below_all HB.out hB); clear hB))
      go_ret
      exact ⟨rfl, Nr.of_below HM.out HB2.out⟩
    · rw [leaveL_hit he hi hr]
      rw [hi] at HF
      have HR := Lib.hid hr
      have hkl : k < L.length := (List.getElem?_eq_some_iff.1 hr).1
      clear h he hi hr
      go_enter Tryz.func12, Tryz.ntmps12
      go_wp2_with (first
        | (go_at_call 32; refine HA.out.mono ?_; rintro e w1 ⟨rfl, hB⟩; have HB := Lib.hid hB; clear hB)
        | (go_at_call 33; refine (HF.out _ HB.out).mono ?_; rintro e w2 ⟨rfl, hB⟩; have HB2 := Lib.hid (below_all HB.out hB); clear hB)
        | (go_at_call 36; refine (rdrop_any (HM.out.below HB2.out) hL k hkl).mono ?_; rintro e w3 ⟨rfl, hN⟩; have HN := Lib.hid hN; clear hN))
      go_ret
      exact ⟨rfl, Nr.before HB2.out HN.out⟩
end Go.Proofs.YtgimmdnmndbcpaaGreatDoor
