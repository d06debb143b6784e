/- The laws' look whether two lists of routes are the same. -/
import Derived.Test.YtgimmdnmndbcpaaGreatDoorZ8
import Derived.Laws.StructEq
import Derived.Deep.RegionHeld3
import Derived.Deep.RegionLaw
set_option linter.unusedVariables false
set_option linter.unusedSimpArgs false
namespace Go.Proofs.YtgimmdnmndbcpaaGreatDoor
open Go.RowKit Jw Lab Go.Shelf Go.Deep
attribute [local go_sem] run_store_float

theorem fp_alloc' {S : Nat → Prop} {w w' : World} (h : Fp S w w') (o : Go.Obj) : Fp S w (w'.alloc o) := h.then (Fp.of_below ((Below.refl _ _).alloc (Nat.le_refl _) _))
theorem fp_drew' {S : Nat → Prop} {w w' : World} (h : Fp S w w') : Fp S w w'.drew := ⟨h.os, h.tape, h.output, h.size, h.other⟩
/-- A list of routes, as it can be read. -/
def Rr (w : World) (v : Value) (L : List Rt) : Prop :=
  ∃ ao cap, v = .slice ao L.length cap ∧ (L.length ≠ 0 → ∃ g, ao = some ⟨g, 0, none⟩ ∧ g < w.heap.size ∧ ∀ k, k < L.length * 5 → w.cell? ⟨g, k, none⟩ = (tL L)[k]?)
theorem Rr.own {w : World} {base : Nat} {v : Value} {L : List Rt} (h : w.ownsRow base 57 5 v L.length (tL L)) : Rr w v L := by
  obtain ⟨ao, cap, rfl⟩ := own_form h
  refine ⟨ao, cap, rfl, fun hn => ?_⟩
  obtain ⟨g, cp, e, _, hlt, hc⟩ := own_cellN h (by omega)
  injection e with e _ _
  exact ⟨g, e, hlt, hc⟩
theorem Rr.below {w w' : World} {v : Value} {L : List Rt} (h : Rr w v L) (hb : Below w.heap.size w w') : Rr w' v L := by
  obtain ⟨ao, cap, rfl, h⟩ := h
  refine ⟨ao, cap, rfl, fun hn => ?_⟩
  obtain ⟨g, e, hlt, hc⟩ := h hn
  exact ⟨g, e, Nat.lt_of_lt_of_le hlt hb.size, fun k hk => (hb.cell (p := ⟨g, k, none⟩) hlt).trans (hc k hk)⟩
/-- The five cells of the k-th. -/
theorem rr_cells {w : World} {g : Nat} {L : List Rt} (hc : ∀ k, k < L.length * 5 → w.cell? ⟨g, k, none⟩ = (tL L)[k]?) {k : Nat} {r : Rt} (hr : L[k]? = some r) : w.cell? ⟨g, k * 5, none⟩ = some (.string (bs r.nm)) ∧ w.cell? ⟨g, k * 5 + 1, none⟩ = some (n64 r.ag) ∧
    w.cell? ⟨g, k * 5 + 2, none⟩ = some (fl r.wt) ∧ w.cell? ⟨g, k * 5 + 3, none⟩ = some (.bool r.dr) ∧ w.cell? ⟨g, k * 5 + 4, none⟩ = some (n64 r.un) := by
  have hk := (List.getElem?_eq_some_iff.1 hr).1
  have cc : ∀ i, i < 5 → w.cell? ⟨g, k * 5 + i, none⟩ = (tc r)[i]? := fun i hi => (hc (k * 5 + i) (by omega)).trans (tL_at L k i r hr hi)
  exact ⟨cc 0 (by omega), cc 1 (by omega), cc 2 (by omega), cc 3 (by omega), cc 4 (by omega)⟩

theorem below_six {w wr : World} (h : Below w.heap.size w wr) (o1 o2 : Go.Obj) (n a b : Nat) (ha : wr.heap.size ≤ a) (hb : wr.heap.size ≤ b) (u v : Value) : Below w.heap.size w (((((wr.alloc o1).alloc o2).drewN n).setCell ⟨a, 2, none⟩ u).setCell ⟨b, 2, none⟩ v) := by
  have hs := h.size
  have h2 := (h.alloc hs o1).alloc (by simp; omega) o2
  have h3 : Below w.heap.size w (((wr.alloc o1).alloc o2).drewN n) := ⟨h2.os, h2.tape, h2.output, h2.size, h2.block⟩
  exact (h3.setCell (p := ⟨a, 2, none⟩) (by show w.heap.size ≤ a; omega) u).setCell (p := ⟨b, 2, none⟩) (by show w.heap.size ≤ b; omega) v
theorem eq_float0 (d : Nat) (w : World) : (Op.equalIn (d + 1) 31 (.float .f64 0) (.float .f64 0)).run Tryz.prog w = .ok true w := by
  simp only [Op.equalIn, Sem.run_bind, run_underlying Tryz.underlying31, Result.andThen_ok, if_true, Sem.run_pure]
  rfl
attribute [local go_sem] eq_float0
set_option maxRecDepth 20000 in
set_option maxHeartbeats 1000000 in
theorem same_rows {v1 v2 : Value} {L : List Rt} {w : World} (h1 : Rr w v1 L) (h2 : Rr w v2 L) (hL : L.length ≤ 100000) :
    Calls Tryz.prog 25 #[v1, v2] w fun e w' => e = .returned (.bool true) ∧ Below w.heap.size w w' := by
  obtain ⟨ao1, cp1, rfl, h1⟩ := h1
  obtain ⟨ao2, cp2, rfl, h2⟩ := h2
  by_cases hn : L.length = 0
  · rw [hn]
    clear h1 h2 hn hL
    go_enter Tryz.func25, Tryz.ntmps25
    go_wp2_with fail
    refine wp_loop_rounds 1 ?_
    rw [rounds_succ]
    go_wp2
    go_ret
    exact ⟨rfl, Below.refl _ _⟩
  · obtain ⟨g1, rfl, lt1, hc1⟩ := h1 hn
    obtain ⟨g2, rfl, lt2, hc2⟩ := h2 hn
    clear h1 h2
    have HC1 := Lib.hid hc1
    have HC2 := Lib.hid hc2
    have HN := Lib.hid hn
    have HL := Lib.hid hL
    have hbits := bits_run
    clear hc1 hc2 hn
    go_enter Tryz.func25, Tryz.ntmps25
    go_wp2_with fail
    go_loopw [15] (fun i wr => ∃ (k : Nat), k ≤ L.length ∧ i = n64 k ∧ Below w.heap.size w wr) (fun i _ => L.length - (intOf i).toNat)
    case atStart => exact ⟨0, Nat.zero_le _, rfl, Below.refl _ _⟩
    case round =>
      obtain ⟨k, hk, rfl, hb⟩ := hrel
      by_cases hlt : k < L.length
      · obtain ⟨r, hr⟩ : ∃ r, L[k]? = some r := ⟨_, List.getElem?_eq_getElem hlt⟩
        have l1 : g1 < wr.heap.size := Nat.lt_of_lt_of_le lt1 hb.size
        have l2 : g2 < wr.heap.size := Nat.lt_of_lt_of_le lt2 hb.size
        have HA := Lib.hid (rr_cells (fun j hj => (hb.cell (p := ⟨g1, j, none⟩) lt1).trans (HC1.out j hj)) hr)
        have HB := Lib.hid (rr_cells (fun j hj => (hb.cell (p := ⟨g2, j, none⟩) lt2).trans (HC2.out j hj)) hr)
        have HBW := Lib.hid hb
        clear hr hb HC1 HC2
        go_upto_region 6 with fail
        refine wp_region_held_drew (S := fun V => Fp (fun k => wr.heap.size ≤ k) wr V) (by kernel_rfl) (fp_drew' (Fp.refl _ _)) (fun hHeld => ?_)
        refine wpAnyH_take (i := 0) (v := ?_) rfl (by kernel_rfl) (by kernel_rfl) (by kernel_rfl) (fun _ _ _ h => h) (Or.inl ⟨by rfl, ?_⟩) (by assumption) ?_
        rotate_left 1
        · intro w hSw; (try dsimp only at hSw); go_simp; (try with_reducible rfl)
        try simp only [Act.put, List.setIfInBounds_toArray, List.set_cons_zero, List.set_cons_succ, List.getElem_toArray, List.getElem_cons_zero, List.getElem_cons_succ]
        refine wpAnyH_take (i := 1) (v := ?_) rfl (by kernel_rfl) (by kernel_rfl) (by kernel_rfl) (fun _ _ _ h => h) (Or.inl ⟨by rfl, ?_⟩) (by assumption) ?_
        rotate_left 1
        · intro w hSw; (try dsimp only at hSw); go_simp; (try with_reducible rfl)
        try simp only [Act.put, List.setIfInBounds_toArray, List.set_cons_zero, List.set_cons_succ, List.getElem_toArray, List.getElem_cons_zero, List.getElem_cons_succ]
        refine wpAnyH_take (i := 2) (v := ?_) rfl (by kernel_rfl) (by kernel_rfl) (by kernel_rfl) (fun _ _ _ h => h) (Or.inl ⟨by rfl, ?_⟩) (by assumption) ?_
        rotate_left 1
        · intro w hSw; (try dsimp only at hSw); go_simp; (try with_reducible rfl)
        try simp only [Act.put, List.setIfInBounds_toArray, List.set_cons_zero, List.set_cons_succ, List.getElem_toArray, List.getElem_cons_zero, List.getElem_cons_succ]
        refine wpAnyH_take (i := 3) (v := ?_) rfl (by kernel_rfl) (by kernel_rfl) (by kernel_rfl) (fun _ _ _ h => h) (Or.inl ⟨by rfl, ?_⟩) (by assumption) ?_
        rotate_left 1
        · intro V hSw; obtain ⟨d0, d1, d2, d3, d4⟩ := HA.out; have c0 := ((show Fp (fun k => wr.heap.size ≤ k) wr V from hSw).cell (p := ⟨g1, k * 5, none⟩) (show g1 < wr.heap.size from l1) (fun h => absurd (show wr.heap.size ≤ g1 from h) (by omega))).trans d0; have c1 := ((show Fp (fun k => wr.heap.size ≤ k) wr V from hSw).cell (p := ⟨g1, k * 5 + 1, none⟩) (show g1 < wr.heap.size from l1) (fun h => absurd (show wr.heap.size ≤ g1 from h) (by omega))).trans d1; have c2 := ((show Fp (fun k => wr.heap.size ≤ k) wr V from hSw).cell (p := ⟨g1, k * 5 + 2, none⟩) (show g1 < wr.heap.size from l1) (fun h => absurd (show wr.heap.size ≤ g1 from h) (by omega))).trans d2; have c3 := ((show Fp (fun k => wr.heap.size ≤ k) wr V from hSw).cell (p := ⟨g1, k * 5 + 3, none⟩) (show g1 < wr.heap.size from l1) (fun h => absurd (show wr.heap.size ≤ g1 from h) (by omega))).trans d3; have c4 := ((show Fp (fun k => wr.heap.size ≤ k) wr V from hSw).cell (p := ⟨g1, k * 5 + 4, none⟩) (show g1 < wr.heap.size from l1) (fun h => absurd (show wr.heap.size ≤ g1 from h) (by omega))).trans d4; clear hSw d0 d1 d2 d3 d4; go_simp; (try with_reducible rfl)
        try simp only [Act.put, List.setIfInBounds_toArray, List.set_cons_zero, List.set_cons_succ, List.getElem_toArray, List.getElem_cons_zero, List.getElem_cons_succ]
        refine wpAnyH_take (i := 4) (v := ?_) rfl (by kernel_rfl) (by kernel_rfl) (by kernel_rfl) (fun _ _ _ h => h) (Or.inl ⟨by rfl, ?_⟩) (by assumption) ?_
        rotate_left 1
        · intro w hSw; (try dsimp only at hSw); go_simp; (try with_reducible rfl)
        try simp only [Act.put, List.setIfInBounds_toArray, List.set_cons_zero, List.set_cons_succ, List.getElem_toArray, List.getElem_cons_zero, List.getElem_cons_succ]
        refine wpAnyH_take (i := 5) (v := ?_) rfl (by kernel_rfl) (by kernel_rfl) (by kernel_rfl) (fun _ _ _ h => h) (Or.inl ⟨by rfl, ?_⟩) (by assumption) ?_
        rotate_left 1
        · intro w hSw; (try dsimp only at hSw); go_simp; (try with_reducible rfl)
        try simp only [Act.put, List.setIfInBounds_toArray, List.set_cons_zero, List.set_cons_succ, List.getElem_toArray, List.getElem_cons_zero, List.getElem_cons_succ]
        refine wpAnyH_take (i := 6) (v := ?_) rfl (by kernel_rfl) (by kernel_rfl) (by kernel_rfl) (fun _ _ _ h => h) (Or.inl ⟨by rfl, ?_⟩) (by assumption) ?_
        rotate_left 1
        · intro w hSw; (try dsimp only at hSw); go_simp; (try with_reducible rfl)
        try simp only [Act.put, List.setIfInBounds_toArray, List.set_cons_zero, List.set_cons_succ, List.getElem_toArray, List.getElem_cons_zero, List.getElem_cons_succ]
        refine wpAnyH_take (i := 7) (v := ?_) rfl (by kernel_rfl) (by kernel_rfl) (by kernel_rfl) (fun _ _ _ h => h) (Or.inl ⟨by rfl, ?_⟩) (by assumption) ?_
        rotate_left 1
        · intro V hSw; obtain ⟨d0, d1, d2, d3, d4⟩ := HB.out; have c0 := ((show Fp (fun k => wr.heap.size ≤ k) wr V from hSw).cell (p := ⟨g2, k * 5, none⟩) (show g2 < wr.heap.size from l2) (fun h => absurd (show wr.heap.size ≤ g2 from h) (by omega))).trans d0; have c1 := ((show Fp (fun k => wr.heap.size ≤ k) wr V from hSw).cell (p := ⟨g2, k * 5 + 1, none⟩) (show g2 < wr.heap.size from l2) (fun h => absurd (show wr.heap.size ≤ g2 from h) (by omega))).trans d1; have c2 := ((show Fp (fun k => wr.heap.size ≤ k) wr V from hSw).cell (p := ⟨g2, k * 5 + 2, none⟩) (show g2 < wr.heap.size from l2) (fun h => absurd (show wr.heap.size ≤ g2 from h) (by omega))).trans d2; have c3 := ((show Fp (fun k => wr.heap.size ≤ k) wr V from hSw).cell (p := ⟨g2, k * 5 + 3, none⟩) (show g2 < wr.heap.size from l2) (fun h => absurd (show wr.heap.size ≤ g2 from h) (by omega))).trans d3; have c4 := ((show Fp (fun k => wr.heap.size ≤ k) wr V from hSw).cell (p := ⟨g2, k * 5 + 4, none⟩) (show g2 < wr.heap.size from l2) (fun h => absurd (show wr.heap.size ≤ g2 from h) (by omega))).trans d4; clear hSw d0 d1 d2 d3 d4; go_simp; (try with_reducible rfl)
        try simp only [Act.put, List.setIfInBounds_toArray, List.set_cons_zero, List.set_cons_succ, List.getElem_toArray, List.getElem_cons_zero, List.getElem_cons_succ]
        refine wpAnyH_ready (rs := [8, 9]) (by kernel_rfl) (by simp) ?_
        refine AllReadyH.cons rfl (fun K hK => ?_) (AllReadyH.cons rfl (fun K hK => ?_) AllReadyH.nil)
        · go_simp
          refine hK.out _ _ (by first | exact fp_alloc' (fp_drew' (Fp.refl _ _)) _ | exact fp_drew' (fp_alloc' (Fp.refl _ _) _) | exact fp_drew' (fp_alloc' (fp_alloc' (Fp.refl _ _) _) _) | exact fp_alloc' (fp_alloc' (fp_drew' (Fp.refl _ _)) _) _) (fun hHeld8 => ?_)
          clear hK K
          try simp only [Act.put, List.setIfInBounds_toArray, List.set_cons_zero, List.set_cons_succ, List.getElem_toArray, List.getElem_cons_zero, List.getElem_cons_succ]
          refine wpAnyH_ready (rs := [9]) (by kernel_rfl) (by simp) ?_
          refine AllReadyH.cons rfl (fun K hK => ?_) AllReadyH.nil
          go_simp
          refine hK.out _ _ (by first | exact fp_alloc' (fp_drew' (Fp.refl _ _)) _ | exact fp_drew' (fp_alloc' (Fp.refl _ _) _) | exact fp_drew' (fp_alloc' (fp_alloc' (Fp.refl _ _) _) _) | exact fp_alloc' (fp_alloc' (fp_drew' (Fp.refl _ _)) _) _) (fun hHeld9 => ?_)
          clear hK K
          try simp only [Act.put, List.setIfInBounds_toArray, List.set_cons_zero, List.set_cons_succ, List.getElem_toArray, List.getElem_cons_zero, List.getElem_cons_succ]
          refine wpAnyH_ready (rs := [10]) (by kernel_rfl) (by simp) ?_
          refine AllReadyH.cons rfl (fun K hK => ?_) AllReadyH.nil
          go_simp
          refine hK.out _ _ (by first | exact fp_alloc' (fp_drew' (Fp.refl _ _)) _ | exact fp_drew' (fp_alloc' (Fp.refl _ _) _) | exact fp_drew' (fp_alloc' (fp_alloc' (Fp.refl _ _) _) _) | exact fp_alloc' (fp_alloc' (fp_drew' (Fp.refl _ _)) _) _) (fun hHeld10 => ?_)
          clear hK K
          try simp only [Act.put, List.setIfInBounds_toArray, List.set_cons_zero, List.set_cons_succ, List.getElem_toArray, List.getElem_cons_zero, List.getElem_cons_succ]
          refine wpAnyH_ready (rs := [11]) (by kernel_rfl) (by simp) ?_
          refine AllReadyH.cons rfl (fun K hK => ?_) AllReadyH.nil
          go_simp
          refine hK.out _ _ (by first | exact fp_alloc' (fp_drew' (Fp.refl _ _)) _ | exact fp_drew' (fp_alloc' (Fp.refl _ _) _) | exact fp_drew' (fp_alloc' (fp_alloc' (Fp.refl _ _) _) _) | exact fp_alloc' (fp_alloc' (fp_drew' (Fp.refl _ _)) _) _) (fun hHeld11 => ?_)
          clear hK K
          try simp only [Act.put, List.setIfInBounds_toArray, List.set_cons_zero, List.set_cons_succ, List.getElem_toArray, List.getElem_cons_zero, List.getElem_cons_succ]
          refine wpAnyH_done (by kernel_rfl) ?_ _
          go_wp2_with fail
          go_quiet (fail)
          go_wp2_with fail
          go_roundw
          case rel => exact ⟨k + 1, by omega, by go_num, below_six HBW.out _ _ _ _ _ (by first | exact Nat.le_refl _ | exact Nat.le_succ _) (by first | exact Nat.le_refl _ | exact Nat.le_succ _) _ _⟩
          case measure => simp [intOf]; omega
        · go_simp
          refine hK.out _ _ (by first | exact fp_alloc' (fp_drew' (Fp.refl _ _)) _ | exact fp_drew' (fp_alloc' (Fp.refl _ _) _) | exact fp_drew' (fp_alloc' (fp_alloc' (Fp.refl _ _) _) _) | exact fp_alloc' (fp_alloc' (fp_drew' (Fp.refl _ _)) _) _) (fun hHeld9 => ?_)
          clear hK K
          try simp only [Act.put, List.setIfInBounds_toArray, List.set_cons_zero, List.set_cons_succ, List.getElem_toArray, List.getElem_cons_zero, List.getElem_cons_succ]
          refine wpAnyH_ready (rs := [8]) (by kernel_rfl) (by simp) ?_
          refine AllReadyH.cons rfl (fun K hK => ?_) AllReadyH.nil
          go_simp
          refine hK.out _ _ (by first | exact fp_alloc' (fp_drew' (Fp.refl _ _)) _ | exact fp_drew' (fp_alloc' (Fp.refl _ _) _) | exact fp_drew' (fp_alloc' (fp_alloc' (Fp.refl _ _) _) _) | exact fp_alloc' (fp_alloc' (fp_drew' (Fp.refl _ _)) _) _) (fun hHeld8 => ?_)
          clear hK K
          try simp only [Act.put, List.setIfInBounds_toArray, List.set_cons_zero, List.set_cons_succ, List.getElem_toArray, List.getElem_cons_zero, List.getElem_cons_succ]
          refine wpAnyH_ready (rs := [10]) (by kernel_rfl) (by simp) ?_
          refine AllReadyH.cons rfl (fun K hK => ?_) AllReadyH.nil
          go_simp
          refine hK.out _ _ (by first | exact fp_alloc' (fp_drew' (Fp.refl _ _)) _ | exact fp_drew' (fp_alloc' (Fp.refl _ _) _) | exact fp_drew' (fp_alloc' (fp_alloc' (Fp.refl _ _) _) _) | exact fp_alloc' (fp_alloc' (fp_drew' (Fp.refl _ _)) _) _) (fun hHeld10 => ?_)
          clear hK K
          try simp only [Act.put, List.setIfInBounds_toArray, List.set_cons_zero, List.set_cons_succ, List.getElem_toArray, List.getElem_cons_zero, List.getElem_cons_succ]
          refine wpAnyH_ready (rs := [11]) (by kernel_rfl) (by simp) ?_
          refine AllReadyH.cons rfl (fun K hK => ?_) AllReadyH.nil
          go_simp
          refine hK.out _ _ (by first | exact fp_alloc' (fp_drew' (Fp.refl _ _)) _ | exact fp_drew' (fp_alloc' (Fp.refl _ _) _) | exact fp_drew' (fp_alloc' (fp_alloc' (Fp.refl _ _) _) _) | exact fp_alloc' (fp_alloc' (fp_drew' (Fp.refl _ _)) _) _) (fun hHeld11 => ?_)
          clear hK K
          try simp only [Act.put, List.setIfInBounds_toArray, List.set_cons_zero, List.set_cons_succ, List.getElem_toArray, List.getElem_cons_zero, List.getElem_cons_succ]
          refine wpAnyH_done (by kernel_rfl) ?_ _
          go_wp2_with fail
          go_quiet (fail)
          go_wp2_with fail
          go_roundw
          case rel => exact ⟨k + 1, by omega, by go_num, below_six HBW.out _ _ _ _ _ (by first | exact Nat.le_refl _ | exact Nat.le_succ _) (by first | exact Nat.le_refl _ | exact Nat.le_succ _) _ _⟩
          case measure => simp [intOf]; omega
      · obtain rfl : k = L.length := by omega
        go_wp2
        go_ret
        exact ⟨rfl, hb⟩
end Go.Proofs.YtgimmdnmndbcpaaGreatDoor
