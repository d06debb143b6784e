/- slices.Clone of shares: a list of its own. -/
import Derived.Test.YtgimmdnmndbcpaaGreatDoorShB
import Derived.OwnWalk
import Derived.Test.YtgimmdnmndbcpaaGreatDoorRow
set_option linter.unusedVariables false
set_option linter.unusedSimpArgs false
namespace Go.Proofs.YtgimmdnmndbcpaaGreatDoor
open Go.RowKit Jw Go.Deep
attribute [local go_sem] run_store_float

/-- Shares as cells. -/
def shs : List (Nat × Nat) → List Value
  | [] => []
  | s :: l => fl s.1 :: fl s.2 :: shs l
theorem shs_length (l : List (Nat × Nat)) : (shs l).length = l.length * 2 := by
  induction l with
  | nil => rfl
  | cons s l ih => simp only [shs, List.length_cons, ih]; omega
theorem shs_at (l : List (Nat × Nat)) (k : Nat) (h : k < l.length) : (shs l)[k * 2]? = some (fl (l.getD k (0, 0)).1) ∧ (shs l)[k * 2 + 1]? = some (fl (l.getD k (0, 0)).2) := by
  induction l generalizing k with
  | nil => simp at h
  | cons s l ih =>
    cases k with
    | zero => exact ⟨rfl, rfl⟩
    | succ k =>
      have := ih k (by simpa using h)
      rw [show (k + 1) * 2 = k * 2 + 1 + 1 from by omega]
      simp only [shs, List.getElem?_cons_succ]
      exact this
theorem shs_set (l : List (Nat × Nat)) (k : Nat) (t : Nat) (h : k < l.length) : (shs l).set (k * 2 + 1) (fl t) = shs (l.set k ((l.getD k (0, 0)).1, t)) := by
  induction l generalizing k with
  | nil => simp at h
  | cons s l ih =>
    cases k with
    | zero => rfl
    | succ k =>
      have := ih k (by simpa using h)
      rw [show (k + 1) * 2 + 1 = (k * 2 + 1) + 1 + 1 from by omega]
      simp only [shs, List.set_cons_succ]
      rw [this]
      rfl
theorem shs_one (l : List (Nat × Nat)) : ∀ u ∈ shs l, u.oneCell' = true := by
  induction l with
  | nil => intro u h; simp [shs] at h
  | cons s l ih =>
    intro u h
    simp only [shs, List.mem_cons] at h
    rcases h with rfl | rfl | h
    · rfl
    · rfl
    · exact ih u h

/-- A slice of the call's own: nil and nothing, or a block that begins with these shares. -/
def OwnS (w : World) (base : Nat) (v : Value) (l : List (Nat × Nat)) : Prop :=
  (v = .slice none 0 0 ∧ l = []) ∨ ∃ g cap rest, v = .slice (some ⟨g, 0, none⟩) l.length cap ∧ base ≤ g ∧ Blk w g (shs l ++ rest).toArray 83

theorem OwnS.of_row {w : World} {base : Nat} {v : Value} {l : List (Nat × Nat)} (h : w.ownsRow base 83 2 v l.length (shs l)) : OwnS w base v l := by
  obtain ⟨h1, h2 | ⟨g, cap, cur, hv, hg, hh, hc, hm, hs, ht⟩⟩ := h
  · exact .inl ⟨h2.1, List.eq_nil_of_length_eq_zero h2.2⟩
  · refine .inr ⟨g, cap, cur.toList.drop (l.length * 2), hv, hg, ?_⟩
    unfold Blk
    rw [← ht, List.take_append_drop]
    exact hh
theorem OwnS.read {w : World} {base : Nat} {v : Value} {l : List (Nat × Nat)} (h : OwnS w base v l) : RdS w v l := by
  rcases h with ⟨rfl, rfl⟩ | ⟨g, cap, rest, rfl, hg, hb⟩
  · exact ⟨none, 0, rfl, fun _ => ⟨rfl, rfl⟩, fun h => by simp at h⟩
  · refine ⟨some ⟨g, 0, none⟩, cap, rfl, fun h => (by cases h), fun _ => ⟨g, 0, rfl, hb.lt, fun k hk => ?_⟩⟩
    have := shs_at l k hk
    have hl := shs_length l
    rw [Nat.zero_add]
    refine ⟨hb.cell _ _ ?_, hb.cell _ _ ?_⟩
    · simp only [List.getElem?_toArray]; rw [List.getElem?_append_left (by omega)]; exact this.1
    · simp only [List.getElem?_toArray]; rw [List.getElem?_append_left (by omega)]; exact this.2

theorem info27 : (Tryz.prog.info? 83).map (fun i => (i.zero, i.size, i.bytes)) = some (some (.agg #[.float .f64 0, .float .f64 0]), 2, 16) := by kernel_rfl

set_option maxRecDepth 20000 in
theorem clone_any (v : Value) (l : List (Nat × Nat)) (w : World) (hr : RdS w v l) (hlen : l.length * 16 ≤ 140737488351232) :
    Calls Tryz.prog 66 #[v] w fun e w' => ∃ v', e = .returned v' ∧ OwnS w' w.heap.size v' l ∧ Below w.heap.size w w' := by
  obtain ⟨ao, cap, rfl, h0, hc⟩ := hr
  have hnil := fun wx => Lib.run_eql_slice_nil (P := Tryz.prog) wx 81 83 ao l.length cap 0 0 Tryz.underlying81
  obtain ⟨i0, hi, hz0, hz1, hz2⟩ := info_parts info27
  cases ao with
  | none =>
    obtain ⟨h1, rfl⟩ := h0 rfl
    obtain rfl := List.eq_nil_of_length_eq_zero h1
    clear h0 hc h1 hnil
    have hnil := fun wx => Lib.run_eql_slice_nil (P := Tryz.prog) wx 81 83 none 0 0 0 0 Tryz.underlying81
    have hnn : (Option.isNone (none : Option Addr)) = true := rfl
    show Calls Tryz.prog 66 #[.slice none 0 0] w _
    go_enter Tryz.func66, Tryz.ntmps66
    go_wp2
    go_ret
    exact ⟨_, rfl, .inl ⟨rfl, rfl⟩, Below.refl _ _⟩
  | some a =>
    have HC := Lib.hid hc
    clear hc h0
    go_enter Tryz.func66, Tryz.ntmps66
    have hne : (Option.isNone (some a)) = false := rfl
    have hown : (w.alloc (.cells #[] 83)).ownsRow w.heap.size 83 2 (.slice (some ⟨w.heap.size, 0, none⟩) 0 0) 0 [] :=
      ⟨rfl, .inr ⟨w.heap.size, 0, #[], rfl, Nat.le_refl _, blk_new w #[] 83, Nat.le_refl _, Nat.zero_le _, rfl, rfl⟩⟩
    have HO := Lib.hid hown
    clear hown
    go_wp2_with (at_builtin; refine wpList_append_own _ rfl (.tmp 5) (.tmp 6) 81 rfl w.heap.size 83 i0 _ 2 16 Tryz.underlying81 hi hz0 hz1 hz2 rfl (by decide) _ 0 [] rfl HO.out a l.length cap (shs l) rfl (shs_length l) ?c1 (shs_one l) ?c2 ?c3 ?c4 ?_)
    case c1 =>
      intro j u hj
      have hj' : j < l.length * 2 := by
        have := shs_length l
        rcases Nat.lt_or_ge j (shs l).length with h | h
        · omega
        · rw [List.getElem?_eq_none h] at hj; cases hj
      obtain ⟨b, off, e, hb, hcc⟩ := HC.out (by omega)
      injection e with e
      subst e
      have hbw : ∀ q, (w.alloc (.cells #[] 83)).cell? ⟨b, q, none⟩ = w.cell? ⟨b, q, none⟩ := fun q => (((Below.refl w.heap.size w).alloc (Nat.le_refl _) _).cell (p := ⟨b, q, none⟩) hb)
      have hq := shs_at l (j / 2) (by omega)
      have hcq := hcc (j / 2) (by omega)
      rw [addr_add, hbw]
      rcases Nat.mod_two_eq_zero_or_one j with h | h
      · have : j = j / 2 * 2 := by omega
        rw [this] at hj
        rw [hq.1] at hj
        cases hj
        rw [this]
        have e2 : j / 2 * 2 / 2 = j / 2 := by omega
        rw [e2]
        exact hcq.1
      · have : j = j / 2 * 2 + 1 := by omega
        rw [this] at hj
        rw [hq.2] at hj
        cases hj
        rw [this, ← Nat.add_assoc]
        have e2 : (j / 2 * 2 + 1) / 2 = j / 2 := by omega
        rw [e2]
        exact hcq.2
    case c2 => unfold maxLen; omega
    case c3 => omega
    case c4 => simp
    · intro v' w' hown' hgrow _
      have hB := ((Below.refl w.heap.size w).alloc (Nat.le_refl _) (.cells #[] 83)).grown hgrow (by simp) (by intro k hk; simp [Value.ownBlock] at hk; omega)
      have HW := Lib.hid hown'
      clear hown' hgrow
      go_wp2
      go_ret
      exact ⟨_, rfl, OwnS.of_row (by simpa using HW.out), hB⟩
end Go.Proofs.YtgimmdnmndbcpaaGreatDoor
