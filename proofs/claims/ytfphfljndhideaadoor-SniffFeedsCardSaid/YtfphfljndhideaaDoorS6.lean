/- The walk of Feed where the line is over, of Name, of Line and of the reference's Line. -/
import Derived.Test.YtfphfljndhideaaDoorS5
import Derived.Lib.SlBytesRow
set_option linter.unusedVariables false
set_option linter.unusedSimpArgs false
namespace Go.Proofs.YtfphfljndhideaaDoor
open Go.RowKit Jw Lab

theorem feed_shut {base p : Nat} {st : Int} {l : List UInt8} {lv : Value} {w : World} (h : Sn base p st l lv w) (hst : st = 1 ∨ st = 2) (v : Value) (a2 : Addr) (h1 : w.cell? ⟨1, 0, none⟩ = some (er a2)) :
    Calls Tryd.prog 28 #[.pointer (some ⟨p, 0, none⟩), v] w fun e w' => e = .returned (.tuple #[n64 0, er a2]) ∧ Below w.heap.size w w' := by
  have hc : w.cell? ⟨p, 0, none⟩ = some (n64 st) := h.blk.cell 0 _ rfl
  clear h
  rcases hst with rfl | rfl
  all_goals
    go_enter Tryd.func28, Tryd.ntmps28
    go_upto_region 2 with fail
    go_quiet (fail)
    go_wp2
    go_ret2
    exact ⟨rfl, ⟨rfl, rfl, rfl, Nat.le_refl _, fun _ _ => rfl⟩⟩

theorem name_no {base p : Nat} {st : Int} {l : List UInt8} {lv : Value} {w : World} (h : Sn base p st l lv w) (hst : st = 0 ∨ st = 2) :
    Calls Tryd.prog 29 #[.pointer (some ⟨p, 0, none⟩)] w fun e w' => e = .returned (.tuple #[.string ⟨#[]⟩, .bool false]) ∧ w' = w := by
  have hc : w.cell? ⟨p, 0, none⟩ = some (n64 st) := h.blk.cell 0 _ rfl
  clear h
  rcases hst with rfl | rfl
  all_goals
    go_enter Tryd.func29, Tryd.ntmps29
    go_wp2
    go_ret2
    exact ⟨rfl, rfl⟩

set_option maxHeartbeats 1000000 in
theorem name_yes {base p : Nat} {l : List UInt8} {lv : Value} {w : World} (h : Sn base p 1 l lv w) (h4 : 5 ≤ l.length) (hl : l.length < 4294967281) :
    Calls Tryd.prog 29 #[.pointer (some ⟨p, 0, none⟩)] w fun e w' => e = .returned (.tuple #[.string (bs ((l.drop 3).take (l.length - 4))), .bool true]) ∧ Below w.heap.size w w' := by
  have hc : w.cell? ⟨p, 0, none⟩ = some (n64 1) := h.blk.cell 0 _ rfl
  have hc1 : w.cell? ⟨p, 1, none⟩ = some lv := h.blk.cell 1 _ rfl
  have hown := h.own
  obtain ⟨g, cap, rfl, hbg, hglt⟩ := hown.form (by omega)
  have hcap : l.length ≤ cap := by
    obtain ⟨_, ⟨e, _⟩ | ⟨g', cap', cur, e, _, _, hcp, _⟩⟩ := hown
    · cases e
    · injection e with _ _ e3
      omega
  obtain ⟨t, ht⟩ : ∃ t, t = (l.drop 3).take (l.length - 4) := ⟨_, rfl⟩
  obtain ⟨k, hk⟩ : ∃ k, l.length = k + 4 := ⟨l.length - 4, by omega⟩
  have htl : t.length = k := by rw [ht]; simp; omega
  have hcell : ∀ n, Rb (w.drewN n) (.slice (some ⟨g, 3, none⟩) t.length (cap - 3)) t := fun n => ⟨_, _, rfl, fun _ => ⟨g, 3, rfl, hglt, fun j hj => by
    have := (own_cell5 hown (3 + j) (by omega)).1.trans (bv_at l (3 + j) (by omega))
    rw [ht, List.getD_eq_getElem?_getD, List.getElem?_take_of_lt (by omega), List.getElem?_drop, ← List.getD_eq_getElem?_getD]
    exact this⟩⟩
  have hcv := fun n => rb_conv (hcell n)
  rw [htl] at hcv
  have e1 : (l.length : Int) - 1 = ((k + 3 : Nat) : Int) := by omega
  rw [← ht]
  have w1 : IntKind.i64.wrap ((k + 3 : Nat) : Int) = ((k + 3 : Nat) : Int) := IntWalk.i64_in _ (by omega)
  obtain ⟨j, hj⟩ : ∃ j, j = k + 3 := ⟨_, rfl⟩
  rw [← hj] at e1 w1
  have f1 : j ≤ cap := by omega
  have f2 : (3 : Int) ≤ (j : Int) := by omega
  have f3 : ¬ cap = 3 := by omega
  have f4 : j - 3 = k := by omega
  clear h hown hcell ht hk htl hj hbg hglt hcap h4
  go_enter Tryd.func29, Tryd.ntmps29
  go_upto_region 3 with fail
  go_quiet (fail)
  go_wp2
  go_ret2
  exact ⟨rfl, ⟨rfl, rfl, rfl, Nat.le_refl _, fun _ _ => rfl⟩⟩
end Go.Proofs.YtfphfljndhideaaDoor
