/- The errors' numbers: what Num comes to. -/
import Derived.Test.YtjjaghiihkdclaaDoorK
set_option linter.unusedVariables false
set_option linter.unusedSimpArgs false
namespace Go.Proofs.YtjjaghiihkdclaaDoor
open Go.RowKit Jw

/-- The errors' variables hold pointers to blocks of their own. -/
structure Sents (w : World) (A : Nat → Addr) : Prop where
  cell : ∀ i, i < 18 → w.cell? ⟨i, 0, none⟩ = some (er (A i))
  blk : ∀ i, i < 18 → ∃ c t, w.heap[(A i).block]? = some (.cells c t (0, 0))
  ne : ∀ i j, i < j → j < 18 → A i ≠ A j
  low : 18 ≤ w.heap.size
theorem Sents.below {w w' : World} {A : Nat → Addr} {B : Nat} (h : Sents w A) (hb : Below B w w') (hB : w.heap.size ≤ B) : Sents w' A := by
  refine ⟨fun i hi => ?_, fun i hi => ?_, h.ne, Nat.le_trans h.low hb.size⟩
  · have := h.low
    exact (hb.cell (p := ⟨i, 0, none⟩) (by show i < B; omega)).trans (h.cell i hi)
  · obtain ⟨c, t, e⟩ := h.blk i hi
    have hlt : (A i).block < w.heap.size := Blk.lt (cs := c) (t := t) e
    exact ⟨c, t, by rw [hb.block _ (by omega)]; exact e⟩
theorem Sents.apart {w : World} {A : Nat → Addr} (h : Sents w A) {i j : Nat} (hi : i < 18) (hj : j < 18) (hne : i ≠ j) : A i ≠ A j := by
  rcases Nat.lt_or_ge i j with hl | hl
  · exact h.ne i j hl hj
  · exact fun e => h.ne j i (by omega) hi e.symm

theorem num_nil (w : World) : Calls Tryd.prog 21 #[.nilIface] w fun e w' => e = .returned (n64 0) ∧ w = w' := by
  go_enter Tryd.func21, Tryd.ntmps21
  go_wp2
  go_ret
  exact ⟨rfl, rfl⟩

/-- The place of an error's variable, by its place in the document's table. -/
def og (j : Nat) : Nat := if j = 0 then 0 else if j < 5 then j + 1 else if j = 5 then 1 else j
theorem og_lt (j : Nat) (h : j < 18) : og j < 18 := by unfold og; split <;> (try split) <;> (try split) <;> omega
theorem og_ne (i j : Nat) (h : i ≠ j) : og i ≠ og j := by
  unfold og
  by_cases a1 : i = 0 <;> by_cases b1 : j = 0 <;> by_cases a2 : i < 5 <;> by_cases b2 : j < 5 <;> by_cases a3 : i = 5 <;> by_cases b3 : j = 5 <;> simp [a1, b1, a2, b2, a3, b3] <;> omega
/-- The list that Num lays. -/
def erl (A : Nat → Addr) : Array Value := #[er (A 0), er (A 2), er (A 3), er (A 4), er (A 5), er (A 1), er (A 6), er (A 7), er (A 8), er (A 9), er (A 10), er (A 11), er (A 12), er (A 13), er (A 14), er (A 15), er (A 16), er (A 17)]
theorem erl_at (A : Nat → Addr) (k : Nat) (h : k < 18) : (erl A)[k]? = some (er (A (og k))) := by
  match k, h with
  | 0, _ => rfl | 1, _ => rfl | 2, _ => rfl | 3, _ => rfl | 4, _ => rfl | 5, _ => rfl | 6, _ => rfl | 7, _ => rfl | 8, _ => rfl
  | 9, _ => rfl | 10, _ => rfl | 11, _ => rfl | 12, _ => rfl | 13, _ => rfl | 14, _ => rfl | 15, _ => rfl | 16, _ => rfl | 17, _ => rfl
  | k + 18, h => exact absurd h (by omega)

set_option maxRecDepth 100000 in
set_option maxHeartbeats 1000000 in
theorem num_at (w : World) (A : Nat → Addr) (h : Sents w A) (j : Nat) (hj : j < 18) :
    Calls Tryd.prog 21 #[er (A (og j))] w fun e w' => e = .returned (n64 ((j : Int) + 1)) ∧ Below w.heap.size w w' := by
  obtain ⟨i0, j0, hi0, hcm, hj0, hsz⟩ := info67
  have g0 := h.cell 0 (by decide)
  have g1 := h.cell 1 (by decide)
  have g2 := h.cell 2 (by decide)
  have g3 := h.cell 3 (by decide)
  have g4 := h.cell 4 (by decide)
  have g5 := h.cell 5 (by decide)
  have g6 := h.cell 6 (by decide)
  have g7 := h.cell 7 (by decide)
  have g8 := h.cell 8 (by decide)
  have g9 := h.cell 9 (by decide)
  have g10 := h.cell 10 (by decide)
  have g11 := h.cell 11 (by decide)
  have g12 := h.cell 12 (by decide)
  have g13 := h.cell 13 (by decide)
  have g14 := h.cell 14 (by decide)
  have g15 := h.cell 15 (by decide)
  have g16 := h.cell 16 (by decide)
  have g17 := h.cell 17 (by decide)
  have HS := Lib.hid h
  clear h
  go_enter Tryd.func21, Tryd.ntmps21
  go_wp2_with fail
  have hb := blk_new w (erl A) 26
  have HB := Lib.hid hb
  have hBB : Below w.heap.size w (w.alloc (.cells (erl A) 26)) := (Below.refl _ _).alloc (Nat.le_refl _) _
  clear g0 g1 g2 g3 g4 g5 g6 g7 g8 g9 g10 g11 g12 g13 g14 g15 g16 g17 hb
  go_loopw [29] (fun i wr => ∃ (k : Nat), k ≤ j ∧ i = n64 k ∧ wr = w.alloc (.cells (erl A) 26)) (fun i _ => 18 - (intOf i).toNat)
  case atStart => exact ⟨0, Nat.zero_le _, rfl, rfl⟩
  case round =>
    obtain ⟨k, hk, rfl, rfl⟩ := hrel
    have ck := HB.out.cell k _ (erl_at A k (by omega))
    have hS2 := HS.out.below hBB (Nat.le_refl _)
    by_cases hlt : k < j
    · obtain ⟨ca, ta, ha⟩ := hS2.blk (og j) (og_lt j hj)
      obtain ⟨cb, tb, hb⟩ := hS2.blk (og k) (og_lt k (by omega))
      have heq := run_eql_iface_ptr_other (P := Tryd.prog) (w := w.alloc (.cells (erl A) 26)) Tryd.underlying26 Tryd.underlying67 hi0 hcm hj0 hsz (hS2.apart (og_lt j hj) (og_lt k (by omega)) (og_ne j k (by omega))) ha hb
      clear ha hb hS2
      go_wp2
      go_roundw
      case rel => exact ⟨k + 1, by omega, by go_num, trivial⟩
      case measure => simp [intOf]; omega
    · obtain rfl : k = j := by omega
      have heq := run_eql_iface_ptr_same (P := Tryd.prog) (w := w.alloc (.cells (erl A) 26)) (A (og k)) Tryd.underlying26 Tryd.underlying67 hi0 hcm hj0
      clear hS2
      go_wp2
      go_ret
      exact ⟨rfl, hBB⟩
end Go.Proofs.YtjjaghiihkdclaaDoor
