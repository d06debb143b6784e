/- SameInts, and the chapter's example. -/
import Derived.Test.YtfklkkckfikfoaaDoorE
namespace Go.Proofs.YtfklkkckfikfoaaDoor
open Go.RowKit Jw Jf Go.Deep

/-- A slice value reads as these ints. -/
def Rd (w : World) (v : Value) (l : List Int) : Prop :=
  ∃ (ao : Option Addr) (cap : Nat), v = .slice ao l.length cap ∧ (l.length ≠ 0 → ∃ b off, ao = some ⟨b, off, none⟩ ∧ b < w.heap.size ∧ ∀ k, k < l.length → w.cell? ⟨b, off + k, none⟩ = some (n64 (l.getD k 0)))

theorem Rd.of_blk {w : World} {b cap : Nat} {l : List Int} {t : TypeId} (h : Blk w b (ints l) t) : Rd w (.slice (some ⟨b, 0, none⟩) l.length cap) l :=
  ⟨_, _, rfl, fun _ => ⟨b, 0, rfl, h.lt, fun k hk => by rw [Nat.zero_add]; exact h.cell k _ (ints_at l k hk)⟩⟩
theorem Rd.below {w w' : World} {v : Value} {l : List Int} {B : Nat} (h : Rd w v l) (hb : Below B w w') (hB : w.heap.size ≤ B) : Rd w' v l := by
  obtain ⟨ao, cap, rfl, h⟩ := h
  refine ⟨ao, cap, rfl, fun hn => ?_⟩
  obtain ⟨b, off, rfl, hlt, hc⟩ := h hn
  exact ⟨b, off, rfl, Nat.lt_of_lt_of_le hlt hb.size, fun k hk => (hb.cell (by show b < B; omega)).trans (hc k hk)⟩
theorem Rd.drewN {w : World} {v : Value} {l : List Int} (h : Rd w v l) (n : Nat) : Rd (w.drewN n) v l := h

set_option maxHeartbeats 400000 in
theorem same_yes (w : World) (v v' : Value) (l : List Int) (h : Rd w v l) (h' : Rd w v' l) (hl : l.length ≤ 9223372036854775807) :
    Calls Tryd.prog 10 #[v, v'] w fun e w' => e = .returned (.bool true) ∧ ∃ k, w' = w.drewN k := by
  obtain ⟨ao, cap, rfl, h⟩ := h
  obtain ⟨ao', cap', rfl, h'⟩ := h'
  by_cases hn : l.length = 0
  · rw [hn]
    clear h h' hn hl
    go_enter Tryd.func10, Tryd.ntmps10
    go_wp2_with fail
    refine wp_loop_rounds 1 ?_
    rw [rounds_succ]
    go_wp2
    go_ret
    exact ⟨rfl, 0, rfl⟩
  · obtain ⟨b, off, rfl, _, hc⟩ := h hn
    obtain ⟨b', off', rfl, _, hc'⟩ := h' hn
    clear h h'
    have HC := Lib.hid hc
    have HC' := Lib.hid hc'
    have HN := Lib.hid hn
    clear hc hc' hn
    go_enter Tryd.func10, Tryd.ntmps10
    go_wp2_with fail
    go_loopw [13] (fun i wr => ∃ (k n : Nat), k ≤ l.length ∧ i = n64 k ∧ wr = w.drewN n) (fun i _ => l.length - (intOf i).toNat)
    case atStart => exact ⟨0, 0, Nat.zero_le _, rfl, rfl⟩
    case round =>
      obtain ⟨k, n, hk, rfl, rfl⟩ := hrel
      by_cases hlt : k < l.length
      · have c1 := HC.out k hlt
        have c2 := HC'.out k hlt
        obtain ⟨x, ex⟩ : ∃ x, x = l.getD k 0 := ⟨_, rfl⟩
        rw [← ex] at c1 c2
        clear ex
        go_wp2_with fail
        go_quiet (fail)
        go_wp2
        go_roundw
        case rel => exact ⟨k + 1, _, by omega, by go_num, rfl⟩
        case measure => simp [intOf]; omega
      · obtain rfl : k = l.length := by omega
        go_wp2
        go_ret
        exact ⟨rfl, _, rfl⟩

theorem example_share (os : List Int) (t : Int) (h : Sh [3, 1, 9] 7 os t) (hp : pass [3, 1, 9] (os, t) = (os, t)) : os = [3, 1, 3] := by
  obtain ⟨j, hj⟩ := h.from0
  have h0 : it [3, 1, 9] 4 ([0, 0, 0], 7) = ([3, 1, 3], 0) := by decide
  have h1 : pass [3, 1, 9] ([3, 1, 3], 0) = ([3, 1, 3], 0) := by decide
  have hj' : it [3, 1, 9] j ([0, 0, 0], 7) = (os, t) := hj
  have := it_unique (ls := [3, 1, 9]) (s := ([0, 0, 0], 7)) (a := j) (b := 4) (by rw [hj']; exact hp) (by rw [h0]; exact h1)
  rw [hj', h0] at this
  exact (Prod.mk.inj this).1

set_option maxRecDepth 100000 in
set_option maxHeartbeats 400000 in
theorem alive_yes (w : World) : Calls Tryd.prog 7 #[] w fun e w' => e = .returned (.bool true) ∧ Below w.heap.size w w' := by
  go_enter Tryd.func7, Tryd.ntmps7
  go_wp2_with fail
  refine (newR_ok 5 (by decide) (by decide)).mono ?_
  rintro e w1 ⟨rfl, hw⟩
  have hO : Blk w1 w.heap.size #[n64 5, n64 0, n64 0] 60 := by rw [hw]; exact blk_new _ _ _
  have hB : Below w.heap.size w w1 := by rw [hw]; exact (Below.refl _ _).alloc (Nat.le_refl _) _
  clear hw
  go_wp2_with fail
  refine (came_ok hO (by decide) (by decide) (by decide) (by decide) (by decide) (by decide) (by decide)).mono ?_
  rintro e w2 ⟨rfl, hp⟩
  have hB2 := hp.below hB (Nat.le_refl _)
  have hO2 := hp.blk
  clear hp hB hO
  go_wp2_with fail
  refine (use_ok hO2 (by decide) (by decide) (by decide) (by decide) (by decide)).mono ?_
  rintro e w3 ⟨rfl, hp⟩
  have hB3 := hp.below hB2 (Nat.le_refl _)
  have hO3 := hp.blk
  clear hp hB2 hO2
  go_wp2_with fail
  refine (due_not hO3 (by decide) (by decide)).mono ?_
  rintro e w4 ⟨rfl, k4, rfl⟩
  go_wp2_with fail
  refine (due_all (hO3.drewN k4)).mono ?_
  rintro e w4 ⟨rfl, k5, rfl⟩
  go_wp2_with fail
  refine (use_ok (hO3.drewN (k4 + k5)) (by decide) (by decide) (by decide) (by decide) (by decide)).mono ?_
  rintro e w5 ⟨rfl, hp⟩
  have hB5 := hp.of_drewN.below hB3 (Nat.le_refl _)
  have hO5 := hp.blk
  clear hp hB3 hO3
  go_wp2_with fail
  refine (due_not hO5 (by decide) (by decide)).mono ?_
  rintro e w6 ⟨rfl, k6, rfl⟩
  go_wp2_with fail
  have hB6 : Below w.heap.size w (w5.drewN k6) := ⟨hB5.os, hB5.tape, hB5.output, hB5.size, hB5.block⟩
  have hN : Blk ((w5.drewN k6).alloc (.cells (ints [3, 1, 9]) 3)) w5.heap.size (ints [3, 1, 9]) 3 := blk_new (w5.drewN k6) _ _
  refine (share_any [3, 1, 9] 7 _ w5.heap.size 0 3 (by simp) (by decide) (fun k hk => by rw [Nat.zero_add]; exact hN.cell k _ (ints_at _ k hk)) (fun k => ?_) (by decide)).mono ?_
  · match k with
    | 0 => decide
    | 1 => decide
    | 2 => decide
    | k + 3 => simp
  rintro e w8 ⟨rfl, os, t, hb8, hB8, hS, hP⟩
  obtain rfl := example_share os t hS hP
  have hB8' : Below w.heap.size w w8 := (hB6.alloc (by exact hB6.size) _).trans (hB8.mono (by have := hB6.size; simp at this ⊢; omega))
  go_wp2_with fail
  have hN8 : Blk (w8.alloc (.cells (ints [3, 1, 3]) 3)) w8.heap.size (ints [3, 1, 3]) 3 := blk_new w8 _ _
  have r1 := Rd.of_blk (cap := 3) (hb8.alloc (.cells (ints [3, 1, 3]) 3))
  simp only [World.size_alloc] at r1
  refine (same_yes _ _ _ [3, 1, 3] (by exact r1) (by exact Rd.of_blk (cap := 3) hN8) (by decide)).mono ?_
  rintro e w9 ⟨rfl, k9, rfl⟩
  go_wp2
  go_ret
  exact ⟨rfl, (hB8'.alloc hB8'.size _).trans ⟨rfl, rfl, rfl, Nat.le_refl _, fun _ _ => rfl⟩⟩
end Go.Proofs.YtfklkkckfikfoaaDoor
