/- WindowFlows: what a sender spends is never refused where it comes: the walk. -/
import Derived.Test.YtfklkkckfikfoaaDoorG
namespace Go.Proofs.YtfklkkckfikfoaaDoor
open Go.RowKit Jw Jf Go.Deep
attribute [local go_sem] max2_mx min2_mn max_mx min_mn

set_option maxRecDepth 100000 in
set_option maxHeartbeats 4000000 in
theorem flows_walk (w : World) (size : Int) (ao : Option Addr) (ps : List (Int × Int)) (cap : Nat)
    (hp : Rd2 w (.slice ao ps.length cap) ps) (hlen : ps.length ≤ 9223372036854775807) :
    Calls Tryd.prog 6 #[n64 size, .slice ao ps.length cap] w fun e w' => e = .returned (.bool true) ∧ Below w.heap.size w w' := by
  have HR := Lib.hid hp
  clear hp
  go_enter Tryd.func6, Tryd.ntmps6
  go_wp2_with fail
  refine (alive_yes w).mono ?_
  rintro e w1 ⟨rfl, hB⟩
  go_wp2_with fail
  obtain ⟨S, hS⟩ : ∃ S, S = wrap64 (1 + (wrap64 (size.tmod 3000 + 3000)).tmod 3000) := ⟨_, rfl⟩
  rw [← hS]
  have hS1 : 1 ≤ S ∧ S ≤ 3000 := by
    have := rem_range size 3000 (by decide) (by decide)
    rw [hS, IntWalk.wrap64_in (1 + (wrap64 (size.tmod 3000 + 3000)).tmod 3000) ⟨by omega, by omega⟩]
    omega
  clear hS
  obtain ⟨hS1, hS2⟩ := hS1
  refine (newS_ok S hS1 (by omega)).mono ?_
  rintro e w2 ⟨rfl, hw2⟩
  have hO : Blk w2 w1.heap.size #[n64 S, n64 0] 57 := by rw [hw2]; exact blk_new _ _ _
  have hB2 : Below w1.heap.size w1 w2 := by rw [hw2]; exact (Below.refl _ _).alloc (Nat.le_refl _) _
  have hz2 : w2.heap.size = w1.heap.size + 1 := by rw [hw2]; simp
  have hB3 := hB.trans (hB2.mono hB.size)
  have hsz := hB.size
  obtain ⟨b, hb⟩ : ∃ b, b = w1.heap.size := ⟨_, rfl⟩
  rw [← hb] at hO hz2 hsz ⊢
  clear hw2 hB2 hB hb
  go_wp2_with fail
  refine (newR_ok S hS1 (by omega)).mono ?_
  rintro e w3 ⟨rfl, hw3⟩
  have hR : Blk w3 w2.heap.size #[n64 S, n64 0, n64 0] 60 := by rw [hw3]; exact blk_new _ _ _
  have hO3 : Blk w3 b #[n64 S, n64 0] 57 := by rw [hw3]; exact hO.alloc _
  have hB4 : Below w.heap.size w w3 := by rw [hw3]; exact hB3.alloc hB3.size _
  rw [hz2] at hR ⊢
  clear hw3 hB3 hO hz2
  go_wp2_with fail
  go_loopw [9, 10, 48] (fun f c i wr => ∃ (k : Nat) (F H D C : Int), k ≤ ps.length ∧ i = n64 k ∧ f = n64 F ∧ c = n64 C ∧ FS S F H D C ∧ Blk wr b #[n64 S, n64 (F + H + D + C)] 57 ∧ Blk wr (b + 1) #[n64 S, n64 H, n64 D] 60 ∧ Below w.heap.size w wr) (fun _ _ i _ => ps.length - (intOf i).toNat)
  case atStart => exact ⟨0, 0, 0, 0, 0, Nat.zero_le _, rfl, rfl, rfl, ⟨by omega, by omega, by omega, by omega, by omega, hS1, hS2⟩, hO3, hR, hB4⟩
  case round =>
    clear hO3 hR hB4
    obtain ⟨k, F, H, D, C, hk, rfl, rfl, rfl, ⟨hf0, hh0, hd0, hc0, hle, _, _⟩, hO, hR, hB⟩ := hrel
    have hb1 : b ≠ b + 1 := by omega
    by_cases hlt : k < ps.length
    · obtain ⟨ao', cap', e1, hrd⟩ := HR.out
      obtain ⟨b', off, e2, hb', hc⟩ := hrd (by omega)
      obtain ⟨rfl, rfl⟩ : ao = ao' ∧ cap = cap' := by injection e1 with e1 e3 e4; exact ⟨e1, e4⟩
      clear e1 hrd
      subst e2
      have hck := (hB.cell (p := ⟨b', off + k * 2, none⟩) hb').trans (hc k hlt).1
      have hcn := (hB.cell (p := ⟨b', off + k * 2 + 1, none⟩) hb').trans (hc k hlt).2
      clear hc
      obtain ⟨K, hK⟩ : ∃ K, K = (ps.getD k (0, 0)).1 := ⟨_, rfl⟩
      obtain ⟨N, hN⟩ : ∃ N, N = (ps.getD k (0, 0)).2 := ⟨_, rfl⟩
      rw [← hK] at hck
      rw [← hN] at hcn
      clear hK hN
      have hO2 := hO.alloc (.cells #[n64 K, n64 N] 48)
      have hR2 := hR.alloc (.cells #[n64 K, n64 N] 48)
      have hB2 := hB.alloc hB.size (.cells #[n64 K, n64 N] 48)
      clear hO hR hB
      by_cases h300 : k ≤ 300
      · obtain ⟨n, hn⟩ : ∃ n, n = (wrap64 (N.tmod 4000 + 4000)).tmod 4000 := ⟨_, rfl⟩
        have hn1 := rem_range N 4000 (by decide) (by decide)
        rw [← hn] at hn1
        have hn' := hn.symm
        clear hn
        obtain ⟨hn1, hn2⟩ := hn1
        by_cases k1 : K = 1
        · subst k1
          go_wp2_with fail
          refine (left_any hO2 (by omega) (by omega) (by omega) (by omega)).mono ?_
          rintro e w4 ⟨rfl, k4, rfl⟩
          go_wp2_with fail
          obtain ⟨m, hm⟩ : ∃ m, m = mn n (S - (F + H + D + C)) := ⟨_, rfl⟩
          rw [← hm]
          have hm1 : 0 ≤ m ∧ m ≤ S - (F + H + D + C) := by rw [hm]; unfold mn; omega
          clear hm
          obtain ⟨hm1, hm2⟩ := hm1
          refine (spend_ok (hO2.drewN k4) (by omega) (by omega) (by omega) (by omega) hm1 hm2).mono ?_
          rintro e w5 ⟨rfl, hput⟩
          have hput := hput.of_drewN
          have hR2 := hput.keeps hR2 (by omega)
          have hB2 := hput.below hB2 (by omega)
          have hO2 := hput.blk
          rw [show F + H + D + C + m = F + m + H + D + C from by omega] at hO2
          clear hput
          go_wp2_with fail
          refine (out_any hO2).mono ?_
          rintro e w8 ⟨rfl, rfl⟩
          go_wp2_with fail
          refine (held_any hR2).mono ?_
          rintro e w8 ⟨rfl, rfl⟩
          go_wp2_with fail
          refine (due_all hR2).mono ?_
          rintro e w8 ⟨rfl, kk, rfl⟩
          go_wp2_with fail
          refine (held_any (hR2.drewN _)).mono ?_
          rintro e w8 ⟨rfl, rfl⟩
          go_wp2
          go_roundw
          case rel => exact ⟨k + 1, F + m, H, D, C, by omega, by go_num, by go_num, by go_num, ⟨by omega, by omega, by omega, by omega, by omega, hS1, hS2⟩, hO2.drewN _, hR2.drewN _, hB2.trans ⟨rfl, rfl, rfl, Nat.le_refl _, fun _ _ => rfl⟩⟩
          case measure => simp [intOf]; omega
        by_cases k3 : K = 3
        · subst k3
          go_wp2_with fail
          obtain ⟨m, hm⟩ : ∃ m, m = mn n F := ⟨_, rfl⟩
          rw [← hm]
          have hm1 : 0 ≤ m ∧ m ≤ F := by rw [hm]; unfold mn; omega
          clear hm
          obtain ⟨hm1, hm2⟩ := hm1
          refine (came_ok hR2 (by omega) (by omega) hh0 hd0 (by omega) hm1 (by omega)).mono ?_
          rintro e w5 ⟨rfl, hput⟩
          have hO2 := hput.keeps hO2 (by omega)
          have hB2 := hput.below hB2 (by omega)
          have hR2 := hput.blk
          rw [show F + H + D + C = F - m + (H + m) + D + C from by omega] at hO2
          clear hput
          go_wp2_with fail
          refine (out_any hO2).mono ?_
          rintro e w8 ⟨rfl, rfl⟩
          go_wp2_with fail
          refine (held_any hR2).mono ?_
          rintro e w8 ⟨rfl, rfl⟩
          go_wp2_with fail
          refine (due_all hR2).mono ?_
          rintro e w8 ⟨rfl, kk, rfl⟩
          go_wp2_with fail
          refine (held_any (hR2.drewN _)).mono ?_
          rintro e w8 ⟨rfl, rfl⟩
          go_wp2
          go_roundw
          case rel => exact ⟨k + 1, F - m, H + m, D, C, by omega, by go_num, by go_num, by go_num, ⟨by omega, by omega, by omega, by omega, by omega, hS1, hS2⟩, hO2.drewN _, hR2.drewN _, hB2.trans ⟨rfl, rfl, rfl, Nat.le_refl _, fun _ _ => rfl⟩⟩
          case measure => simp [intOf]; omega
        by_cases k4 : K = 4
        · subst k4
          go_wp2_with fail
          refine (held_any hR2).mono ?_
          rintro e w4 ⟨rfl, rfl⟩
          go_wp2_with fail
          obtain ⟨m, hm⟩ : ∃ m, m = mn n H := ⟨_, rfl⟩
          rw [← hm]
          have hm1 : 0 ≤ m ∧ m ≤ H := by rw [hm]; unfold mn; omega
          clear hm
          obtain ⟨hm1, hm2⟩ := hm1
          refine (use_ok hR2 (by omega) hd0 (by omega) hm1 hm2).mono ?_
          rintro e w5 ⟨rfl, hput⟩
          have hO2 := hput.keeps hO2 (by omega)
          have hB2 := hput.below hB2 (by omega)
          have hR2 := hput.blk
          rw [show F + H + D + C = F + (H - m) + (D + m) + C from by omega] at hO2
          clear hput
          go_wp2_with fail
          refine (out_any hO2).mono ?_
          rintro e w8 ⟨rfl, rfl⟩
          go_wp2_with fail
          refine (held_any hR2).mono ?_
          rintro e w8 ⟨rfl, rfl⟩
          go_wp2_with fail
          refine (due_all hR2).mono ?_
          rintro e w8 ⟨rfl, kk, rfl⟩
          go_wp2_with fail
          refine (held_any (hR2.drewN _)).mono ?_
          rintro e w8 ⟨rfl, rfl⟩
          go_wp2
          go_roundw
          case rel => exact ⟨k + 1, F, H - m, D + m, C, by omega, by go_num, by go_num, by go_num, ⟨by omega, by omega, by omega, by omega, by omega, hS1, hS2⟩, hO2.drewN _, hR2.drewN _, hB2.trans ⟨rfl, rfl, rfl, Nat.le_refl _, fun _ _ => rfl⟩⟩
          case measure => simp [intOf]; omega
        by_cases k5 : K = 5
        · subst k5
          by_cases hev : N.tmod 2 = 0
          · have hpar : (N.tmod 2 == 0) = true := by simpa using hev
            go_wp2_with fail
            refine (due_all hR2).mono ?_
            rintro e w4 ⟨rfl, k4, rfl⟩
            go_wp2_with fail
            refine (paid_ok (hR2.drewN k4) (by omega) hd0 (Int.le_refl _)).mono ?_
            rintro e w5 ⟨rfl, hput⟩
            have hput := hput.of_drewN
            have hO2 := hput.keeps hO2 (by omega)
            have hB2 := hput.below hB2 (by omega)
            have hR2 := hput.blk
            rw [show F + H + D + C = F + H + (D - D) + (C + D) from by omega] at hO2
            clear hput
            go_wp2_with fail
            refine (out_any hO2).mono ?_
            rintro e w8 ⟨rfl, rfl⟩
            go_wp2_with fail
            refine (held_any hR2).mono ?_
            rintro e w8 ⟨rfl, rfl⟩
            go_wp2_with fail
            refine (due_all hR2).mono ?_
            rintro e w8 ⟨rfl, kk, rfl⟩
            go_wp2_with fail
            refine (held_any (hR2.drewN _)).mono ?_
            rintro e w8 ⟨rfl, rfl⟩
            go_wp2
            go_roundw
            case rel => exact ⟨k + 1, F, H, D - D, C + D, by omega, by go_num, by go_num, by go_num, ⟨by omega, by omega, by omega, by omega, by omega, hS1, hS2⟩, hO2.drewN _, hR2.drewN _, hB2.trans ⟨rfl, rfl, rfl, Nat.le_refl _, fun _ _ => rfl⟩⟩
            case measure => simp [intOf]; omega
          · have hpar : (N.tmod 2 == 0) = false := by simpa using hev
            go_wp2_with fail
            refine (due_not hR2 (by omega) (by omega)).mono ?_
            rintro e w4 ⟨rfl, k4, rfl⟩
            obtain ⟨m, hm⟩ : ∃ m, m = (if (S + 1) / 2 ≤ D then D else 0) := ⟨_, rfl⟩
            rw [← hm]
            have hm1 : 0 ≤ m ∧ m ≤ D := by rw [hm]; split <;> omega
            clear hm
            obtain ⟨hm1, hm2⟩ := hm1
            go_wp2_with fail
            refine (paid_ok (hR2.drewN k4) (by omega) hm1 hm2).mono ?_
            rintro e w5 ⟨rfl, hput⟩
            have hput := hput.of_drewN
            have hO2 := hput.keeps hO2 (by omega)
            have hB2 := hput.below hB2 (by omega)
            have hR2 := hput.blk
            rw [show F + H + D + C = F + H + (D - m) + (C + m) from by omega] at hO2
            clear hput
            go_wp2_with fail
            refine (out_any hO2).mono ?_
            rintro e w8 ⟨rfl, rfl⟩
            go_wp2_with fail
            refine (held_any hR2).mono ?_
            rintro e w8 ⟨rfl, rfl⟩
            go_wp2_with fail
            refine (due_all hR2).mono ?_
            rintro e w8 ⟨rfl, kk, rfl⟩
            go_wp2_with fail
            refine (held_any (hR2.drewN _)).mono ?_
            rintro e w8 ⟨rfl, rfl⟩
            go_wp2
            go_roundw
            case rel => exact ⟨k + 1, F, H, D - m, C + m, by omega, by go_num, by go_num, by go_num, ⟨by omega, by omega, by omega, by omega, by omega, hS1, hS2⟩, hO2.drewN _, hR2.drewN _, hB2.trans ⟨rfl, rfl, rfl, Nat.le_refl _, fun _ _ => rfl⟩⟩
            case measure => simp [intOf]; omega
        by_cases k2 : K = 2
        · subst k2
          go_wp2_with fail
          obtain ⟨m, hm⟩ : ∃ m, m = mn n C := ⟨_, rfl⟩
          rw [← hm]
          have hm1 : 0 ≤ m ∧ m ≤ C := by rw [hm]; unfold mn; omega
          clear hm
          obtain ⟨hm1, hm2⟩ := hm1
          refine (grant_ok hO2 (by omega) hm1 (by omega)).mono ?_
          rintro e w5 ⟨rfl, hput⟩
          have hR2 := hput.keeps hR2 (by omega)
          have hB2 := hput.below hB2 (by omega)
          have hO2 := hput.blk
          rw [show F + H + D + C - m = F + H + D + (C - m) from by omega] at hO2
          clear hput
          go_wp2_with fail
          refine (out_any hO2).mono ?_
          rintro e w8 ⟨rfl, rfl⟩
          go_wp2_with fail
          refine (held_any hR2).mono ?_
          rintro e w8 ⟨rfl, rfl⟩
          go_wp2_with fail
          refine (due_all hR2).mono ?_
          rintro e w8 ⟨rfl, kk, rfl⟩
          go_wp2_with fail
          refine (held_any (hR2.drewN _)).mono ?_
          rintro e w8 ⟨rfl, rfl⟩
          go_wp2
          go_roundw
          case rel => exact ⟨k + 1, F, H, D, C - m, by omega, by go_num, by go_num, by go_num, ⟨by omega, by omega, by omega, by omega, by omega, hS1, hS2⟩, hO2.drewN _, hR2.drewN _, hB2.trans ⟨rfl, rfl, rfl, Nat.le_refl _, fun _ _ => rfl⟩⟩
          case measure => simp [intOf]; omega
        go_wp2_with fail
        refine (out_any hO2).mono ?_
        rintro e w8 ⟨rfl, rfl⟩
        go_wp2_with fail
        refine (held_any hR2).mono ?_
        rintro e w8 ⟨rfl, rfl⟩
        go_wp2_with fail
        refine (due_all hR2).mono ?_
        rintro e w8 ⟨rfl, kk, rfl⟩
        go_wp2_with fail
        refine (held_any (hR2.drewN _)).mono ?_
        rintro e w8 ⟨rfl, rfl⟩
        go_wp2
        go_roundw
        case rel => exact ⟨k + 1, F, H, D, C, by omega, by go_num, by go_num, by go_num, ⟨by omega, by omega, by omega, by omega, by omega, hS1, hS2⟩, hO2.drewN _, hR2.drewN _, hB2.trans ⟨rfl, rfl, rfl, Nat.le_refl _, fun _ _ => rfl⟩⟩
        case measure => simp [intOf]; omega
      · skip
        go_wp2_with fail
        refine (came_ok hR2 (by omega) (by omega) hh0 hd0 (by omega) hf0 (by omega)).mono ?_
        rintro e w4 ⟨rfl, hput⟩
        have hO4 := hput.keeps hO2 (by omega)
        have hB4 := hput.below hB2 (by omega)
        have hR4 := hput.blk
        clear hput hO2 hR2 hB2
        go_wp2_with fail
        refine (held_any hR4).mono ?_
        rintro e w8 ⟨rfl, rfl⟩
        go_wp2_with fail
        refine (use_ok hR4 (by omega) hd0 (by omega) (by omega) (Int.le_refl _)).mono ?_
        rintro e w5 ⟨rfl, hput⟩
        have hO5 := hput.keeps hO4 (by omega)
        have hB5 := hput.below hB4 (by omega)
        have hR5 := hput.blk
        clear hput hO4 hR4 hB4
        rw [Int.sub_self] at hR5
        go_wp2_with fail
        refine (due_all hR5).mono ?_
        rintro e w8 ⟨rfl, kk, rfl⟩
        go_wp2_with fail
        refine (paid_ok (hR5.drewN kk) (by omega) (by omega) (Int.le_refl _)).mono ?_
        rintro e w6 ⟨rfl, hput⟩
        have hput := hput.of_drewN
        have hO6 := hput.keeps hO5 (by omega)
        have hB6 := hput.below hB5 (by omega)
        have hR6 := hput.blk
        clear hput hO5 hR5 hB5
        go_wp2_with fail
        refine (grant_ok hO6 (by omega) (by omega) (by omega)).mono ?_
        rintro e w7 ⟨rfl, hput⟩
        have hR7 := hput.keeps hR6 (by omega)
        have hB7 := hput.below hB6 (by omega)
        have hO7 := hput.blk
        clear hput hO6 hR6 hB6
        go_wp2_with fail
        refine (left_any hO7 (by omega) (by omega) (by omega) (by omega)).mono ?_
        rintro e w8 ⟨rfl, kk2, rfl⟩
        have hz : ((S - (F + H + D + C - (D + (H + F) + C))) == S) = true := by simp; omega
        go_wp2_with fail
        refine (held_any (hR7.drewN _)).mono ?_
        rintro e w8 ⟨rfl, rfl⟩
        go_wp2
        go_ret
        exact ⟨rfl, hB7.trans ⟨rfl, rfl, rfl, Nat.le_refl _, fun _ _ => rfl⟩⟩
    · have hO2 := hO
      have hR2 := hR
      have hB2 := hB
      clear hO hR hB
      go_wp2_with fail
      refine (came_ok hR2 (by omega) (by omega) hh0 hd0 (by omega) hf0 (by omega)).mono ?_
      rintro e w4 ⟨rfl, hput⟩
      have hO4 := hput.keeps hO2 (by omega)
      have hB4 := hput.below hB2 (by omega)
      have hR4 := hput.blk
      clear hput hO2 hR2 hB2
      go_wp2_with fail
      refine (held_any hR4).mono ?_
      rintro e w8 ⟨rfl, rfl⟩
      go_wp2_with fail
      refine (use_ok hR4 (by omega) hd0 (by omega) (by omega) (Int.le_refl _)).mono ?_
      rintro e w5 ⟨rfl, hput⟩
      have hO5 := hput.keeps hO4 (by omega)
      have hB5 := hput.below hB4 (by omega)
      have hR5 := hput.blk
      clear hput hO4 hR4 hB4
      rw [Int.sub_self] at hR5
      go_wp2_with fail
      refine (due_all hR5).mono ?_
      rintro e w8 ⟨rfl, kk, rfl⟩
      go_wp2_with fail
      refine (paid_ok (hR5.drewN kk) (by omega) (by omega) (Int.le_refl _)).mono ?_
      rintro e w6 ⟨rfl, hput⟩
      have hput := hput.of_drewN
      have hO6 := hput.keeps hO5 (by omega)
      have hB6 := hput.below hB5 (by omega)
      have hR6 := hput.blk
      clear hput hO5 hR5 hB5
      go_wp2_with fail
      refine (grant_ok hO6 (by omega) (by omega) (by omega)).mono ?_
      rintro e w7 ⟨rfl, hput⟩
      have hR7 := hput.keeps hR6 (by omega)
      have hB7 := hput.below hB6 (by omega)
      have hO7 := hput.blk
      clear hput hO6 hR6 hB6
      go_wp2_with fail
      refine (left_any hO7 (by omega) (by omega) (by omega) (by omega)).mono ?_
      rintro e w8 ⟨rfl, kk2, rfl⟩
      have hz : ((S - (F + H + D + C - (D + (H + F) + C))) == S) = true := by simp; omega
      go_wp2_with fail
      refine (held_any (hR7.drewN _)).mono ?_
      rintro e w8 ⟨rfl, rfl⟩
      go_wp2
      go_ret
      exact ⟨rfl, hB7.trans ⟨rfl, rfl, rfl, Nat.le_refl _, fun _ _ => rfl⟩⟩
end Go.Proofs.YtfklkkckfikfoaaDoor
