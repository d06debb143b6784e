/- WindowBack: what is spent and granted comes back: the walk. -/
import Derived.Test.YtfklkkckfikfoaaDoorF
import Derived.Test.YtfklkkckfikfoaaDoorNum
namespace Go.Proofs.YtfklkkckfikfoaaDoor
open Go.RowKit Jw Jf Go.Deep

set_option maxRecDepth 100000 in
set_option maxHeartbeats 1000000 in
theorem back_walk (w : World) (size : Int) (ao : Option Addr) (ps : List Int) (cap : Nat) (aR aW : Addr) (hR : w.cell? ⟨0, 0, none⟩ = some (er aR)) (hW : w.cell? ⟨14, 0, none⟩ = some (er aW)) (hw : 14 < w.heap.size)
    (hs : -9223372036854775808 ≤ size ∧ size ≤ 9223372036854775807) (hp : Rd w (.slice ao ps.length cap) ps) (hlen : ps.length ≤ 9223372036854775807) (hps : ∀ k, -9223372036854775808 ≤ ps.getD k 0 ∧ ps.getD k 0 ≤ 9223372036854775807) :
    Calls Tryd.prog 4 #[n64 size, .slice ao ps.length cap] w fun e w' => e = .returned (.bool true) ∧ Below w.heap.size w w' := by
  have HP := Lib.hid hps
  have HR := Lib.hid hp
  clear hps hp
  go_enter Tryd.func4, Tryd.ntmps4
  go_wp2_with fail
  refine (alive_yes w).mono ?_
  rintro e w1 ⟨rfl, hB⟩
  go_wp2_with fail
  obtain ⟨S, hS⟩ : ∃ S, S = wrap64 (1 + wrap64 ((IntKind.u64.wrap size).tmod 65536)) := ⟨_, rfl⟩
  rw [← hS]
  have hS1 : 1 ≤ S ∧ S ≤ 65536 := by
    have := umod_range size 65536 (by decide) (by decide)
    rw [hS, IntWalk.wrap64_in (1 + wrap64 ((IntKind.u64.wrap size).tmod 65536)) ⟨by omega, by omega⟩]
    omega
  clear hS hs
  obtain ⟨hS1, hS2⟩ := hS1
  have hR1 := (hB.cell (p := ⟨0, 0, none⟩) (by show 0 < _; omega)).trans hR
  have hW1 := (hB.cell (p := ⟨14, 0, none⟩) (by show 14 < _; omega)).trans hW
  clear hR hW
  refine (newS_ok S hS1 hS2).mono ?_
  rintro e w2 ⟨rfl, hw2⟩
  have hO : Blk w2 w1.heap.size #[n64 S, n64 0] 57 := by rw [hw2]; exact blk_new _ _ _
  have hB2 : Below w1.heap.size w1 w2 := by rw [hw2]; exact (Below.refl _ _).alloc (Nat.le_refl _) _
  have hsz := hB.size
  have hR2 := (hB2.cell (p := ⟨0, 0, none⟩) (by show 0 < _; omega)).trans hR1
  have hW2 := (hB2.cell (p := ⟨14, 0, none⟩) (by show 14 < _; omega)).trans hW1
  have hB3 := hB.trans (hB2.mono hsz)
  generalize w1.heap.size = b at *
  clear hw2 hR1 hW1 hB hB2
  by_cases hlong : 300 < ps.length
  · go_wp2
    go_ret
    exact ⟨rfl, hB3⟩
  · have hlb : decide ((300 : Int) < (ps.length : Int)) = false := by simp; omega
    go_wp2_with fail
    go_loopw [37] (fun i wr => ∃ (k : Nat) (out : Int), k ≤ ps.length ∧ i = n64 k ∧ 0 ≤ out ∧ out ≤ S ∧ Blk wr b #[n64 S, n64 out] 57 ∧ Below w.heap.size w wr ∧ wr.cell? ⟨0, 0, none⟩ = some (er aR) ∧ wr.cell? ⟨14, 0, none⟩ = some (er aW)) (fun i _ => ps.length - (intOf i).toNat)
    case atStart => exact ⟨0, 0, Nat.zero_le _, rfl, by omega, by omega, hO, hB3, hR2, hW2⟩
    case round =>
      clear hO hB3 hR2 hW2
      obtain ⟨k, out, hk, rfl, ho1, ho2, hO, hB, hR, hW⟩ := hrel
      have hb0 : (0 : Nat) ≠ b := by omega
      have hb14 : (14 : Nat) ≠ b := by omega
      by_cases hlt : k < ps.length
      · obtain ⟨ao', cap', e1, hrd⟩ := HR.out
        obtain ⟨b', off, e2, hb', hc⟩ := hrd (by omega)
        obtain ⟨rfl, rfl⟩ : ao = ao' ∧ cap = cap' := by injection e1 with e1 e3 e4; exact ⟨e1, e4⟩
        clear e1 hrd
        subst e2
        have hck := (hB.cell (p := ⟨b', off + k, none⟩) hb').trans (hc k hlt)
        clear hc
        obtain ⟨p, hp⟩ : ∃ p, p = ps.getD k 0 := ⟨_, rfl⟩
        rw [← hp] at hck
        clear hp
        have hu : IntKind.u64.wrap (S + 1) = S + 1 := u64_same _ (by omega) (by omega)
        obtain ⟨n, hn⟩ : ∃ n, n = wrap64 ((IntKind.u64.wrap p).tmod (S + 1)) := ⟨_, rfl⟩
        have hn1 := umod_range p (S + 1) (by omega) (by omega)
        rw [← hn] at hn1
        have HN := Lib.hid hn
        have hn' := hn.symm
        clear hn
        obtain ⟨hn1, hn2⟩ := hn1
        by_cases hok : n ≤ S - out
        · have hokb : decide (n ≤ S - out) = true := by simpa using hok
          go_wp2_with fail
          refine (left_any hO (by omega) hS2 ho1 ho2).mono ?_
          rintro e w3 ⟨rfl, k3, rfl⟩
          go_wp2_with fail
          refine (spend_ok (hO.drewN k3) (by omega) hS2 ho1 ho2 hn1 hok).mono ?_
          rintro e w4 ⟨rfl, hput⟩
          have hput := hput.of_drewN
          have hB4 := hput.below hB hsz
          have hR4 := (hput.cell (p := ⟨0, 0, none⟩) hb0).trans hR
          have hW4 := (hput.cell (p := ⟨14, 0, none⟩) hb14).trans hW
          have hO4 := hput.blk
          clear hput hO hB hR hW
          go_wp2
          go_roundw
          case rel => exact ⟨k + 1, out + n, by omega, by go_num, by omega, by omega, hO4, hB4, hR4, hW4⟩
          case measure => simp [intOf]; omega
        · have hokb : decide (n ≤ S - out) = false := by simpa using hok
          go_wp2_with fail
          refine (left_any hO (by omega) hS2 ho1 ho2).mono ?_
          rintro e w3 ⟨rfl, k3, rfl⟩
          go_wp2_with fail
          refine (spend_over (hO.drewN k3) (by omega) hS2 ho1 ho2 (by exact hW) hn1 (by omega)).mono ?_
          rintro e w4 ⟨rfl, k4, rfl⟩
          go_wp2_with fail
          refine (out_any (hO.drewN _)).mono ?_
          rintro e w4 ⟨rfl, rfl⟩
          go_wp2_with fail
          refine (grant_ok (hO.drewN _) (by omega) ho1 (Int.le_refl _)).mono ?_
          rintro e w4 ⟨rfl, hput⟩
          have hput := hput.of_drewN
          rw [Int.sub_self] at hput
          have hB4 := hput.below hB hsz
          have hR4 := (hput.cell (p := ⟨0, 0, none⟩) hb0).trans hR
          have hW4 := (hput.cell (p := ⟨14, 0, none⟩) hb14).trans hW
          have hO4 := hput.blk
          clear hput hO hB hR hW
          go_wp2_with fail
          refine (left_any hO4 (by omega) hS2 (by omega) (by omega)).mono ?_
          rintro e w5 ⟨rfl, k5, rfl⟩
          go_wp2_with fail
          refine (spend_ok (hO4.drewN _) (by omega) hS2 (by omega) (by omega) hn1 (by omega)).mono ?_
          rintro e w6 ⟨rfl, hput⟩
          have hput := hput.of_drewN
          rw [Int.zero_add] at hput
          have hB6 := hput.below hB4 hsz
          have hR6 := (hput.cell (p := ⟨0, 0, none⟩) hb0).trans hR4
          have hW6 := (hput.cell (p := ⟨14, 0, none⟩) hb14).trans hW4
          have hO6 := hput.blk
          clear hput hO4 hB4 hR4 hW4
          go_wp2
          go_roundw
          case rel => exact ⟨k + 1, n, by omega, by go_num, by omega, by omega, hO6, hB6, hR6, hW6⟩
          case measure => simp [intOf]; omega
      · obtain rfl : k = ps.length := by omega
        go_wp2_with fail
        refine (out_any hO).mono ?_
        rintro e w4 ⟨rfl, rfl⟩
        go_wp2_with fail
        refine (grant_ok hO (by omega) ho1 (Int.le_refl _)).mono ?_
        rintro e w4 ⟨rfl, hput⟩
        rw [Int.sub_self] at hput
        have hB4 := hput.below hB hsz
        have hO4 := hput.blk
        clear hput hO hB hR hW
        go_wp2_with fail
        refine (left_any hO4 (by omega) hS2 (by omega) (by omega)).mono ?_
        rintro e w5 ⟨rfl, k5, rfl⟩
        go_wp2_with fail
        refine (out_any (hO4.drewN _)).mono ?_
        rintro e w4 ⟨rfl, rfl⟩
        go_wp2
        go_ret
        exact ⟨rfl, hB4.trans ⟨rfl, rfl, rfl, Nat.le_refl _, fun _ _ => rfl⟩⟩
end Go.Proofs.YtfklkkckfikfoaaDoor
