/- DrumRanges: the walk. -/
import Derived.Test.YtjjaghiihkdclaaDoorI
import Derived.Test.YtjjaghiihkdclaaDoorNum
import Derived.Deep.RegionWith
import Derived.Deep.DeepCutAuto
import Derived.Deep.RegionHeld3
set_option linter.unusedVariables false
set_option linter.unusedSimpArgs false
namespace Go.Proofs.YtjjaghiihkdclaaDoor
open Go.RowKit Jw

set_option maxRecDepth 100000 in
set_option maxHeartbeats 2000000 in
theorem ranges_walk (w : World) (aR aP : Addr) (hT : Two w aR aP) (bs at_ n : Int) :
    Calls Tryd.prog 3 #[n64 bs, n64 at_, n64 n] w fun e w' => e = .returned (.bool true) ∧ Below w.heap.size w w' := by
  have heq := eq_same aP
  have hne := ne_same aR
  have hz := zero31
  have hrn := row_ne
  have hrb := row_bl
  have H0 := Lib.hid hT
  clear hT
  have hr1 := umod_range bs 50 (by decide) (by decide)
  have hr2 := umod_range n 20 (by decide) (by decide)
  go_enter Tryd.func3, Tryd.ntmps3
  go_wp2_with fail
  refine (alive_yes H0.out).mono ?_
  rintro e w1 ⟨rfl, hB1⟩
  have HB1 := Lib.hid hB1
  have H1 := Lib.hid (H0.out.below hB1 (Nat.le_refl _))
  clear hB1 H0
  go_wp2_with fail
  obtain ⟨m, hm⟩ : ∃ m : Nat, 1 + wrap64 ((IntKind.u64.wrap bs).tmod 50) = (m : Int) := ⟨(1 + wrap64 ((IntKind.u64.wrap bs).tmod 50)).toNat, by omega⟩
  obtain ⟨p, hp⟩ : ∃ p : Nat, wrap64 ((IntKind.u64.wrap n).tmod 20) = (p : Int) := ⟨(wrap64 ((IntKind.u64.wrap n).tmod 20)).toNat, by omega⟩
  have hm1 : 1 ≤ m := by omega
  have hm2 : m ≤ 50 := by omega
  have hp2 : p < 20 := by omega
  rw [hm, hp]
  clear hm hp hr1 hr2
  refine (new_st H1.out m hm1 (by omega)).mono ?_
  rintro e w2 ⟨rfl, hs⟩
  have H2 := Lib.hid hs
  clear hs
  go_wp2_with fail
  refine (arm_yes H2.out.dr.d (by omega)).mono ?_
  rintro e w3 ⟨rfl, hpu⟩
  have H3 := Lib.hid (H2.out.pt hpu)
  clear hpu H2
  obtain ⟨bad, hbad⟩ : ∃ bad : Bool, bad = decide (at_ < 0 ∨ (m : Int) ≤ at_) := ⟨_, rfl⟩
  go_upto_region 9 with fail
  go_cut [42] (fun s wx => s = .bool bad ∧ wx = w3)
  case first =>
    by_cases h1 : at_ < 0
    · have hb1 : bad = true := by rw [hbad]; simp [h1]
      clear hbad
      subst hb1
      go_wp2_with fail
      go_meet
      exact ⟨rfl, rfl⟩
    · by_cases h2 : (m : Int) ≤ at_
      · have hb1 : bad = true := by rw [hbad]; simp [h2]
        clear hbad
        subst hb1
        go_wp2_with fail
        go_meet
        exact ⟨rfl, rfl⟩
      · have hb1 : bad = false := by rw [hbad]; simp; omega
        clear hbad
        subst hb1
        go_wp2_with fail
        go_meet
        exact ⟨rfl, rfl⟩
  case rest =>
    obtain ⟨rfl, rfl⟩ := hcut
    go_upto_if 42 with fail
    go_cut [] (fun wx => ∃ L, St w1 wx (w1.heap.size + 1) w1.heap.size false true p m 0 L aR aP)
    case first =>
      cases bad with
      | false =>
        go_wp2_with fail
        go_meet
        exact ⟨_, H3.out⟩
      | true =>
        have hb2 : at_ < 0 ∨ (m : Int) ≤ at_ := by simpa using hbad.symm
        have HB2 := Lib.hid hb2
        clear hbad hb2
        go_wp2_with fail
        refine (st_read_out H3.out HB2.out).mono ?_
        rintro e w4 ⟨rfl, hs⟩
        have H4 := Lib.hid hs
        clear hs
        have H5 := Lib.hid (H4.out.allo (.cells (row (zer 64)) 31))
        have hS := H5.out.two.r
        go_upto_region 11 with ((with_reducible refine wpList_store_run (w' := w4.alloc (.cells (row (zer 64)) 31)) ?_ 31 (.tmp 9) (.tmp 47) ?_ ⟨w4.heap.size, 0, none⟩ (.agg (row (zer 64))) ?_ ?_ ?_ ?_); rfl; rfl; rfl; rfl; exact store_new _ _ (zer_length 64))
        have K5 := Lib.hid (fun W (h : St w1 W (w1.heap.size + 1) w1.heap.size false true p m 0 (zer (m * 64)) aR aP) => st_write_out (B := zer 64) h HB2.out)
        go_region_held3 (fun w' => w'.cell? ⟨0, 0, none⟩ = some (er aR)) (first | exact hS | exact hS5.two.r)
          ((go_at_call 12; refine (K5.out _ H5.out.drew).mono ?_; rintro e w5 ⟨rfl, hS5⟩))
        have H6 := Lib.hid hS5
        clear hS5 hS
        go_wp2_with fail
        go_meet
        exact ⟨_, H6.out⟩
    case rest =>
      clear H3
      obtain ⟨L, hs⟩ := hcut
      have H3 := Lib.hid hs
      clear hs
      clear hbad
      go_wp2_with fail
      go_loopw [61] (fun i wr => ∃ (k : Nat) (L : List Int), k ≤ p ∧ i = n64 k ∧ St w1 wr (w1.heap.size + 1) w1.heap.size false true ((p : Int) - k) m k L aR aP) (fun i _ => p - (intOf i).toNat)
      case atStart => exact ⟨0, L, Nat.zero_le _, rfl, by simpa using H3.out⟩
      case round =>
        clear H3
        obtain ⟨k, L', hk, rfl, hs⟩ := hrel
        have H4 := Lib.hid hs
        clear hs
        by_cases hlt : k < p
        · have K := Lib.hid (st_write_armed (i := (m : Int) - 1) (B := bl 1) H4.out (by omega) (by omega) (bl_length 1) (by omega) (by omega) (by omega))
          go_wp2_with fail
          refine K.out.mono ?_
          rintro e w5 ⟨rfl, hs⟩
          have H5 := Lib.hid hs
          clear hs K
          go_wp2
          go_roundw
          case rel => exact ⟨k + 1, _, by omega, by go_num, by
            have := H5.out
            rw [show (p : Int) - k - 1 = (p : Int) - ((k + 1 : Nat) : Int) by omega, show (k : Int) + 1 = ((k + 1 : Nat) : Int) by omega] at this
            exact this⟩
          case measure => simp [intOf]; omega
        · obtain rfl : k = p := by omega
          have hs := H4.out
          rw [Int.sub_self] at hs
          have H5 := Lib.hid hs
          clear hs H4
          have K1 := Lib.hid (fun W (h : St w1 W (w1.heap.size + 1) w1.heap.size false true 0 m k L' aR aP) => st_write_goes (i := (m : Int) - 1) (B := bl 2) h (by omega) (by omega))
          have K2 := Lib.hid (fun W (h : St w1 W (w1.heap.size + 1) w1.heap.size true true 0 m k L' aR aP) => st_writes h)
          have hS := H5.out.two.p
          go_upto_region 18 with fail
          have hwr : IntKind.i64.wrap ((m : Int) - 1) = (m : Int) - 1 := IntWalk.i64_in _ (by omega)
          go_region_held3 (fun w' => w'.cell? ⟨1, 0, none⟩ = some (er aP)) (first | exact hS | exact hS5.two.p | exact hS6.two.p)
            ((first
              | (go_at_call 12; refine (K1.out _ H5.out.drew).mono ?_; rintro e w5 ⟨rfl, hS5⟩)
              | (go_at_call 13; refine (K2.out _ hS5).mono ?_; rintro e w6 ⟨rfl, hS6⟩)))
          have H6 := Lib.hid hS6
          clear hS6 hS5 hS
          go_wp2
          go_ret
          exact ⟨rfl, HB1.out.trans (H6.out.below.mono (HB1.out.size))⟩
end Go.Proofs.YtjjaghiihkdclaaDoor
