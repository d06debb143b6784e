/- DrumDark: the walk. -/
import Derived.Test.YtjjaghiihkdclaaDoorK
import Derived.Deep.CutBlock
set_option linter.unusedVariables false
set_option linter.unusedSimpArgs false
namespace Go.Proofs.YtjjaghiihkdclaaDoor
open Go.RowKit Jw

set_option maxRecDepth 100000 in
set_option maxHeartbeats 2000000 in
theorem dark_walk (w : World) (aR aP : Addr) (hT : Two w aR aP) (bs : Int) (ao : Option Addr) (ps : List Int) (cap : Nat)
    (hp : Rd w (.slice ao ps.length cap) ps) (hlen : ps.length ≤ 9223372036854775807) :
    Calls Tryd.prog 5 #[n64 bs, .slice ao ps.length cap] w fun e w' => e = .returned (.bool true) ∧ Below w.heap.size w w' := by
  have heq := ne_same aP
  have hz := zero31
  have hrn := row_ne
  have hrb := row_bl
  have HR := Lib.hid hp
  have H0 := Lib.hid hT
  clear hT hp
  have hr1 := umod_range bs 50 (by decide) (by decide)
  obtain ⟨m, hm⟩ : ∃ m : Nat, 1 + wrap64 ((IntKind.u64.wrap bs).tmod 50) = (m : Int) := ⟨(1 + wrap64 ((IntKind.u64.wrap bs).tmod 50)).toNat, by omega⟩
  have hm1 : 1 ≤ m := by omega
  have hm2 : m ≤ 50 := by omega
  have HM := Lib.hid hm
  clear hm
  go_enter Tryd.func5, Tryd.ntmps5
  go_wp2_with fail
  refine (alive_yes H0.out).mono ?_
  rintro e w1 ⟨rfl, hB1⟩
  have HB1 := Lib.hid hB1
  have H1 := Lib.hid (H0.out.below hB1 (Nat.le_refl _))
  clear hB1
  go_wp2_with fail
  rw [HM.out]
  clear hr1
  refine (new_st H1.out m hm1 (by omega)).mono ?_
  rintro e w2 ⟨rfl, hs⟩
  have H2 := Lib.hid hs
  clear hs
  by_cases hbig : 100 < ps.length
  · go_wp2
    go_ret
    exact ⟨rfl, HB1.out.trans (H2.out.below.mono HB1.out.size)⟩
  have hbd : decide ((100 : Int) < (ps.length : Int)) = false := by simp; omega
  go_wp2_with fail
  refine (st_write_free (B := bl 9) H2.out (by omega) (by omega) (bl_length 9) (by omega)).mono ?_
  rintro e w3 ⟨rfl, hs⟩
  have H3 := Lib.hid hs
  clear hs H2
  go_wp2_with fail
  refine (st_arm H3.out (by omega)).mono ?_
  rintro e w4 ⟨rfl, hs⟩
  have H4 := Lib.hid hs
  clear hs H3
  go_wp2_with fail
  refine (st_write_goes (B := bl 8) H4.out (by omega) (by omega)).mono ?_
  rintro e w5 ⟨rfl, hs⟩
  have H5 := Lib.hid hs
  clear hs H4
  go_wp2_with fail
  refine (st_off H5.out).mono ?_
  rintro e w6 ⟨rfl, rfl⟩
  go_wp2_with fail
  refine (st_image H5.out hm1 (by omega)).mono ?_
  rintro e w6 ⟨v, rfl, hrb6, hs⟩
  have H6 := Lib.hid hs
  have hcv := conv_str hrb6
  clear hs H5 hrb6
  obtain ⟨s, hs⟩ : ∃ s, s = strOfNums (put (zer (m * 64)) (Int.toNat 0) (bl 9)) := ⟨_, rfl⟩
  rw [← hs] at hcv
  have HSS := Lib.hid hs
  clear hs
  obtain ⟨L, hL⟩ : ∃ L, L = put (zer (m * 64)) (Int.toNat 0) (bl 9) := ⟨_, rfl⟩
  have h6 : St w1 w6 (w1.heap.size + 1) w1.heap.size true true 0 m 1 L aR aP := by rw [hL]; exact H6.out
  have HG : Hid (get L 0 = bl 9) := Lib.hid (by rw [hL]; exact get_put _ _ 0 0 m (zer_length _) (bl_length 9) hm1 hm1)
  have HSS2 : Hid (s = strOfNums L) := Lib.hid (by rw [hL]; exact HSS.out)
  have H7 := Lib.hid h6
  clear hL HSS H6 h6
  go_wp2_with fail
  clear hcv
  go_loopw [56] (fun i wr => ∃ (k : Nat), k ≤ ps.length ∧ i = n64 k ∧ St w1 wr (w1.heap.size + 1) w1.heap.size true true 0 m 1 L aR aP) (fun i _ => ps.length - (intOf i).toNat)
  case atStart => exact ⟨0, Nat.zero_le _, rfl, H7.out⟩
  case round =>
    clear H7
    obtain ⟨k, hk, rfl, hs⟩ := hrel
    have HS := Lib.hid hs
    have HBW := Lib.hid (HB1.out.trans (hs.below.mono HB1.out.size))
    clear hs
    by_cases hlt : k < ps.length
    · obtain ⟨ao', cap', e1, hrd⟩ := HR.out
      obtain ⟨b', off, e2, hb', hcell⟩ := hrd (by omega)
      obtain ⟨rfl, rfl⟩ : ao = ao' ∧ cap = cap' := by injection e1 with e1 e3 e4; exact ⟨e1, e4⟩
      clear e1 hrd
      subst e2
      have c1 := (HBW.out.cell (p := ⟨b', off + k, none⟩) hb').trans (hcell k hlt)
      obtain ⟨p, ep⟩ : ∃ p, p = ps.getD k 0 := ⟨_, rfl⟩
      rw [← ep] at c1
      clear ep hcell
      go_wp2_with fail
      refine (st_read_off HS.out).mono ?_
      rintro e w7 ⟨rfl, hs⟩
      have H8 := Lib.hid hs
      clear hs c1 HS HBW
      have H9 := Lib.hid (H8.out.allo (.cells (row (zer 64)) 31))
      have hS := H9.out.two.p
      go_upto_region 17 with ((with_reducible refine wpList_store_run (w' := w7.alloc (.cells (row (zer 64)) 31)) ?_ 31 (.tmp 10) (.tmp 64) ?_ ⟨w7.heap.size, 0, none⟩ (.agg (row (zer 64))) ?_ ?_ ?_ ?_); rfl; rfl; rfl; rfl; exact store_new _ _ (zer_length 64))
      have K5 := Lib.hid (fun W (h : St w1 W (w1.heap.size + 1) w1.heap.size true true 0 m 1 L aR aP) => st_write_off (B := bl 7) (i := p) h)
      go_region_held3 (fun w' => w'.cell? ⟨1, 0, none⟩ = some (er aP)) (first | exact hS | exact hS5.two.p)
        ((go_at_call 12; refine (K5.out _ H9.out.drew).mono ?_; rintro e w8 ⟨rfl, hS5⟩))
      have H10 := Lib.hid hS5
      clear hS5 hS K5 H9 H8
      go_wp2
      go_roundw
      case rel => exact ⟨k + 1, by omega, by go_num, H10.out⟩
      case measure => simp [intOf]; omega
    · obtain rfl : k = ps.length := by omega
      clear HR HBW
      go_wp2_with fail
      refine (st_arm HS.out (by omega)).mono ?_
      rintro e w7 ⟨rfl, hs⟩
      have H8 := Lib.hid hs
      clear hs HS
      go_wp2_with fail
      refine (st_off H8.out).mono ?_
      rintro e w8 ⟨rfl, rfl⟩
      go_wp2_with fail
      refine (st_on H8.out).mono ?_
      rintro e w8 ⟨rfl, hs⟩
      have H9 := Lib.hid hs
      clear hs H8
      go_wp2_with fail
      refine (st_read_ok H9.out (by omega) (by omega)).mono ?_
      rintro e w9 ⟨rfl, hs⟩
      have H10 := Lib.hid hs
      clear hs H9
      rw [show get L (Int.toNat 0) = bl 9 from HG.out]
      have H11 := Lib.hid (H10.out.allo (.cells (row (bl 9)) 31))
      have HST := Lib.hid (store_new w9 (bl 9) (bl_length 9))
      have HNW := Lib.hid (load_one (w := w9.alloc (.cells (row (bl 9)) 31)) (blk_new w9 (row (bl 9)) 31) (bl_length 9))
      have heq9 := eq_row (bl 9) (bl 9) (bl_length 9) (bl_length 9)
      rw [show (bl 9 == bl 9) = true from by simp] at heq9
      have K14 := Lib.hid (st_off H11.out)
      have K16 := Lib.hid (st_image H11.out hm1 (by omega))
      go_wp2_with (first
        | ((with_reducible refine wpList_store_run (w' := w9.alloc (.cells (row (bl 9)) 31)) ?_ 31 (.tmp 13) (.tmp 87) ?_ ⟨w9.heap.size, 0, none⟩ (.agg (row (bl 9))) ?_ ?_ ?_ ?_); rfl; rfl; rfl; rfl; exact HST.out)
        | ((with_reducible refine wpList_load_on ?_ 31 (.tmp 13) ?_ ⟨w9.heap.size, 0, none⟩ (.agg (row (bl 9))) ?_ ?_ ?_); rfl; rfl; rfl; exact HNW.out)
        | (go_at_call 14; refine K14.out.mono ?_; rintro e w10 ⟨rfl, rfl⟩))
      refine K16.out.mono ?_
      rintro e w10 ⟨v2, rfl, hrb2, hs⟩
      have H12 := Lib.hid hs
      have hcv2 := conv_str hrb2
      rw [← HSS2.out] at hcv2
      clear hs hrb2 K16 K14 H11
      have K13 := Lib.hid (st_writes H12.out)
      go_wp2_with fail
      refine K13.out.mono ?_
      rintro e w11 ⟨rfl, hs⟩
      have H13 := Lib.hid hs
      clear hs hcv2
      go_wp2
      go_ret
      exact ⟨rfl, HB1.out.trans (H13.out.below.mono HB1.out.size)⟩
end Go.Proofs.YtjjaghiihkdclaaDoor
