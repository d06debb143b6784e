/- DrumCounts: the walk. -/
import Derived.Test.YtjjaghiihkdclaaDoorK
import Derived.Deep.CutBlock
set_option linter.unusedVariables false
set_option linter.unusedSimpArgs false
namespace Go.Proofs.YtjjaghiihkdclaaDoor
open Go.RowKit Jw

theorem info38 : (Tryd.prog.info? 38).map (fun i => (i.zero, i.size)) = some (some (.agg (row (zer 8))), 8) := by kernel_rfl
theorem zero38 (w : World) : (zeroValue 38).run Tryd.prog w = .ok (.agg (row (zer 8))) w := (zero_of_info (P := Tryd.prog) info38).1 w
theorem size38 : (Tryd.prog.info? 38).map (·.size) = some 8 := (zero_of_info (P := Tryd.prog) info38).2
theorem build38 (w : World) : (Instr.build 38 #[]).run Tryd.prog w = .ok (.agg (row (zer 8))) w := run_build w 38 #[] _ (by kernel_rfl)
theorem row_set (L : List Int) (i : Nat) (x : Int) : (row L).setIfInBounds i (.int .u8 x) = row (L.set i x) := by simp [row, List.map_set]

theorem ret_true {b : Bool} (h : b = true) : Ending.returned (.bool b) = .returned (.bool true) := by rw [h]

/-- What the loop of writes keeps to. -/
structure Cn (w0 w1 w : World) (n k q : Nat) (W L : List Int) (aR aP : Addr) : Prop where
  st : (k ≤ n ∧ St w1 w (w1.heap.size + 1) w1.heap.size false true ((n : Int) - k) 8 k L aR aP) ∨ (n < k ∧ St w1 w (w1.heap.size + 1) w1.heap.size true true 0 8 n L aR aP)
  want : Blk w q (row W) 38
  len : W.length = 8
  same : ∀ j, j < 8 → get L j = bl (W.getD j 0)
  low : Below w0.heap.size w0 w
  hq : w1.heap.size ≤ q

section
variable {w0 w1 w : World} {n k q x : Nat} {W L : List Int} {aR aP : Addr}
theorem Cn.write_ok (h : Cn w0 w1 w n k q W L aR aP) (hlow : Below w0.heap.size w0 w1) (hkn : k < n) (hn : n < 20) (hx : x < 8) :
    Calls Tryd.prog 12 #[pt (w1.heap.size + 1), n64 x, .agg (row (bl ((k : Int) + 1)))] w fun e w' => e = .returned .nilIface ∧ St w1 w' (w1.heap.size + 1) w1.heap.size false true ((n : Int) - ((k + 1 : Nat) : Int)) 8 ((k + 1 : Nat) : Int) (put L x (bl ((k : Int) + 1))) aR aP ∧ Blk w' q (row W) 38 ∧ Below w0.heap.size w0 w' := by
  obtain ⟨hst, hw, hl, hs, hB, _⟩ := h
  rcases hst with ⟨_, hst⟩ | ⟨h, _⟩
  · have h1 := Blk.ne hw hst.dr.d (by decide)
    have h2 := Blk.ne hw hst.dr.k (by decide)
    refine (write_armed (i := x) (B := bl ((k : Int) + 1)) hst.dr hx (bl_length _) (by omega) (by omega) (by omega)).mono fun e w' ⟨he, hf, hd⟩ => ⟨he, ?_, hf.keeps hw h1 h2, ?_⟩
    · have := hst.fr hf hd
      rw [show (n : Int) - k - 1 = (n : Int) - ((k + 1 : Nat) : Int) by omega, show (k : Int) + 1 = ((k + 1 : Nat) : Int) by omega] at this
      exact this
    · exact hf.below hB (by have := hlow.size; omega) (by have := hlow.size; omega) hB.size
  · omega
theorem Cn.write_no (h : Cn w0 w1 w n k q W L aR aP) (hlow : Below w0.heap.size w0 w1) (hkn : n ≤ k) (hx : x < 8) {B : List Int} :
    Calls Tryd.prog 12 #[pt (w1.heap.size + 1), n64 x, .agg (row B)] w fun e w' => e = .returned (er aP) ∧ St w1 w' (w1.heap.size + 1) w1.heap.size true true 0 8 n L aR aP ∧ Blk w' q (row W) 38 ∧ Below w0.heap.size w0 w' := by
  obtain ⟨hst, hw, hl, hs, hB, _⟩ := h
  rcases hst with ⟨hk, hst⟩ | ⟨h, hst⟩
  · obtain rfl : k = n := by omega
    rw [Int.sub_self] at hst
    have h1 := Blk.ne hw hst.dr.d (by decide)
    have h2 := Blk.ne hw hst.dr.k (by decide)
    exact (write_goes (i := (x : Int)) (B := B) hst.dr hst.two.p (by omega) (by omega) hst.b1).mono fun e w' ⟨he, hf, hd⟩ => ⟨he, hst.fr hf hd, hf.keeps hw h1 h2, hf.below hB (by have := hlow.size; omega) (by have := hlow.size; omega) hB.size⟩
  · exact (write_off (i := (x : Int)) (B := B) hst.dr.d hst.two.p).mono fun e w' ⟨he, hb⟩ => ⟨he, hst.bel hb, hw.below hb hw.lt, hB.trans (hb.mono hB.size)⟩
theorem same_put (hs : ∀ j, j < 8 → get L j = bl (W.getD j 0)) (hW : W.length = 8) (hL : L.length = 8 * 64) (hx : x < 8) (v : Int) (j : Nat) (hj : j < 8) : get (put L x (bl v)) j = bl ((W.set x v).getD j 0) := by
  rw [get_put L _ x j 8 hL (bl_length v) hx hj]
  by_cases h : x = j
  · subst h
    rw [if_pos rfl, List.getD_eq_getElem?_getD, List.getElem?_set_self (by omega)]
    rfl
  · rw [if_neg h, hs j hj, List.getD_eq_getElem?_getD, List.getD_eq_getElem?_getD, List.getElem?_set_ne h]
end

set_option maxRecDepth 100000 in
set_option maxHeartbeats 2000000 in
theorem counts_walk (w : World) (aR aP : Addr) (hT : Two w aR aP) (n0 : Int) (ao : Option Addr) (ps : List Int) (cap : Nat)
    (hp : Rd w (.slice ao ps.length cap) ps) (hlen : ps.length ≤ 9223372036854775807) :
    Calls Tryd.prog 4 #[n64 n0, .slice ao ps.length cap] w fun e w' => e = .returned (.bool true) ∧ Below w.heap.size w w' := by
  have heq := ne_same aP
  have hz := zero31
  have hrn := row_ne
  have hrb := row_bl
  have hz38 := zero38
  have HR := Lib.hid hp
  have H0 := Lib.hid hT
  clear hT hp
  have hr1 := tmod_twice n0 20 (by decide) (by decide)
  have hr2 : -20 < n0.tmod 20 := by have := Int.lt_tmod_of_pos n0 (show (0 : Int) < 20 by decide); omega
  have hr3 := Int.tmod_lt_of_pos n0 (show (0 : Int) < 20 by decide)
  obtain ⟨n, hn1⟩ : ∃ n : Nat, (n0.tmod 20 + 20).tmod 20 = (n : Int) := ⟨((n0.tmod 20 + 20).tmod 20).toNat, by omega⟩
  have hn20 : n < 20 := by omega
  have hn2 : (n0.tmod 20 + 20) % 20 = (n : Int) := by rw [← hn1, Int.tmod_eq_emod_of_nonneg (a := n0.tmod 20 + 20) (by omega)]
  have hn3 : n0.tmod 20 % 20 = (n : Int) := by omega
  clear hr1
  go_enter Tryd.func4, Tryd.ntmps4
  go_wp2_with fail
  refine (alive_yes H0.out).mono ?_
  rintro e w1 ⟨rfl, hB1⟩
  have HB1 := Lib.hid hB1
  have H1 := Lib.hid (H0.out.below hB1 (Nat.le_refl _))
  clear hB1
  go_wp2_with fail
  refine (new_st H1.out 8 (by decide) (by decide)).mono ?_
  rintro e w2 ⟨rfl, hs⟩
  have H2 := Lib.hid hs
  clear hs
  go_wp2_with fail
  refine (st_arm H2.out (by omega)).mono ?_
  rintro e w3 ⟨rfl, hs⟩
  have H3 := Lib.hid hs
  clear hs H2 hr2 hr3 hn1 hn2 hn3
  have hB3 : Below w.heap.size w w3 := HB1.out.trans (H3.out.below.mono HB1.out.size)
  have HB3 := Lib.hid hB3
  have HW := Lib.hid (blk_new w3 (row (zer 8)) 38)
  have HST := Lib.hid (run_storeAt_new (P := Tryd.prog) w3 38 (row (zer 8)) (row (zer 8)) (by rw [size38, row_size, zer_length]) rfl (row_one _))
  have H4 := Lib.hid (H3.out.allo (.cells (row (zer 8)) 38))
  have hlt3 := hB3.size
  have hlb := H3.out.dr.d.lt
  clear hB3
  go_upto_block 0 with ((with_reducible refine wpList_store_run (w' := w3.alloc (.cells (row (zer 8)) 38)) ?_ 38 (.tmp 7) (.tmp 33) ?_ ⟨w3.heap.size, 0, none⟩ (.agg (row (zer 8))) ?_ ?_ ?_ ?_); rfl; rfl; rfl; rfl; exact HST.out)
  obtain ⟨q, hq⟩ : ∃ q, q = w3.heap.size := ⟨_, rfl⟩
  have HC : Hid (Cn w w1 (w3.alloc (.cells (row (zer 8)) 38)) n 0 q (zer 8) (zer (8 * 64)) aR aP) := Lib.hid ⟨.inl ⟨Nat.zero_le _, by simpa using H4.out⟩, by rw [hq]; exact HW.out, rfl, fun j hj => by rw [get_zer 8 j hj, zer_get]; rfl, HB3.out.alloc HB3.out.size _, by rw [hq]; exact H3.out.below.size⟩
  rw [← hq]
  generalize w3.alloc (.cells (row (zer 8)) 38) = w4 at *
  clear HW HST H4 HB3 H3 hq hz38
  go_cut [] (fun wx => ∃ W L, Cn w w1 wx n (min ps.length 61) q W L aR aP)
  case first =>
    have hap := and7
    go_wp2_with fail
    go_loopw [36] (fun i wr => ∃ (k : Nat) (W L : List Int), k ≤ ps.length ∧ k ≤ 61 ∧ i = n64 k ∧ Cn w w1 wr n k q W L aR aP) (fun i _ => ps.length - (intOf i).toNat)
    case atStart => exact ⟨0, _, _, Nat.zero_le _, Nat.zero_le _, rfl, HC.out⟩
    case round =>
      clear HC
      obtain ⟨k, W, L, hk, hk61, rfl, hc⟩ := hrel
      have HC := Lib.hid hc
      clear hc
      by_cases hlt : k < ps.length
      · obtain ⟨ao', cap', e1, hrd⟩ := HR.out
        obtain ⟨b', off, e2, hb', hcell⟩ := hrd (by omega)
        obtain ⟨rfl, rfl⟩ : ao = ao' ∧ cap = cap' := by injection e1 with e1 e3 e4; exact ⟨e1, e4⟩
        clear e1 hrd
        subst e2
        have c1 := (HC.out.low.cell (p := ⟨b', off + k, none⟩) hb').trans (hcell k hlt)
        obtain ⟨p, ep⟩ : ∃ p, p = ps.getD k 0 := ⟨_, rfl⟩
        rw [← ep] at c1
        clear ep hcell
        by_cases h60 : 60 < k
        · have d1 : decide ((60 : Int) < (k : Int)) = true := by simp; omega
          have HM := Lib.hid (show min ps.length 61 = k by omega)
          go_wp2_with fail
          go_meet
          exact ⟨W, L, by rw [HM.out]; exact HC.out⟩
        · have d1 : decide ((60 : Int) < (k : Int)) = false := by simp; omega
          have m1 : IntKind.u8.wrap ((k : Int) + 1) = (k : Int) + 1 := IntWalk.u8_in _ (by omega)
          obtain ⟨x, hx⟩ : ∃ x : Nat, bits .and .i64 p 7 = (x : Int) := ⟨(bits .and .i64 p 7).toNat, by have := (and7 p).1; omega⟩
          have hx8 : x < 8 := by have := (and7 p).2; omega
          clear hap
          by_cases hkn : k < n
          · have K := Lib.hid (HC.out.write_ok HB1.out hkn hn20 hx8)
            have HW8 := Lib.hid HC.out.len
            have HSM := Lib.hid HC.out.same
            have HQ := Lib.hid HC.out.hq
            have HLL := Lib.hid (show L.length = 8 * 64 by rcases HC.out.st with ⟨_, h⟩ | ⟨_, h⟩ <;> exact h.dr.len)
            clear HC
            go_wp2_with fail
            refine K.out.mono ?_
            rintro e w5 ⟨rfl, hs, hw, hb⟩
            have K14 := Lib.hid (st_off hs)
            have c2 := hw.cell x _ (row_at W x (by rw [HW8.out]; exact hx8))
            have f2 := hw.free x
            have HS := Lib.hid hs
            have HWQ := Lib.hid hw
            have HBL := Lib.hid hb
            clear hs hw hb K
            go_wp2_with (go_at_call 14; refine K14.out.mono ?_; rintro e w6 ⟨rfl, rfl⟩)
            go_roundw
            case rel =>
              have hp := Put.of_set HWQ.out x (.int .u8 ((k : Int) + 1))
              have n1 := Blk.ne HWQ.out HS.out.dr.d (by decide)
              have n2 := Blk.ne HWQ.out HS.out.dr.k (by decide)
              refine ⟨k + 1, W.set x ((k : Int) + 1), put L x (bl ((k : Int) + 1)), by omega, by omega, by go_num, ⟨.inl ⟨by omega, HS.out.other hp n1.symm n2.symm HQ.out⟩, ?_, by rw [List.length_set]; exact HW8.out, same_put HSM.out HW8.out HLL.out hx8 _, hp.below HBL.out (by have := HQ.out; have := HB1.out.size; omega), HQ.out⟩⟩
              have := hp.blk
              rw [row_set] at this
              exact this
            case measure => simp [intOf]; omega
          · have hnk : n ≤ k := by omega
            have hnkd : decide (n ≤ k) = true := by simpa using hnk
            have K := Lib.hid (HC.out.write_no HB1.out (by omega) hx8 (B := bl ((k : Int) + 1)))
            have HW8 := Lib.hid HC.out.len
            have HSM := Lib.hid HC.out.same
            have HQ := Lib.hid HC.out.hq
            clear HC
            go_wp2_with fail
            refine K.out.mono ?_
            rintro e w5 ⟨rfl, hs, hw, hb⟩
            have K14 := Lib.hid (st_off hs)
            have c3 := hs.two.p
            have HS := Lib.hid hs
            have HWQ := Lib.hid hw
            have HBL := Lib.hid hb
            clear hs hw hb K
            go_wp2_with (go_at_call 14; refine K14.out.mono ?_; rintro e w6 ⟨rfl, rfl⟩)
            go_roundw
            case rel => exact ⟨k + 1, W, L, by omega, by omega, by go_num, ⟨.inr ⟨by omega, HS.out⟩, HWQ.out, HW8.out, HSM.out, HBL.out, HQ.out⟩⟩
            case measure => simp [intOf]; omega
      · obtain rfl : k = ps.length := by omega
        have HM := Lib.hid (show min ps.length 61 = ps.length by omega)
        go_wp2_with fail
        go_meet
        exact ⟨W, L, by rw [HM.out]; exact HC.out⟩
  case rest =>
    clear HC HR
    obtain ⟨W, L, hc⟩ := hcut
    obtain ⟨k, hk⟩ : ∃ k, k = min ps.length 61 := ⟨_, rfl⟩
    rw [← hk] at hc
    have HK := Lib.hid hk
    clear hk
    obtain ⟨m, hm⟩ : ∃ m, m = min n k := ⟨_, rfl⟩
    have HMM := Lib.hid hm
    obtain ⟨off, ar, l, hst⟩ : ∃ off ar l, St w1 wc (w1.heap.size + 1) w1.heap.size off ar l 8 (m : Int) L aR aP := by
      rcases hc.st with ⟨h1, h⟩ | ⟨h1, h⟩
      · exact ⟨_, _, _, by rw [hm, Nat.min_eq_right h1]; exact h⟩
      · exact ⟨_, _, _, by rw [hm, Nat.min_eq_left (by omega)]; exact h⟩
    have HC := Lib.hid hc
    have HS := Lib.hid hst
    clear hc hst hm
    go_wp2_with fail
    refine (on_any HS.out.dr.d).mono ?_
    rintro e w5 ⟨rfl, hp⟩
    have HS5 := Lib.hid (HS.out.pt hp)
    have HW5 := Lib.hid (hp.keeps HC.out.want (Blk.ne HC.out.want HS.out.dr.d (by decide)))
    have HB5 := Lib.hid (HB1.out.trans (HS5.out.below.mono HB1.out.size))
    have HSM := Lib.hid HC.out.same
    have HLN := Lib.hid HC.out.len
    clear hp HC HS
    go_wp2_with fail
    go_loopw [85] (fun i wr => ∃ (j : Nat), j ≤ 8 ∧ i = n64 j ∧ St w1 wr (w1.heap.size + 1) w1.heap.size false false 0 8 (m : Int) L aR aP ∧ Blk wr q (row W) 38 ∧ Below w.heap.size w wr) (fun i _ => 8 - (intOf i).toNat)
    case atStart => exact ⟨0, Nat.zero_le _, rfl, HS5.out, HW5.out, HB5.out⟩
    case round =>
      clear HS5 HW5 HB5
      obtain ⟨j, hj, rfl, hs, hw, hb⟩ := hrel
      have HS := Lib.hid hs
      have HW := Lib.hid hw
      have HB := Lib.hid hb
      clear hs hw hb
      by_cases hlt : j < 8
      · have K := Lib.hid (read_ok (i := j) HS.out.dr hlt)
        go_wp2_with fail
        refine K.out.mono ?_
        rintro e w6 ⟨rfl, hb6⟩
        have HS6 := Lib.hid (HS.out.bel hb6)
        have HW6 := Lib.hid (HW.out.below hb6 HW.out.lt)
        have HB6 := Lib.hid (HB.out.trans (hb6.mono HB.out.size))
        clear hb6 K HS HW HB
        rw [HSM.out j hlt]
        obtain ⟨v, hv⟩ : ∃ v, v = W.getD j 0 := ⟨_, rfl⟩
        have cw := HW6.out.cell j _ (row_at W j (by rw [HLN.out]; exact hlt))
        have cw' : (w6.alloc (.cells (row (bl v)) 31)).cell? ⟨q, j, none⟩ = some (.int .u8 v) := by
          rw [World.cell?_alloc_lt _ _ _ HW6.out.lt, cw, hv]
        rw [← hv]
        clear hv cw
        have HST := Lib.hid (store_new w6 (bl v) (bl_length v))
        have HNW := Lib.hid (load_one (w := { (w6.alloc (.cells (row (bl v)) 31)) with drawn := (w6.alloc (.cells (row (bl v)) 31)).drawn + 1 }) (blk_new w6 (row (bl v)) 31) (bl_length v))
        have hne := fun w => (ne_row (bl v) (bl v) (bl_length v) (bl_length v) w)
        rw [show (bl v == bl v) = true from by simp] at hne
        have hj8 : (j : Int) < 8 := by omega
        go_upto_region 24 with ((with_reducible refine wpList_store_run (w' := w6.alloc (.cells (row (bl v)) 31)) ?_ 31 (.tmp 12) (.tmp 92) ?_ ⟨w6.heap.size, 0, none⟩ (.agg (row (bl v))) ?_ ?_ ?_ ?_); rfl; rfl; rfl; rfl; exact HST.out)
        have HS7' := Lib.hid (HS6.out.allo (.cells (row (bl v)) 31))
        have HW7' := Lib.hid ((HW6.out.alloc (.cells (row (bl v)) 31)))
        have HB7' := Lib.hid ((HB6.out.alloc HB6.out.size (.cells (row (bl v)) 31)))
        clear HS6 HW6 HB6 HST
        generalize w6.alloc (.cells (row (bl v)) 31) = w7 at *
        refine wp_region_still_lit (by kernel_rfl) (by kernel_rfl) ?_
        repeat still_step
        refine still_load_on (by rfl) 31 (.tmp 12) rfl ⟨w6.heap.size, 0, none⟩ (.agg (row (bl v))) rfl HNW.out ?_
        repeat still_step
        refine wpStill_nil ?_
        have HS7 := Lib.hid HS7'.out.drew
        have HW7 := Lib.hid HW7'.out.drew
        have HB7 := Lib.hid HB7'.out.drew
        clear HNW hne cw' HS7' HW7' HB7'
        go_wp2
        go_roundw
        case rel => exact ⟨j + 1, by omega, by go_num, HS7.out, HW7.out, HB7.out⟩
        case measure => simp [intOf]; omega
      · obtain rfl : j = 8 := by omega
        have K := Lib.hid (st_writes HS.out)
        go_wp2_with (go_at_call 13; refine K.out.mono ?_; rintro e w6 ⟨rfl, hs6⟩)
        all_goals
          have HS6 := Lib.hid hs6
          clear hs6
          go_ret
          refine ⟨ret_true ?_, HB1.out.trans (HS6.out.below.mono HB1.out.size)⟩
          have h1 := HMM.out
          have h2 := HK.out
          rw [beq_iff_eq]
          omega
end Go.Proofs.YtjjaghiihkdclaaDoor
