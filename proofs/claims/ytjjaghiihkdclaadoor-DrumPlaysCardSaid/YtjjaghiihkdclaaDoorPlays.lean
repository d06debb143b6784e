/- DrumPlays: the walk. -/
import Derived.Test.YtjjaghiihkdclaaDoorP
set_option linter.unusedVariables false
set_option linter.unusedSimpArgs false
namespace Go.Proofs.YtjjaghiihkdclaaDoor
open Go.RowKit Jw

/-- What New's call has left. -/
def NewR (w wx : World) (bad : Bool) (bs : Int) (A : Nat → Addr) (s7 s8 : Value) : Prop :=
  Below w.heap.size w wx ∧ ((bad = true ∧ s7 = .pointer none ∧ s8 = er (A 0)) ∨ (bad = false ∧ ∃ (b g n : Nat) (ar : Bool) (l wr : Int) (L : List Int), s7 = pt b ∧ s8 = .nilIface ∧ (n : Int) = bs ∧ Dr wx b g false ar l n wr L))

/-- What a round's operation has left. -/
def PlN (w wx : World) (g h n k : Nat) (A : Nat → Addr) (v : Value) : Prop := v = .bool true ∧ ∃ s : DS, Pl w wx (g + 1) g (h + 1) h n (k + 1) s s A ∧ s.Ok n (k + 1)
theorem load51 {W : World} {q : Nat} {x0 x1 x2 x3 : Int} (h : Blk W q #[n64 x0, n64 x1, n64 x2, .int .u8 x3] 51) :
    (Instr.loadAt 51 (.pointer (some ⟨q, 0, none⟩))).run Tryd.prog W = .ok (opv x0 x1 x2 x3) W := by
  have hr := World.rangeAt_of_block h 0 4
  exact run_loadAt_mid W q 0 51 [n64 x0, n64 x1, n64 x2, .int .u8 x3] _ hr Tryd.underlying51 rfl (by kernel_rfl)

theorem conv_m {W : World} {c h n : Nat} {dark : Bool} {l wr : Int} {L : List Int} (m : Rm W c h dark l n wr L) :
    (convert 40 9 (.slice (some ⟨h, 0, none⟩) (n * 64) (n * 64))).run Tryd.prog W = .ok (.string (strOfNums L)) W :=
  run_convert_bytes_arg W 40 5 Tryd.underlying40 Tryd.underlying5 h 0 (n * 64) (n * 64) L m.len (fun i hi => by rw [Nat.zero_add]; exact m.k.cell i _ (row_at L i (by rw [m.len]; exact hi))) 9 Tryd.underlying9

/-- What a round of the plays begins with. -/
def PlE (w wx : World) (g h n : Nat) (A : Nat → Addr) : Prop := ∃ (k : Nat) (s : DS), k ≤ 201 ∧ Pl w wx (g + 1) g (h + 1) h n k s s A ∧ s.Ok n k

set_option maxRecDepth 100000 in
set_option maxHeartbeats 4000000 in
theorem plays_walk (w : World) (A : Nat → Addr) (hA : Sents w A) (bs : Int) (ao : Option Addr) (I : List Int) (cap : Nat)
    (hI : Rb w (.slice ao I.length cap) I) (hI0 : ao = none → I.length = 0 ∧ cap = 0) (hI1 : I.length ≤ 9223372036854775807)
    (so : Option Addr) (ps : List (Int × Int × Int × Int)) (scap : Nat) (hp : Rd4 w (.slice so ps.length scap) ps) (hlen : ps.length ≤ 9223372036854775807)
    (hb2 : ∀ k, (ps.getD k (0, 0, 0, 0)).2.2.1 ≤ 9223372036854775807) :
    Calls Tryd.prog 7 #[n64 bs, .slice ao I.length cap, .slice so ps.length scap] w fun e w' => e = .returned (.bool true) ∧ Below w.heap.size w w' := by
  have heqR := eq_same (A 0)
  have hneR := ne_same (A 0)
  have hz := zero31
  have HI := Lib.hid hI
  have HI0 := Lib.hid hI0
  have HP := Lib.hid hp
  have HA := Lib.hid hA
  have HB2 := Lib.hid hb2
  clear hI hI0 hp hA hb2
  obtain ⟨bad, hbad⟩ : ∃ bad : Bool, bad = decide (bs < 1 ∨ 4096 < bs) := ⟨_, rfl⟩
  have HBad := Lib.hid hbad
  clear hbad
  go_enter Tryd.func7, Tryd.ntmps7
  go_wp2_with fail
  refine (alive_yes (aR := A 0) (aP := A 1) ⟨HA.out.cell 0 (by decide), HA.out.cell 1 (by decide)⟩).mono ?_
  rintro e w1 ⟨rfl, hB1⟩
  have HB1 := Lib.hid hB1
  have HA1 := Lib.hid (HA.out.below hB1 (Nat.le_refl _))
  clear hB1
  go_upto_region 3 with fail
  go_cut [7, 8] (fun s7 s8 wx => NewR w wx bad bs A s7 s8)
  case first =>
    as_aux_lemma =>
      cases bad with
      | true =>
        have hbb : bs < 1 ∨ 4096 < bs := by simpa using HBad.out.symm
        have K := Lib.hid (new_no w1 bs (A 0) (HA1.out.cell 0 (by decide)) hbb)
        clear hbb
        go_wp2_with fail
        refine K.out.mono ?_
        rintro e w2 ⟨rfl, k2, rfl⟩
        go_wp2_with fail
        go_meet
        exact ⟨HB1.out.trans ⟨rfl, rfl, rfl, Nat.le_refl _, fun _ _ => rfl⟩, .inl ⟨rfl, rfl, rfl⟩⟩
      | false =>
        have hbb : ¬ (bs < 1 ∨ 4096 < bs) := by simpa using HBad.out.symm
        obtain ⟨n, rfl⟩ := Int.eq_ofNat_of_zero_le (show 0 ≤ bs by omega)
        have K := Lib.hid (new_ok w1 n (by omega) (by omega))
        clear hbb
        go_wp2_with fail
        refine K.out.mono ?_
        rintro e w2 ⟨rfl, hd, hb, hz2⟩
        have HD := Lib.hid hd
        have HB := Lib.hid (HB1.out.trans (hb.mono HB1.out.size))
        clear hd hb hz2 K
        go_wp2_with fail
        go_meet
        exact ⟨HB.out, .inr ⟨rfl, _, _, _, _, _, _, _, rfl, rfl, rfl, HD.out⟩⟩
  case rest =>
    have HC := Lib.hid hcut
    clear hcut HB1 HA1
    go_upto_region 4 with fail
    go_cut [30] (fun s wx => s = .bool bad ∧ wx = wc)
    case first =>
      as_aux_lemma =>
        cases bad with
        | true =>
          have hbb : bs < 1 ∨ 4096 < bs := by simpa using HBad.out.symm
          rcases hbb with hbb | hbb
          · go_wp2_with fail
            go_meet
            exact ⟨rfl, rfl⟩
          · have h1 : ¬ bs < 1 := by omega
            go_wp2_with fail
            go_meet
            exact ⟨rfl, rfl⟩
        | false =>
          have hbb : ¬ (bs < 1 ∨ 4096 < bs) := by simpa using HBad.out.symm
          have h1 : ¬ bs < 1 := by omega
          have h2 : ¬ 4096 < bs := by omega
          clear hbb
          go_wp2_with fail
          go_meet
          exact ⟨rfl, rfl⟩
    case rest =>
      obtain ⟨rfl, rfl⟩ := hcut
      go_upto_if 30 with fail
      go_cut [7, 8] (fun _ _ wx => Below w.heap.size w wx)
      case first =>
        as_aux_lemma =>
          obtain ⟨hB, ⟨rfl, rfl, rfl⟩ | ⟨rfl, b, g, n, ar, l, wr, L, rfl, rfl, hn, hd⟩⟩ := HC.out
          · have c0 := (HA.out.below hB (Nat.le_refl _)).cell 0 (by decide)
            have HB := Lib.hid hB
            clear hB
            go_wp2_with fail
            go_meet
            exact HB.out
          · subst hn
            have HB := Lib.hid hB
            have HD := Lib.hid hd
            clear hB hd
            go_wp2_with fail
            refine (blocks_any HD.out.d).mono ?_
            rintro e w3 ⟨rfl, rfl⟩
            go_wp2_with fail
            refine (off_any HD.out.d).mono ?_
            rintro e w3 ⟨rfl, rfl⟩
            go_wp2_with fail
            go_meet
            exact HB.out
      case rest =>
        have HB := Lib.hid hcut
        clear hcut HC
        by_cases hbig : 262400 < I.length
        · go_wp2
          go_ret
          exact ⟨rfl, HB.out⟩
        have hbigd : decide ((262400 : Int) < (I.length : Int)) = false := by simp; omega
        go_wp2_with fail
        refine (bytes_rb ao cap I _ (HI.out.below HB.out (Nat.le_refl _)) HI0.out (by omega)).mono ?_
        rintro e w4 ⟨g4, cp4, rfl, hc4, hc5, hr4, hb4⟩
        have HR4 := Lib.hid hr4
        have HB4 := Lib.hid (HB.out.trans (hb4.mono HB.out.size))
        have ht : (I.length : Int).tmod 64 = ((I.length % 64 : Nat) : Int) := by rw [Int.tmod_eq_emod_of_nonneg (by omega)]; omega
        clear hr4 hb4 HB
        by_cases hbadl : I.length % 64 ≠ 0 ∨ I.length = 0 ∨ 262144 < I.length
        · have K := Lib.hid (from_no (some ⟨g4, 0, none⟩) cp4 I.length ((HA.out.below HB4.out (Nat.le_refl _)).cell 0 (by decide)) hbadl (by omega))
          as_aux_lemma =>
            go_wp2_with fail
            refine K.out.mono ?_
            rintro e w5 ⟨rfl, k5, rfl⟩
            have c0 : (w4.drewN k5).cell? ⟨0, 0, none⟩ = some (er (A 0)) := (HA.out.below HB4.out (Nat.le_refl _)).cell 0 (by decide)
            have c0' : w4.cell? ⟨0, 0, none⟩ = some (er (A 0)) := (HA.out.below HB4.out (Nat.le_refl _)).cell 0 (by decide)
            obtain ⟨r, hr⟩ : ∃ r, r = ((I.length % 64 : Nat) : Int) := ⟨_, rfl⟩
            rw [← hr] at ht
            clear K
            rcases hbadl with h1 | h1 | h1
            · have hb1 : (r != 0) = true := by rw [bne_iff_ne]; omega
              clear h1 hr hbig
              go_wp2
              go_ret
              exact ⟨rfl, HB4.out.trans ⟨rfl, rfl, rfl, Nat.le_refl _, fun _ _ => rfl⟩⟩
            · have hb1 : (r != 0) = false := by simp; omega
              have hb2 : ((I.length : Int) == 0) = true := by simp; exact List.eq_nil_of_length_eq_zero h1
              clear h1 hr hbig
              go_wp2
              go_ret
              exact ⟨rfl, HB4.out.trans ⟨rfl, rfl, rfl, Nat.le_refl _, fun _ _ => rfl⟩⟩
            · by_cases h2 : I.length % 64 ≠ 0
              · have hb1 : (r != 0) = true := by rw [bne_iff_ne]; omega
                clear h1 hr hbig h2
                go_wp2
                go_ret
                exact ⟨rfl, HB4.out.trans ⟨rfl, rfl, rfl, Nat.le_refl _, fun _ _ => rfl⟩⟩
              · have hb1 : (r != 0) = false := by simp; omega
                have hb2 : ((I.length : Int) == 0) = false := by simp; intro h; rw [h] at h1; simp at h1
                have hb3 : decide ((262144 : Int) < (I.length : Int)) = true := by simp; omega
                clear h2 hr hbig
                go_wp2
                go_ret
                exact ⟨rfl, HB4.out.trans ⟨rfl, rfl, rfl, Nat.le_refl _, fun _ _ => rfl⟩⟩
        · obtain ⟨n, hn⟩ : ∃ n, I.length = n * 64 := ⟨I.length / 64, by omega⟩
          have hn1 : 1 ≤ n := by omega
          have hn2 : n ≤ 4096 := by omega
          have ht1 : (I.length : Int).tmod 64 = 0 := by omega
          have hb2 : ((I.length : Int) == 0) = false := by simp; intro h; rw [h] at hn; simp at hn; omega
          have hb3 : decide ((262144 : Int) < (I.length : Int)) = false := by simp; omega
          have hq : (I.length : Int).tdiv 64 = (n : Int) := by rw [Int.tdiv_eq_ediv_of_nonneg (by omega)]; omega
          have HN := Lib.hid hn
          clear hbadl ht hn
          go_wp2_with fail
          refine (from_ok (some ⟨g4, 0, none⟩) cp4 n I HR4.out HN.out hn1 hn2 hc4 hc5).mono ?_
          rintro e w5 ⟨rfl, hd5, hb5⟩
          have HD5 := Lib.hid hd5
          have HB5 := Lib.hid (HB4.out.trans (hb5.mono HB4.out.size))
          have hlb := hd5.d.lt
          have hsz := HB4.out.size
          obtain ⟨g, hg⟩ : ∃ g, g = w4.heap.size := ⟨_, rfl⟩
          rw [← hg] at HD5 hsz hlb ⊢
          clear hd5 hb5 HR4 hg
          go_wp2_with fail
          refine (rnew_any w5 n hn2).mono ?_
          rintro e w6 ⟨rfl, hm6, hb6, hz6⟩
          have HM6 := Lib.hid hm6
          have HD6 := Lib.hid (HD5.out.below hb6 HD5.out.d.lt HD5.out.k.lt)
          have HB6 := Lib.hid (HB5.out.trans (hb6.mono HB5.out.size))
          have hsz5 := HB5.out.size
          have c0 := hm6.d.cell 0 _ rfl
          obtain ⟨h, hh⟩ : ∃ h, h = w5.heap.size := ⟨_, rfl⟩
          rw [← hh] at HM6 hsz5 hz6 hlb c0 ⊢
          clear hm6 hb6 HD5 HB5 hh hq
          obtain ⟨ai, ci, e1, hrd⟩ := HI.out
          obtain ⟨bi, oi, e2, hbi, hci⟩ := hrd (by have := HN.out; omega)
          obtain ⟨rfl, rfl⟩ : ao = ai ∧ cap = ci := by injection e1 with e1 e3 e4; exact ⟨e1, e4⟩
          clear e1 hrd
          subst e2
          have HCI := Lib.hid (fun j hj => (HB6.out.cell (p := ⟨bi, oi + j, none⟩) hbi).trans (hci j hj))
          clear hci
          have hlen0 : (I.length : Int) = (n : Int) * 64 := by have := HN.out; omega
          have HL0 := Lib.hid hlen0
          clear hlen0
          have HCN := Lib.hid (show (I.map (Value.int .u8)).length = Nat.min I.length (n * 64) by rw [List.length_map, HN.out]; exact (Nat.min_self _).symm)
          have HCF := Lib.hid (show 0 + (I.map (Value.int .u8)).length ≤ (row (zer (n * 64))).size by rw [List.length_map, row_size, zer_length, HN.out]; omega)
          have HCS : Hid (∀ j v, (I.map (Value.int .u8))[j]? = some v → w6.cell? ((⟨bi, oi, none⟩ : Addr).add j) = some v) := Lib.hid (by
            intro j v hj
            have hj' : j < I.length := by
              rcases Nat.lt_or_ge j I.length with h | h
              · exact h
              · rw [List.getElem?_eq_none (by simpa using h)] at hj; cases hj
            rw [addr_add, HCI.out j hj']
            rw [List.getElem?_map, List.getElem?_eq_getElem hj'] at hj
            rw [List.getD_eq_getElem?_getD, List.getElem?_eq_getElem hj']
            exact hj)
          have HKK := Lib.hid (show w6.heap[h]? = some (.cells (row (zer (n * 64))) 5 (0, 0)) from HM6.out.k)
          have hq := put_setRow (ds := row I) HM6.out.k
          have e2 : ((row (zer (n * 64))).toList.take 0 ++ ((I.map (Value.int .u8)) ++ (row (zer (n * 64))).toList.drop (0 + (I.map (Value.int .u8)).length))).toArray = row I := by
            rw [List.length_map, HN.out, List.take_zero, List.nil_append, List.drop_of_length_le (by simp [row, zer]), List.append_nil]
            rfl
          have HE2 := Lib.hid e2
          have HPL : Hid (Pl w (w6.setRow h (row I)) (g + 1) g (h + 1) h n 0 ⟨false, false, 0, 0, I⟩ ⟨false, false, 0, 0, I⟩ A) := Lib.hid (by
            have hB := hq.below HB6.out (by omega)
            exact ⟨hB, HA.out.below hB (Nat.le_refl _), ⟨hq.keeps HD6.out.d (by omega), hq.keeps HD6.out.k (by omega), HN.out⟩, ⟨hq.keeps HM6.out.d (by omega), hq.blk, HN.out⟩, by omega, by omega, by omega, by omega, HA.out⟩)
          have HOK : Hid ((⟨false, false, 0, 0, I⟩ : DS).Ok n 0) := Lib.hid ⟨by show (0 : Int) ≤ 0; omega, by show (0 : Int) ≤ _; omega, by show (0 : Int) ≤ 0; omega, by show (0 : Int) ≤ _; omega, HN.out⟩
          obtain ⟨s0, hs0⟩ : ∃ s0 : DS, s0 = ⟨false, false, 0, 0, I⟩ := ⟨_, rfl⟩
          rw [← hs0] at HPL HOK
          clear hq e2 HB4 hb2 hb3 hbigd ht1 hs0
          go_upto_region 18 with ((with_reducible refine wpList_copy_own ?_ (.tmp 97) (.tmp 98) 40 40 ?_ 5 Tryd.underlying40 size5' h 0 (n * 64) (n * 64) ⟨bi, oi, none⟩ I.length cap ?_ ?_ (row (zer (n * 64))) 5 HKK.out (I.map (Value.int .u8)) HCN.out HCS.out HCF.out (one_bytes I) ?_); rfl; rfl; rfl; rfl; rw [HE2.out])
          generalize w6.setRow h (row I) = w7 at *
          clear HCN HCF HCS HE2 HKK HM6 HD6 HB6 HCI c0
          simp only [Act.put, List.setIfInBounds_toArray, List.set_cons_zero, List.set_cons_succ, List.length_map, goInt]
          go_upto_block 0 with fail
          go_cut [] (fun wx => PlE w wx g h n A)
          case first =>
            as_aux_lemma =>
              go_wp2_with fail
              go_loopw [102] (fun i wr => ∃ (k : Nat) (s : DS), k ≤ ps.length ∧ k ≤ 201 ∧ i = n64 k ∧ Pl w wr (g + 1) g (h + 1) h n k s s A ∧ s.Ok n k) (fun i _ => ps.length - (intOf i).toNat)
              case atStart => exact ⟨0, s0, Nat.zero_le _, Nat.zero_le _, rfl, HPL.out, HOK.out⟩
              case round =>
                clear HPL HOK
                obtain ⟨k, s, hk, hk2, rfl, hpl, hok⟩ := hrel
                have HPL := Lib.hid hpl
                have HOK := Lib.hid hok
                clear hpl hok
                by_cases hlt : k < ps.length
                · obtain ⟨ai, ci, e1, hrd⟩ := HP.out
                  obtain ⟨bp, op, e2, hbp, hcp⟩ := hrd (by omega)
                  obtain ⟨rfl, rfl⟩ : so = ai ∧ scap = ci := by injection e1 with e1 e3 e4; exact ⟨e1, e4⟩
                  clear e1 hrd
                  subst e2
                  obtain ⟨x, ex⟩ : ∃ x, x = ps.getD k (0, 0, 0, 0) := ⟨_, rfl⟩
                  obtain ⟨x0, x1, x2, x3⟩ := x
                  have hck := hcp k hlt
                  have hbk := HB2.out k
                  rw [← ex] at hck hbk
                  obtain ⟨q0, q1, q2, q3⟩ := hck
                  have p0 := (HPL.out.below.cell (p := ⟨bp, op + k * 4, none⟩) hbp).trans q0
                  have p1 := (HPL.out.below.cell (p := ⟨bp, op + k * 4 + 1, none⟩) hbp).trans q1
                  have p2 := (HPL.out.below.cell (p := ⟨bp, op + k * 4 + 2, none⟩) hbp).trans q2
                  have p3 := (HPL.out.below.cell (p := ⟨bp, op + k * 4 + 3, none⟩) hbp).trans q3
                  have HX2 := Lib.hid hbk
                  clear hcp q0 q1 q2 q3 ex hbk
                  simp only at p0 p1 p2 p3
                  have hO := Lib.hid (blk_new wr #[n64 x0, n64 x1, n64 x2, .int .u8 x3] 51)
                  have hPB := Lib.hid (HPL.out.bel ((Below.refl _ _).alloc (Nat.le_refl _) (.cells #[n64 x0, n64 x1, n64 x2, .int .u8 x3] 51)))
                  by_cases h200 : 200 < k
                  · have d3 : decide ((200 : Int) < (k : Int)) = true := by simp; omega
                    go_wp2_with fail
                    go_meet
                    exact ⟨k, s, hk2, hPB.out, HOK.out⟩
                  · have d3 : decide ((200 : Int) < (k : Int)) = false := by simp; omega
                    obtain ⟨q, hq⟩ : ∃ q, q = wr.heap.size := ⟨_, rfl⟩
                    rw [← hq] at hO
                    go_upto_block 2 with fail
                    rw [← hq]
                    have HPO : Hid (Po w (wr.alloc (.cells #[n64 x0, n64 x1, n64 x2, .int .u8 x3] 51)) (g + 1) g (h + 1) h n k s s A q x0 x1 x2 x3) := Lib.hid ⟨hPB.out, hO.out⟩
                    generalize wr.alloc (.cells #[n64 x0, n64 x1, n64 x2, .int .u8 x3] 51) = W at *
                    clear HPL hPB hO p0 p1 p2 p3 hq
                    go_cut [13] (fun v wx => PlN w wx g h n k A v)
                    case first =>
                      as_aux_lemma =>
                        by_cases hx1 : x0 = 1
                        · subst hx1
                          as_aux_lemma =>
                            go_upto_region 25 with fail
                            refine wp_region_held_drew (S := fun V => Blk V q #[n64 1, n64 x1, n64 x2, .int .u8 x3] 51) (by kernel_rfl) HPO.out.drew.o (fun hHeld => ?_)
                            refine wpAnyH_take (i := 0) (v := ?_) rfl (by kernel_rfl) (by kernel_rfl) (by kernel_rfl) (fun _ _ _ h => h) (Or.inl ⟨by rfl, ?_⟩) (by assumption) ?_
                            rotate_left 1
                            · intro w hSw; (try dsimp only at hSw); go_simp; (try with_reducible rfl)
                            try simp only [Act.put, List.setIfInBounds_toArray, List.set_cons_zero, List.set_cons_succ, List.getElem_toArray, List.getElem_cons_zero, List.getElem_cons_succ]
                            refine wpAnyH_take (i := 1) (v := ?_) rfl (by kernel_rfl) (by kernel_rfl) (by kernel_rfl) (fun _ _ _ h => h) (Or.inl ⟨by rfl, ?_⟩) (by assumption) ?_
                            rotate_left 1
                            · intro w hSw; (try dsimp only at hSw); go_simp; (try with_reducible rfl)
                            try simp only [Act.put, List.setIfInBounds_toArray, List.set_cons_zero, List.set_cons_succ, List.getElem_toArray, List.getElem_cons_zero, List.getElem_cons_succ]
                            refine wpAnyH_take (i := 2) (v := ?_) rfl (by kernel_rfl) (by kernel_rfl) (by kernel_rfl) (fun _ _ _ h => h) (Or.inl ⟨by rfl, ?_⟩) (by assumption) ?_
                            rotate_left 1
                            · intro V hSw; have hc := (show Blk V q #[n64 1, n64 x1, n64 x2, .int .u8 x3] 51 from hSw).cell 1 _ rfl; clear hSw; go_simp; (try with_reducible rfl)
                            try simp only [Act.put, List.setIfInBounds_toArray, List.set_cons_zero, List.set_cons_succ, List.getElem_toArray, List.getElem_cons_zero, List.getElem_cons_succ]
                            refine wpAnyH_take (i := 3) (v := opv 1 x1 x2 x3) rfl (by kernel_rfl) (by kernel_rfl) (by kernel_rfl) (fun _ _ _ h => h) (Or.inl ⟨by rfl, ?_⟩) (by assumption) ?_
                            · exact fun w hSw => exec_load 51 (.tmp 12) rfl ⟨q, 0, none⟩ _ rfl (load51 hSw)
                            try simp only [Act.put, List.setIfInBounds_toArray, List.set_cons_zero, List.set_cons_succ, List.getElem_toArray, List.getElem_cons_zero, List.getElem_cons_succ]
                            refine wpAnyH_take (i := 7) (v := ?_) rfl (by kernel_rfl) (by kernel_rfl) (by kernel_rfl) (fun _ _ _ h => h) (Or.inl ⟨by rfl, ?_⟩) (by assumption) ?_
                            rotate_left 1
                            · intro w hSw; (try dsimp only at hSw); go_simp; (try with_reducible rfl)
                            try simp only [Act.put, List.setIfInBounds_toArray, List.set_cons_zero, List.set_cons_succ, List.getElem_toArray, List.getElem_cons_zero, List.getElem_cons_succ]
                            refine wpAnyH_take (i := 8) (v := ?_) rfl (by kernel_rfl) (by kernel_rfl) (by kernel_rfl) (fun _ _ _ h => h) (Or.inl ⟨by rfl, ?_⟩) (by assumption) ?_
                            rotate_left 1
                            · intro w hSw; (try dsimp only at hSw); go_simp; (try with_reducible rfl)
                            try simp only [Act.put, List.setIfInBounds_toArray, List.set_cons_zero, List.set_cons_succ, List.getElem_toArray, List.getElem_cons_zero, List.getElem_cons_succ]
                            refine wpAnyH_take (i := 9) (v := ?_) rfl (by kernel_rfl) (by kernel_rfl) (by kernel_rfl) (fun _ _ _ h => h) (Or.inl ⟨by rfl, ?_⟩) (by assumption) ?_
                            rotate_left 1
                            · intro V hSw; have hc := (show Blk V q #[n64 1, n64 x1, n64 x2, .int .u8 x3] 51 from hSw).cell 1 _ rfl; clear hSw; go_simp; (try with_reducible rfl)
                            try simp only [Act.put, List.setIfInBounds_toArray, List.set_cons_zero, List.set_cons_succ, List.getElem_toArray, List.getElem_cons_zero, List.getElem_cons_succ]
                            refine wpAnyH_take (i := 10) (v := opv 1 x1 x2 x3) rfl (by kernel_rfl) (by kernel_rfl) (by kernel_rfl) (fun _ _ _ h => h) (Or.inl ⟨by rfl, ?_⟩) (by assumption) ?_
                            · exact fun w hSw => exec_load 51 (.tmp 12) rfl ⟨q, 0, none⟩ _ rfl (load51 hSw)
                            try simp only [Act.put, List.setIfInBounds_toArray, List.set_cons_zero, List.set_cons_succ, List.getElem_toArray, List.getElem_cons_zero, List.getElem_cons_succ]
                            refine wpAnyH_ready (rs := [4]) (by kernel_rfl) (by simp) ?_
                            refine AllReadyH.cons rfl (fun K hK => ?_) AllReadyH.nil
                            go_simp
                            refine (HPO.out.drew.block).mono ?_
                            rintro e w4 ⟨rfl, hP4⟩
                            refine hK.out _ _ hP4.o (fun hHeld4 => ?_)
                            clear hK K
                            try simp only [Act.put, List.setIfInBounds_toArray, List.set_cons_zero, List.set_cons_succ, List.getElem_toArray, List.getElem_cons_zero, List.getElem_cons_succ]
                            refine wpAnyH_ready (rs := [5]) (by kernel_rfl) (by simp) ?_
                            refine AllReadyH.cons rfl (fun K hK => ?_) AllReadyH.nil
                            go_simp
                            refine (hP4.fwrite (i := x1) HOK.out (by omega) (opb_length x3 x2)).mono ?_
                            rintro e w5 ⟨rfl, hP5⟩
                            refine hK.out _ _ hP5.o (fun hHeld5 => ?_)
                            clear hK K
                            try simp only [Act.put, List.setIfInBounds_toArray, List.set_cons_zero, List.set_cons_succ, List.getElem_toArray, List.getElem_cons_zero, List.getElem_cons_succ]
                            refine wpAnyH_ready (rs := [6]) (by kernel_rfl) (by simp) ?_
                            refine AllReadyH.cons rfl (fun K hK => ?_) AllReadyH.nil
                            go_simp
                            refine (hP5.numw s).mono ?_
                            rintro e w6 ⟨rfl, hP6⟩
                            refine hK.out _ _ hP6.o (fun hHeld6 => ?_)
                            clear hK K
                            try simp only [Act.put, List.setIfInBounds_toArray, List.set_cons_zero, List.set_cons_succ, List.getElem_toArray, List.getElem_cons_zero, List.getElem_cons_succ]
                            refine wpAnyH_ready (rs := [11]) (by kernel_rfl) (by simp) ?_
                            refine AllReadyH.cons rfl (fun K hK => ?_) AllReadyH.nil
                            go_simp
                            refine hP6.block.mono ?_
                            rintro e w7 ⟨rfl, hP7⟩
                            refine hK.out _ _ hP7.o (fun hHeld11 => ?_)
                            clear hK K
                            try simp only [Act.put, List.setIfInBounds_toArray, List.set_cons_zero, List.set_cons_succ, List.getElem_toArray, List.getElem_cons_zero, List.getElem_cons_succ]
                            refine wpAnyH_ready (rs := [12]) (by kernel_rfl) (by simp) ?_
                            refine AllReadyH.cons rfl (fun K hK => ?_) AllReadyH.nil
                            go_simp
                            refine (hP7.mwrite (i := x1) HOK.out (by omega) (by omega) (opb_length x3 x2)).mono ?_
                            rintro e w8 ⟨rfl, hP8⟩
                            refine hK.out _ _ hP8.o (fun hHeld12 => ?_)
                            clear hK K
                            try simp only [Act.put, List.setIfInBounds_toArray, List.set_cons_zero, List.set_cons_succ, List.getElem_toArray, List.getElem_cons_zero, List.getElem_cons_succ]
                            refine wpAnyH_take (i := 13) (v := ?_) rfl (by kernel_rfl) (by kernel_rfl) (by kernel_rfl) (fun _ _ _ h => h) (Or.inl ⟨by rfl, ?_⟩) (by assumption) ?_
                            rotate_left 1
                            · intro w hSw; (try dsimp only at hSw); go_simp; (try with_reducible rfl)
                            try simp only [Act.put, List.setIfInBounds_toArray, List.set_cons_zero, List.set_cons_succ, List.getElem_toArray, List.getElem_cons_zero, List.getElem_cons_succ]
                            refine wpAnyH_take (i := 14) (v := ?_) rfl (by kernel_rfl) (by kernel_rfl) (by kernel_rfl) (fun _ _ _ h => h) (Or.inl ⟨by rfl, ?_⟩) (by assumption) ?_
                            rotate_left 1
                            · intro w hSw; (try dsimp only at hSw); go_simp; (try with_reducible rfl)
                            try simp only [Act.put, List.setIfInBounds_toArray, List.set_cons_zero, List.set_cons_succ, List.getElem_toArray, List.getElem_cons_zero, List.getElem_cons_succ]
                            refine wpAnyH_done (by kernel_rfl) ?_ _
                            have HN8 : Hid (PlN w w8 g h n k A (.bool true)) := Lib.hid ⟨rfl, _, hP8.pl.next, HOK.out.write (opb_length x3 x2)⟩
                            clear hHeld hHeld4 hHeld5 hHeld6 hHeld11 hHeld12 hP4 hP5 hP6 hP7 hP8 HPO
                            go_wp2_with fail
                            go_meet
                            exact HN8.out
                        have dx1 : (x0 == 1) = false := by simpa using hx1
                        by_cases hx2 : x0 = 2
                        · subst hx2
                          as_aux_lemma =>
                            have c1 := HPO.out.o.cell 1 _ rfl
                            have HBL := Lib.hid (DS.blk_length (i := x1) HOK.out)
                            obtain ⟨B, hB⟩ : ∃ B, B = s.blk n x1 := ⟨_, rfl⟩
                            have K1 := Lib.hid (HPO.out.fread (i := x1))
                            have K2 := Lib.hid (fun V (p : Po w V (g + 1) g (h + 1) h n k s s A q 2 x1 x2 x3) => mread_all (i := x1) p.pl.m (by omega))
                            rw [← hB] at HBL K1 K2
                            clear hB
                            go_wp2_with fail
                            refine K1.out.mono ?_
                            rintro e w4 ⟨rfl, hP4⟩
                            have H4 := Lib.hid hP4
                            have HST := Lib.hid (store_new w4 B HBL.out)
                            have HNB := Lib.hid (blk_new w4 (row B) 31)
                            have H5 := Lib.hid (hP4.bel ((Below.refl _ _).alloc (Nat.le_refl _) (.cells (row B) 31)))
                            obtain ⟨b1, hb1⟩ : ∃ b1, b1 = w4.heap.size := ⟨_, rfl⟩
                            have c2 := H5.out.o.cell 1 _ rfl
                            clear hP4 K1 HPO c1
                            go_upto_region 28 with ((with_reducible refine wpList_store_run (w' := w4.alloc (.cells (row B) 31)) ?_ 31 (.tmp 14) (.tmp 134) ?_ ⟨w4.heap.size, 0, none⟩ (.agg (row B)) ?_ ?_ ?_ ?_); rfl; rfl; rfl; rfl; exact HST.out)
                            rw [← hb1] at HNB ⊢
                            generalize w4.alloc (.cells (row B) 31) = w5 at *
                            clear HST H4 hb1
                            go_wp2_with fail
                            refine (K2.out _ H5.out).mono ?_
                            rintro e w6 ⟨rfl, hb6⟩
                            have HST := Lib.hid (store_new w6 B HBL.out)
                            have H7 := Lib.hid ((H5.out.bel hb6).bel ((Below.refl _ _).alloc (Nat.le_refl _) (.cells (row B) 31)))
                            have HL1 := Lib.hid (load_one ((HNB.out.below hb6 HNB.out.lt).alloc (.cells (row B) 31)) HBL.out)
                            have HL2 := Lib.hid (load_one (blk_new w6 (row B) 31) HBL.out)
                            have heqB := eq_row B B HBL.out HBL.out
                            rw [show (B == B) = true from by simp] at heqB
                            clear hb6 H5 K2 c2
                            go_wp2_with (first
                              | ((with_reducible refine wpList_store_run (w' := w6.alloc (.cells (row B) 31)) ?_ 31 (.tmp 16) (.tmp 141) ?_ ⟨w6.heap.size, 0, none⟩ (.agg (row B)) ?_ ?_ ?_ ?_); rfl; rfl; rfl; rfl; exact HST.out)
                              | ((with_reducible refine wpList_load_run ?_ 31 (.tmp 14) ?_ ⟨b1, 0, none⟩ (.agg (row B)) ?_ ?_ ?_); rfl; rfl; rfl; exact HL1.out)
                              | ((with_reducible refine wpList_load_run ?_ 31 (.tmp 16) ?_ ⟨w6.heap.size, 0, none⟩ (.agg (row B)) ?_ ?_ ?_); rfl; rfl; rfl; exact HL2.out))
                            refine (H7.out.numr s).mono ?_
                            rintro e w8 ⟨rfl, hP8⟩
                            have HN8 : Hid (PlN w w8 g h n k A (.bool true)) := Lib.hid ⟨rfl, _, hP8.pl.next, HOK.out.more⟩
                            clear hP8 H7 HL1 HL2 heqB HST HNB
                            go_wp2_with fail
                            go_meet
                            exact HN8.out
                        have dx2 : (x0 == 2) = false := by simpa using hx2
                        by_cases hx3 : x0 = 3
                        · subst hx3
                          as_aux_lemma =>
                            have c2 := HPO.out.o.cell 2 _ rfl
                            have K1 := Lib.hid (HPO.out.farm (i := x2))
                            have K2 := Lib.hid (fun V (p : Po w V (g + 1) g (h + 1) h n k (s.arm x2) s A q 3 x1 x2 x3) => p.marm (i := x2))
                            go_wp2_with fail
                            refine K1.out.mono ?_
                            rintro e w4 ⟨rfl, hP4⟩
                            have H4 := Lib.hid hP4
                            have c3 := hP4.o.cell 2 _ rfl
                            clear hP4 K1 HPO c2
                            go_wp2_with fail
                            refine (K2.out _ H4.out).mono ?_
                            rintro e w5 ⟨rfl, hP5⟩
                            have HN8 : Hid (PlN w w5 g h n k A (.bool true)) := Lib.hid ⟨rfl, _, hP5.pl.next, HOK.out.arm HX2.out⟩
                            clear hP5 H4 c3 K2
                            go_wp2_with fail
                            go_meet
                            exact HN8.out
                        have dx3 : (x0 == 3) = false := by simpa using hx3
                        by_cases hx4 : x0 = 4
                        · subst hx4
                          as_aux_lemma =>
                            have K1 := Lib.hid HPO.out.fon
                            have K2 := Lib.hid (fun V (p : Po w V (g + 1) g (h + 1) h n k s.on s A q 4 x1 x2 x3) => p.mon)
                            go_wp2_with fail
                            refine K1.out.mono ?_
                            rintro e w4 ⟨rfl, hP4⟩
                            have H4 := Lib.hid hP4
                            clear hP4 K1 HPO
                            go_wp2_with fail
                            refine (K2.out _ H4.out).mono ?_
                            rintro e w5 ⟨rfl, hP5⟩
                            have HN8 : Hid (PlN w w5 g h n k A (.bool true)) := Lib.hid ⟨rfl, _, hP5.pl.next, HOK.out.on⟩
                            clear hP5 H4 K2
                            go_wp2_with fail
                            go_meet
                            exact HN8.out
                        have dx4 : (x0 == 4) = false := by simpa using hx4
                        have HN8 : Hid (PlN w W g h n k A (.bool true)) := Lib.hid ⟨rfl, _, HPO.out.pl.next, HOK.out.more⟩
                        clear HPO
                        go_wp2_with fail
                        go_meet
                        exact HN8.out
                    case rest =>
                      as_aux_lemma =>
                        clear HPO HOK
                        obtain ⟨rfl, s', hpl, hok⟩ := hcut
                        have HPL := Lib.hid hpl
                        have HOK := Lib.hid hok
                        have m1 := hpl.m.d.cell 1 _ rfl
                        have m3 := hpl.m.d.cell 3 _ rfl
                        have K14 := Lib.hid (fun nq => quiet_eq (n := nq) (off_any (hpl.f.d.drewN nq)))
                        have K13 := Lib.hid (fun nq => quiet_eq (n := nq) (writes_any (hpl.f.d.drewN nq)))
                        clear hpl hok
                        go_upto_region 36 with fail
                        go_quiet ((first
                          | (go_at_call 14; exact K14.out _)
                          | (go_at_call 13; exact K13.out _)))
                        clear m1 m3 K13 K14
                        go_wp2
                        go_roundw
                        case rel => exact ⟨k + 1, s', by omega, by omega, by go_num, HPL.out.drewN _, HOK.out⟩
                        case measure => simp [intOf]; omega
                · have HE : Hid (PlE w wr g h n A) := Lib.hid ⟨k, s, hk2, HPL.out, HOK.out⟩
                  go_wp2_with fail
                  go_meet
                  exact HE.out
          case rest =>
            as_aux_lemma =>
              obtain ⟨k, s, hk, hpl, hok⟩ := hcut
              have HPL := Lib.hid hpl
              have HLL := Lib.hid hok.len
              clear hpl hok
              have e1 := q64 n
              have e2 := q64' n
              have e3 : IntKind.i64.wrap (n : Int) = (n : Int) := IntWalk.i64_in _ (by omega)
              go_upto_region 39 with fail
              refine wp_region_held_drew (S := fun V => Pl w V (g + 1) g (h + 1) h n k s s A) (by kernel_rfl) HPL.out.drew (fun hHeld => ?_)
              refine wpAnyH_take (i := 0) (v := ?_) rfl (by kernel_rfl) (by kernel_rfl) (by kernel_rfl) (fun _ _ _ h => h) (Or.inl ⟨by rfl, ?_⟩) (by assumption) ?_
              rotate_left 1
              · intro w hSw; (try dsimp only at hSw); go_simp; (try with_reducible rfl)
              try simp only [Act.put, List.setIfInBounds_toArray, List.set_cons_zero, List.set_cons_succ, List.getElem_toArray, List.getElem_cons_zero, List.getElem_cons_succ]
              refine wpAnyH_take (i := 3) (v := ?_) rfl (by kernel_rfl) (by kernel_rfl) (by kernel_rfl) (fun _ _ _ h => h) (Or.inl ⟨by rfl, ?_⟩) (by assumption) ?_
              rotate_left 1
              · intro w hSw; (try dsimp only at hSw); go_simp; (try with_reducible rfl)
              try simp only [Act.put, List.setIfInBounds_toArray, List.set_cons_zero, List.set_cons_succ, List.getElem_toArray, List.getElem_cons_zero, List.getElem_cons_succ]
              refine wpAnyH_take (i := 4) (v := ?_) rfl (by kernel_rfl) (by kernel_rfl) (by kernel_rfl) (fun _ _ _ h => h) (Or.inl ⟨by rfl, ?_⟩) (by assumption) ?_
              rotate_left 1
              · intro w hSw; (try dsimp only at hSw); go_simp; (try with_reducible rfl)
              try simp only [Act.put, List.setIfInBounds_toArray, List.set_cons_zero, List.set_cons_succ, List.getElem_toArray, List.getElem_cons_zero, List.getElem_cons_succ]
              refine wpAnyH_take (i := 5) (v := ?_) rfl (by kernel_rfl) (by kernel_rfl) (by kernel_rfl) (fun _ _ _ h => h) (Or.inl ⟨by rfl, ?_⟩) (by assumption) ?_
              rotate_left 1
              · intro w hSw; (try dsimp only at hSw); go_simp; (try with_reducible rfl)
              try simp only [Act.put, List.setIfInBounds_toArray, List.set_cons_zero, List.set_cons_succ, List.getElem_toArray, List.getElem_cons_zero, List.getElem_cons_succ]
              refine wpAnyH_take (i := 6) (v := ?_) rfl (by kernel_rfl) (by kernel_rfl) (by kernel_rfl) (fun _ _ _ h => h) (Or.inl ⟨by rfl, ?_⟩) (by assumption) ?_
              rotate_left 1
              · intro V hSw; have hc := (show Pl w V (g + 1) g (h + 1) h n k s s A from hSw).m.d.cell 0 _ rfl; clear hSw; go_simp; (try with_reducible rfl)
              try simp only [Act.put, List.setIfInBounds_toArray, List.set_cons_zero, List.set_cons_succ, List.getElem_toArray, List.getElem_cons_zero, List.getElem_cons_succ]
              refine wpAnyH_take (i := 7) (v := ?_) rfl (by kernel_rfl) (by kernel_rfl) (by kernel_rfl) (fun _ _ _ h => h) (Or.inl ⟨by rfl, ?_⟩) (by assumption) ?_
              rotate_left 1
              · intro V hSw; have hc := conv_m (show Pl w V (g + 1) g (h + 1) h n k s s A from hSw).m; clear hSw; go_simp; (try with_reducible rfl)
              try simp only [Act.put, List.setIfInBounds_toArray, List.set_cons_zero, List.set_cons_succ, List.getElem_toArray, List.getElem_cons_zero, List.getElem_cons_succ]
              refine wpAnyH_ready (rs := [1]) (by kernel_rfl) (by simp) ?_
              refine AllReadyH.cons rfl (fun K hK => ?_) AllReadyH.nil
              go_simp
              refine (image_any HPL.out.drew.f hn1 (by omega)).mono ?_
              rintro e w5 ⟨v5, rfl, hr5, hb5⟩
              have hP5 := HPL.out.drew.bel hb5
              refine hK.out _ _ hP5 (fun hHeld1 => ?_)
              clear hK K
              try simp only [Act.put, List.setIfInBounds_toArray, List.set_cons_zero, List.set_cons_succ, List.getElem_toArray, List.getElem_cons_zero, List.getElem_cons_succ]
              refine wpAnyH_ready (rs := [2]) (by kernel_rfl) (by simp) ?_
              refine AllReadyH.cons rfl (fun K hK => ?_) AllReadyH.nil
              have hc9 := conv_str hr5
              go_simp
              refine hK.out _ _ hP5 (fun hHeld2 => ?_)
              clear hK K
              try simp only [Act.put, List.setIfInBounds_toArray, List.set_cons_zero, List.set_cons_succ, List.getElem_toArray, List.getElem_cons_zero, List.getElem_cons_succ]
              refine wpAnyH_take (i := 8) (v := ?_) rfl (by kernel_rfl) (by kernel_rfl) (by kernel_rfl) (fun _ _ _ h => h) (Or.inl ⟨by rfl, ?_⟩) (by assumption) ?_
              rotate_left 1
              · intro w hSw; (try dsimp only at hSw); go_simp; (try with_reducible rfl)
              try simp only [Act.put, List.setIfInBounds_toArray, List.set_cons_zero, List.set_cons_succ, List.getElem_toArray, List.getElem_cons_zero, List.getElem_cons_succ]
              refine wpAnyH_take (i := 9) (v := ?_) rfl (by kernel_rfl) (by kernel_rfl) (by kernel_rfl) (fun _ _ _ h => h) (Or.inl ⟨by rfl, ?_⟩) (by assumption) ?_
              rotate_left 1
              · intro w hSw; (try dsimp only at hSw); go_simp; (try with_reducible rfl)
              try simp only [Act.put, List.setIfInBounds_toArray, List.set_cons_zero, List.set_cons_succ, List.getElem_toArray, List.getElem_cons_zero, List.getElem_cons_succ]
              refine wpAnyH_take (i := 10) (v := ?_) rfl (by kernel_rfl) (by kernel_rfl) (by kernel_rfl) (fun _ _ _ h => h) (Or.inl ⟨by rfl, ?_⟩) (by assumption) ?_
              rotate_left 1
              · intro w hSw; (try dsimp only at hSw); go_simp; (try with_reducible rfl)
              try simp only [Act.put, List.setIfInBounds_toArray, List.set_cons_zero, List.set_cons_succ, List.getElem_toArray, List.getElem_cons_zero, List.getElem_cons_succ]
              refine wpAnyH_take (i := 12) (v := ?_) rfl (by kernel_rfl) (by kernel_rfl) (by kernel_rfl) (fun _ _ _ h => h) (Or.inl ⟨by rfl, ?_⟩) (by assumption) ?_
              rotate_left 1
              · intro w hSw; (try dsimp only at hSw); go_simp; (try with_reducible rfl)
              try simp only [Act.put, List.setIfInBounds_toArray, List.set_cons_zero, List.set_cons_succ, List.getElem_toArray, List.getElem_cons_zero, List.getElem_cons_succ]
              refine wpAnyH_take (i := 13) (v := ?_) rfl (by kernel_rfl) (by kernel_rfl) (by kernel_rfl) (fun _ _ _ h => h) (Or.inl ⟨by rfl, ?_⟩) (by assumption) ?_
              rotate_left 1
              · intro w hSw; (try dsimp only at hSw); go_simp; (try with_reducible rfl)
              try simp only [Act.put, List.setIfInBounds_toArray, List.set_cons_zero, List.set_cons_succ, List.getElem_toArray, List.getElem_cons_zero, List.getElem_cons_succ]
              refine wpAnyH_take (i := 14) (v := ?_) rfl (by kernel_rfl) (by kernel_rfl) (by kernel_rfl) (fun _ _ _ h => h) (Or.inl ⟨by rfl, ?_⟩) (by assumption) ?_
              rotate_left 1
              · intro w hSw; (try dsimp only at hSw); go_simp; (try with_reducible rfl)
              try simp only [Act.put, List.setIfInBounds_toArray, List.set_cons_zero, List.set_cons_succ, List.getElem_toArray, List.getElem_cons_zero, List.getElem_cons_succ]
              refine wpAnyH_take (i := 15) (v := ?_) rfl (by kernel_rfl) (by kernel_rfl) (by kernel_rfl) (fun _ _ _ h => h) (Or.inl ⟨by rfl, ?_⟩) (by assumption) ?_
              rotate_left 1
              · intro V hSw; have hc := (show Pl w V (g + 1) g (h + 1) h n k s s A from hSw).m.d.cell 0 _ rfl; clear hSw; go_simp; (try with_reducible rfl)
              try simp only [Act.put, List.setIfInBounds_toArray, List.set_cons_zero, List.set_cons_succ, List.getElem_toArray, List.getElem_cons_zero, List.getElem_cons_succ]
              refine wpAnyH_take (i := 16) (v := ?_) rfl (by kernel_rfl) (by kernel_rfl) (by kernel_rfl) (fun _ _ _ h => h) (Or.inl ⟨by rfl, ?_⟩) (by assumption) ?_
              rotate_left 1
              · intro w hSw; (try dsimp only at hSw); go_simp; (try with_reducible rfl)
              try simp only [Act.put, List.setIfInBounds_toArray, List.set_cons_zero, List.set_cons_succ, List.getElem_toArray, List.getElem_cons_zero, List.getElem_cons_succ]
              refine wpAnyH_take (i := 17) (v := ?_) rfl (by kernel_rfl) (by kernel_rfl) (by kernel_rfl) (fun _ _ _ h => h) (Or.inl ⟨by rfl, ?_⟩) (by assumption) ?_
              rotate_left 1
              · intro w hSw; (try dsimp only at hSw); go_simp; (try with_reducible rfl)
              try simp only [Act.put, List.setIfInBounds_toArray, List.set_cons_zero, List.set_cons_succ, List.getElem_toArray, List.getElem_cons_zero, List.getElem_cons_succ]
              refine wpAnyH_ready (rs := [11]) (by kernel_rfl) (by simp) ?_
              refine AllReadyH.cons rfl (fun K hK => ?_) AllReadyH.nil
              go_simp
              refine (blocks_any hP5.f.d).mono ?_
              rintro e w6 ⟨rfl, rfl⟩
              refine hK.out _ _ hP5 (fun hHeld11 => ?_)
              clear hK K
              try simp only [Act.put, List.setIfInBounds_toArray, List.set_cons_zero, List.set_cons_succ, List.getElem_toArray, List.getElem_cons_zero, List.getElem_cons_succ]
              refine wpAnyH_take (i := 18) (v := ?_) rfl (by kernel_rfl) (by kernel_rfl) (by kernel_rfl) (fun _ _ _ h => h) (Or.inl ⟨by rfl, ?_⟩) (by assumption) ?_
              rotate_left 1
              · intro w hSw; (try dsimp only at hSw); go_simp; (try with_reducible rfl)
              try simp only [Act.put, List.setIfInBounds_toArray, List.set_cons_zero, List.set_cons_succ, List.getElem_toArray, List.getElem_cons_zero, List.getElem_cons_succ]
              refine wpAnyH_take (i := 19) (v := ?_) rfl (by kernel_rfl) (by kernel_rfl) (by kernel_rfl) (fun _ _ _ h => h) (Or.inl ⟨by rfl, ?_⟩) (by assumption) ?_
              rotate_left 1
              · intro w hSw; (try dsimp only at hSw); go_simp; (try with_reducible rfl)
              try simp only [Act.put, List.setIfInBounds_toArray, List.set_cons_zero, List.set_cons_succ, List.getElem_toArray, List.getElem_cons_zero, List.getElem_cons_succ]
              refine wpAnyH_take (i := 20) (v := ?_) rfl (by kernel_rfl) (by kernel_rfl) (by kernel_rfl) (fun _ _ _ h => h) (Or.inl ⟨by rfl, ?_⟩) (by assumption) ?_
              rotate_left 1
              · intro w hSw; (try dsimp only at hSw); go_simp; (try with_reducible rfl)
              try simp only [Act.put, List.setIfInBounds_toArray, List.set_cons_zero, List.set_cons_succ, List.getElem_toArray, List.getElem_cons_zero, List.getElem_cons_succ]
              refine wpAnyH_done (by kernel_rfl) ?_ _
              have HF := Lib.hid hP5.below
              clear hP5 hr5 hb5 hHeld hHeld1 hHeld2 hHeld11 hc9 e1 e2 e3
              go_wp2
              go_ret
              exact ⟨rfl, HF.out⟩
end Go.Proofs.YtjjaghiihkdclaaDoor
