/- ShareFair: the walk. -/
import Derived.Test.YtpnobanhffjmaaaFL
set_option linter.unusedVariables false
set_option linter.unusedSimpArgs false
namespace Go.Proofs.Ytpnobanhffjmaaa
open Go.RowKit Jw Go.Deep
attribute [local go_sem] run_store_float max2_mx min2_mn max_mx min_mn

set_option maxRecDepth 100000 in
set_option maxHeartbeats 2000000 in
theorem fair_walk (w : World) (ao : Option Addr) (l : List Int) (cap : Nat) (hp : Rd w (.slice ao l.length cap) l) (hlen : l.length ≤ 9223372036854775807) (n : Int) :
    Calls Try.prog 9 #[.slice ao l.length cap, n64 n] w fun e w' => e = .returned (.bool true) ∧ Below w.heap.size w w' := by
  have HR := Lib.hid hp
  clear hp
  obtain ⟨i0, hi, hz0, hz1, hz2⟩ := info_parts info27
  go_enter Try.func9, Try.ntmps9
  go_wp2_with fail
  refine (alive_yes w).mono ?_
  rintro e w1 ⟨rfl, hB⟩
  by_cases hlow : l.length < 1
  · have hlb : decide ((l.length : Int) < 1) = true := by simp; omega
    go_wp2
    go_ret
    exact ⟨rfl, hB⟩
  have hla : decide ((l.length : Int) < 1) = false := by simp; omega
  by_cases hlong : 8 < l.length
  · have hlb : decide ((8 : Int) < (l.length : Int)) = true := by simp; omega
    go_wp2
    go_ret
    exact ⟨rfl, hB⟩
  have hlb : decide ((8 : Int) < (l.length : Int)) = false := by simp; omega
  have hl1 : 1 ≤ l.length := by omega
  have hl8 : l.length ≤ 8 := by omega
  have hO := own_empty w1 w.heap.size hB.size
  have hB1 := hB.alloc hB.size (.cells #[] 27)
  have HO := Lib.hid hO
  clear hO hlow hlong
  go_wp2_with fail
  go_loopw [5, 6, 28] (fun s t i wr => ∃ (k : Nat), k ≤ l.length ∧ i = n64 k ∧ t = n64 (fT l k) ∧ wr.ownsRow w.heap.size 27 2 s k (shs (faL l k)) ∧ Below w.heap.size w wr) (fun _ _ i _ => l.length - (intOf i).toNat)
  case atStart => exact ⟨0, Nat.zero_le _, rfl, rfl, HO.out, hB1⟩
  case round =>
    clear hB1 HO
    obtain ⟨k, hk, rfl, rfl, hO, hB1⟩ := hrel
    by_cases hlt : k < l.length
    · obtain ⟨ao', cap', e1, hrd⟩ := HR.out
      obtain ⟨b', off, e2, hb', hc⟩ := hrd (by omega)
      obtain ⟨rfl, rfl⟩ : ao = ao' ∧ cap = cap' := by injection e1 with e1 e3 e4; exact ⟨e1, e4⟩
      clear e1 hrd
      subst e2
      have hck := (hB1.cell (p := ⟨b', off + k, none⟩) hb').trans (hc k hlt)
      have hs1 := faL_succ l k hlt
      have hs2 := fT_succ l k hlt
      have hTr := fT_range l k
      obtain ⟨x, ex⟩ : ∃ x, x = l.getD k 0 := ⟨_, rfl⟩
      rw [← ex] at hck hs1 hs2
      have hfr := fv_range x
      obtain ⟨V, eV⟩ : ∃ V, V = fv x := ⟨_, rfl⟩
      have hV : wrap64 (1 + (wrap64 (x.tmod 1000 + 1000)).tmod 1000) = V := eV.symm
      obtain ⟨S, eS⟩ : ∃ S, S = fT l k := ⟨_, rfl⟩
      rw [← eV] at hs1 hs2 hfr
      rw [← eS] at hs2 hTr ⊢
      have hTk : S ≤ 8000 := by have : (k : Int) * 1000 ≤ 8 * 1000 := by omega
                                omega
      have HS1 := Lib.hid hs1
      have HS2 := Lib.hid hs2
      have HP := Lib.hid hO
      obtain ⟨hS0, _⟩ := hTr
      obtain ⟨hV1, hV2⟩ := hfr
      clear hc ex eV eS hs1 hs2 hO
      go_wp2_with (at_builtin; refine wpList_append_own _ rfl (.tmp 40) (.tmp 44) 24 rfl w.heap.size 27 i0 _ 2 16 Try.underlying24 hi hz0 hz1 hz2 rfl (by decide) _ _ _ rfl (HP.out.alloc _) ⟨wr.heap.size, 0, none⟩ 1 1 [fl (floatOfInt .f64 V), fl 0] rfl rfl ?c1 ?c2 ?c3 ?c4 ?c5 ?_)
      case c1 =>
        intro j u hj
        match j, hj with
        | 0, hj => simp at hj; subst hj; simp [Addr.add]
        | 1, hj => simp at hj; subst hj; simp [Addr.add]
      case c2 => intro u hu; simp at hu; rcases hu with rfl | rfl <;> rfl
      case c3 => unfold maxLen; omega
      case c4 => omega
      case c5 => have := hB1.size; simp; omega
      · intro v' w3 hown' hgrow _
        have hB4 := (hB1.alloc hB1.size (.cells #[fl (floatOfInt .f64 V), fl 0] 27)).grown hgrow (by have := hB1.size; simp; omega) (by
          intro g hg
          exact (own_lt HP.out hg).1)
        have HW := Lib.hid hown'
        clear hown' hgrow
        go_wp2
        go_roundw
        case rel => exact ⟨k + 1, by omega, by go_num, by rw [HS2.out], by rw [HS1.out, shs_append]; exact HW.out, hB4⟩
        case measure => simp [intOf]; omega
    · obtain rfl : k = l.length := by omega
      have hTr := fT_range l l.length
      have hT1 : 1 ≤ fT l l.length := by
        have h1 := fI_le l 0
        rw [fI_at l 0 (by omega)] at h1
        have := fv_range (l.getD 0 0)
        omega
      have hlaw := fun m => fair_law l m hl1 hl8
      have hll := faL_length l l.length (Nat.le_refl _)
      have hRd := (OwnS.of_row (l := faL l l.length) (by rw [hll]; exact hO)).read
      obtain ⟨aoA, capA, rfl⟩ := row_shape hO
      obtain ⟨L, eL⟩ : ∃ L, L = faL l l.length := ⟨_, rfl⟩
      obtain ⟨T, eT⟩ : ∃ T, T = fT l l.length := ⟨_, rfl⟩
      rw [← eL] at hlaw hll hRd
      rw [← eT] at hlaw hTr hT1 ⊢
      have HLaw := Lib.hid hlaw
      have HLL := Lib.hid hll
      have HRD := Lib.hid hRd
      have hT2 : T ≤ 8000 := by omega
      obtain ⟨hT0, _⟩ := hTr
      have ET := Lib.hid eT
      have EL := Lib.hid eL
      obtain ⟨N, eN⟩ : ∃ N, N = (wrap64 (wrap64 (n.tmod (T + 1) + T) + 1)).tmod (T + 1) := ⟨_, rfl⟩
      have hN : 0 ≤ N ∧ N ≤ T := by
        have h1 := Int.tmod_lt_of_pos n (show 0 < T + 1 by omega)
        have h3 := Int.lt_tmod_of_pos n (show 0 < T + 1 by omega)
        rw [eN, IntWalk.wrap64_in (n.tmod (T + 1) + T) ⟨by omega, by omega⟩, IntWalk.wrap64_in (n.tmod (T + 1) + T + 1) ⟨by omega, by omega⟩, Int.tmod_eq_emod_of_nonneg (by omega)]
        have k1 := Int.emod_nonneg (n.tmod (T + 1) + T + 1) (show T + 1 ≠ 0 by omega)
        have k2 := Int.emod_lt_of_pos (n.tmod (T + 1) + T + 1) (show 0 < T + 1 by omega)
        omega
      have EN := Lib.hid eN
      obtain ⟨hN0, hNT⟩ := hN
      clear hO hlaw hll hRd eT eL eN
      go_wp2_with fail
      rw [← EN.out]
      have hLn : L.length ≤ 800 := by rw [HLL.out]; omega
      refine (whole_any _ L N _ HRD.out hLn (by omega)).mono ?_
      rintro e w2 ⟨bc, rfl, hbc, hC, hB2⟩
      have hB3 := hB1.trans (hB2.mono hB1.size)
      have hlt2 := hC.lt
      rw [HLL.out] at hC ⊢
      have HC := Lib.hid hC
      have HRD2 := Lib.hid (HRD.out.below hB2 (Nat.le_refl _))
      clear hC hB2 HRD hB1
      go_wp2_with fail
      refine (whole_any _ L T _ HRD2.out hLn (by omega)).mono ?_
      rintro e w3 ⟨ba, rfl, hba, hA, hB4⟩
      have hB5 := hB3.trans (hB4.mono hB3.size)
      have hlt3 := hA.lt
      have hsz3 := hB4.size
      rw [HLL.out] at hA ⊢
      have HA := Lib.hid hA
      have HC3 := Lib.hid (HC.out.below hB4 hlt2)
      have HRD3 := Lib.hid (HRD2.out.below hB4 (Nat.le_refl _))
      clear hA hB4 HRD2 HC hB3
      go_wp2_with fail
      refine (total_any _ L _ HRD3.out (by omega)).mono ?_
      rintro e w4 ⟨rfl, hB6⟩
      have hB7 := hB5.trans (hB6.mono hB5.size)
      have hsz4 := hB6.size
      obtain ⟨m, rfl⟩ := Int.eq_ofNat_of_zero_le hN0
      obtain ⟨q, hq⟩ := Int.eq_ofNat_of_zero_le (show 0 ≤ T by omega)
      obtain ⟨ht, hne, hF⟩ := HLaw.out m hNT
      obtain ⟨_, _, hG⟩ := HLaw.out q (by omega)
      have hPm : PW L (m : Int) = m := by unfold PW; rw [if_neg hne]; rfl
      have hPq : PW L T = q := by unfold PW; rw [if_neg hne, hq]; rfl
      have hA4 := HA.out.below hB6 hlt3
      have hC4 := HC3.out.below hB6 (by omega)
      rw [hPm] at hC4
      rw [hPq] at hA4
      obtain ⟨cl, ecl⟩ : ∃ cl, cl = cts l.length (picksW L m).1 := ⟨_, rfl⟩
      obtain ⟨al, eal⟩ : ∃ al, al = cts l.length (picksW L q).1 := ⟨_, rfl⟩
      rw [← ecl] at hF hC4
      rw [← eal] at hG hA4
      have hcl : cl.length = l.length := by rw [ecl, cts_length]
      have hal : al.length = l.length := by rw [eal, cts_length]
      have hRd4 := HRD3.out.below hB6 (Nat.le_refl _)
      have hwh := hG.whole (by rw [← hq, ET.out])
      obtain ⟨W, eW⟩ : ∃ W, W = totW L := ⟨_, rfl⟩
      rw [← eW] at ht ⊢
      have HF := Lib.hid hF
      have HWH := Lib.hid hwh
      have HCL := Lib.hid hcl
      have HAL := Lib.hid hal
      have HC4 := Lib.hid hC4
      have HA4 := Lib.hid hA4
      have HR4 := Lib.hid hRd4
      have HQ := Lib.hid hq
      clear hF hG hcl hal hC4 hA4 hRd4 hwh hne hPm hPq ecl eal eW hq HA HC3 HRD3 HLaw hB6 hB5
      have htn : (ord W (floatOfInt .f64 T) != some .eq) = false := by simp only [bne, ht]; rfl
      clear ht
      go_wp2_with fail
      have HB7 := Lib.hid hB7
      have hsm0 : 0 ≤ Jf.sm 0 (fun i => cl.getD i 0) := Int.le_refl _
      go_loopw [11, 84] (fun s i wr => ∃ (k : Nat), k ≤ l.length ∧ i = n64 k ∧ s = n64 (Jf.sm k (fun i => cl.getD i 0)) ∧ 0 ≤ Jf.sm k (fun i => cl.getD i 0) ∧ Jf.sm k (fun i => cl.getD i 0) ≤ k * 8000 ∧ Below w4.heap.size w4 wr) (fun _ i _ => l.length - (intOf i).toNat)
      case atStart => exact ⟨0, Nat.zero_le _, rfl, rfl, Int.le_refl _, Int.le_refl _, Below.refl _ _⟩
      case round =>
        clear hsm0 hB7
        obtain ⟨k, hk, rfl, rfl, hs0, hs1, hB⟩ := hrel
        by_cases hlt : k < l.length
        · obtain ⟨aoB, capB, e1, _, hrd⟩ := HR4.out
          obtain ⟨b5, off5, e2, hb5, hc⟩ := hrd (by rw [HLL.out]; omega)
          injection e1 with e3 e4 e5
          subst e3 e5
          subst e2
          have hat := faL_at l k hlt
          rw [← EL.out] at hat
          have c1 := (hB.cell (p := ⟨b5, off5 + k * 2, none⟩) hb5).trans (hc k (by rw [HLL.out]; omega)).1
          have c2 := (hB.cell (p := ⟨b5, off5 + k * 2 + 1, none⟩) hb5).trans (hc k (by rw [HLL.out]; omega)).2
          rw [hat] at c1 c2
          have hfr := fv_range (l.getD k 0)
          have hh := HF.out.high k hlt
          have hlo := HF.out.low k hlt
          have hrg := HF.out.range k hlt
          have hwk := HWH.out k hlt
          have hbcl : bc < w4.heap.size := by omega
          have hbal : ba < w4.heap.size := by omega
          have c3 := (hB.cell (p := ⟨bc, k, none⟩) hbcl).trans (HC4.out.cell k _ (ints_at _ k (by rw [HCL.out]; exact hlt)))
          have c4 := (hB.cell (p := ⟨ba, k, none⟩) hbal).trans (HA4.out.cell k _ (ints_at _ k (by rw [HAL.out]; exact hlt)))
          rw [hwk] at c4
          rw [← ET.out] at hh hlo
          obtain ⟨V, eV⟩ : ∃ V, V = fv (l.getD k 0) := ⟨_, rfl⟩
          obtain ⟨C, eC⟩ : ∃ C, C = cl.getD k 0 := ⟨_, rfl⟩
          rw [← eV] at c1 c4 hfr hh hlo
          rw [← eC] at c3 hh hlo hrg
          have hsn : Jf.sm (k + 1) (fun i => cl.getD i 0) = Jf.sm k (fun i => cl.getD i 0) + C := by rw [eC]; rfl
          obtain ⟨S, eS⟩ : ∃ S, S = Jf.sm k (fun i => cl.getD i 0) := ⟨_, rfl⟩
          rw [← eS] at hsn hs0 hs1 ⊢
          have HSN := Lib.hid hsn
          obtain ⟨vn, rfl⟩ := Int.eq_ofNat_of_zero_le (show 0 ≤ V by omega)
          have hconv := fun wx => run_convert_float_int (P := Try.prog) (w := wx) 25 3 .f64 .i64 (floatOfInt .f64 (vn : Int)) vn (by kernel_rfl) Try.underlying3 (back_int vn (by omega))
          have hft := fair_tests hfr.1 hfr.2 hN0 hNT hT1 hT2 hrg.1 hrg.2 hh hlo
          obtain ⟨f, ef⟩ : ∃ f, f = floatOfInt .f64 (vn : Int) := ⟨_, rfl⟩
          rw [← ef] at hconv c1
          have hB9 := hB.alloc hB.size (.cells #[fl f, fl 0] 27)
          have hbw : bc < wr.heap.size := Nat.lt_of_lt_of_le hbcl hB.size
          have haw : ba < wr.heap.size := Nat.lt_of_lt_of_le hbal hB.size
          have hbn : bc ≠ wr.heap.size := by omega
          have han : ba ≠ wr.heap.size := by omega
          clear hat hwk hrd hc eV eC eS hsn ef e4
          go_upto_region 23 with fail
          obtain ⟨W5, eW5⟩ : ∃ W5, W5 = wr.alloc (.cells #[fl f, fl 0] 27) := ⟨_, rfl⟩
          have d3 : W5.cell? ⟨bc, k, none⟩ = some (n64 C) := by
            rw [eW5]; exact (((Below.refl wr.heap.size wr).alloc (Nat.le_refl _) _).cell (p := ⟨bc, k, none⟩) hbw).trans c3
          have d4 : W5.cell? ⟨ba, k, none⟩ = some (n64 (vn : Int)) := by
            rw [eW5]; exact (((Below.refl wr.heap.size wr).alloc (Nat.le_refl _) _).cell (p := ⟨ba, k, none⟩) haw).trans c4
          rw [← eW5] at hB9
          generalize wr.alloc (.cells #[fl f, fl 0] 27) = W6 at *
          subst eW5
          clear c1 c2 c3 c4
          have hS8 : S + C ≤ 1000000000 := by omega
          go_wp2_with fail
          obtain ⟨⟨p1, p2⟩, ⟨p3, p4⟩, ⟨p5, p6⟩, p7, p8⟩ := hft
          obtain ⟨P, eP⟩ : ∃ P, P = (vn : Int) * (m : Int) := ⟨_, rfl⟩
          rw [← eP] at p1 p2 p3 p4 p5 p6 p7 p8
          obtain ⟨Q1, eQ1⟩ : ∃ Q1, Q1 = (P + T - 1).tdiv T := ⟨_, rfl⟩
          obtain ⟨Q2, eQ2⟩ : ∃ Q2, Q2 = P.tdiv T := ⟨_, rfl⟩
          rw [← eQ1] at p3 p4 p7
          rw [← eQ2] at p5 p6 p8
          have f1 : IntKind.i64.wrap ((vn : Int) * (m : Int)) = P := by rw [eP]; exact IntWalk.i64_in _ (by rw [← eP]; omega)
          have f2 : IntKind.i64.wrap (P + T) = P + T := IntWalk.i64_in _ (by omega)
          have f3 : IntKind.i64.wrap (P + T - 1) = P + T - 1 := IntWalk.i64_in _ (by omega)
          have f4 : (P + T - 1).tdiv T = Q1 := eQ1.symm
          have f5 : IntKind.i64.wrap (Q1 + 1) = Q1 + 1 := IntWalk.i64_in _ (by omega)
          have f6 : decide (Q1 + 1 < C) = false := by simp; omega
          have f7 : P.tdiv T = Q2 := eQ2.symm
          have f8 : IntKind.i64.wrap (Q2 - 3) = Q2 - 3 := IntWalk.i64_in _ (by omega)
          have f9 : decide (C < Q2 - 3) = false := by simp; omega
          have f10 : IntKind.i64.wrap Q1 = Q1 := IntWalk.i64_in _ (by omega)
          have f11 : IntKind.i64.wrap Q2 = Q2 := IntWalk.i64_in _ (by omega)
          have hTne : T ≠ 0 := by omega
          have hTnb : (T == 0) = false := by simpa using hTne
          clear p1 p2 p3 p4 p5 p6 p7 p8 eP eQ1 eQ2 hh hlo
          go_quiet (fail)
          clear f1 f2 f3 f4 f5 f6 f7 f8 f9 f10 f11 hTnb
          go_wp2
          go_roundw
          case rel =>
            refine ⟨k + 1, by omega, by go_num, by rw [HSN.out], by rw [HSN.out]; omega, by rw [HSN.out]; omega, hB9.trans ⟨rfl, rfl, rfl, Nat.le_refl _, fun _ _ => rfl⟩⟩
          case measure => simp [intOf]; omega
        · obtain rfl : k = l.length := by omega
          have hsum := HF.out.sum
          rw [hsum]
          clear hs0 hs1 hsum
          have hBf := HB7.out.trans (hB.mono (by have := HB7.out.size; exact this))
          go_wp2
          go_ret
          exact ⟨rfl, hBf⟩
end Go.Proofs.Ytpnobanhffjmaaa
