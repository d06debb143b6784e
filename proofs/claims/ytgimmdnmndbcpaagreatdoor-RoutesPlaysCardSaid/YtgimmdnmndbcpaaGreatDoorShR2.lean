/- The reference's pick and its sameness. -/
import Derived.Test.YtgimmdnmndbcpaaGreatDoorShR
import Derived.Deep.RegionLaw
import Derived.Deep.AppendLies
set_option linter.unusedVariables false
set_option linter.unusedSimpArgs false
namespace Go.Proofs.YtgimmdnmndbcpaaGreatDoor
open Go.RowKit Jw Go.Deep
attribute [local go_sem] run_store_float max2_mx min2_mn max_mx min_mn

theorem own_empty (w : World) (base : Nat) (h : base ≤ w.heap.size) : (w.alloc (.cells #[] 83)).ownsRow base 83 2 (.slice (some ⟨w.heap.size, 0, none⟩) 0 0) 0 [] :=
  ⟨rfl, .inr ⟨w.heap.size, 0, #[], rfl, h, blk_new w #[] 83, Nat.le_refl _, Nat.zero_le _, rfl, rfl⟩⟩
theorem shs_append2 (l l' : List (Nat × Nat)) : shs (l ++ l') = shs l ++ shs l' := by
  induction l with
  | nil => rfl
  | cons s l ih => simp only [List.cons_append, shs, ih]
theorem newL_snd (l : List (Nat × Nat)) (i : Nat) (h : i < l.length) : ((newL l).getD i (0, 0)).2 = (trnW l).getD i 0 := by
  rw [newL, List.getD_eq_getElem?_getD, List.getElem?_zipWith, List.getElem?_eq_getElem h, List.getElem?_eq_getElem (show i < (trnW l).length by rw [trnW_length]; omega), List.getD_eq_getElem?_getD, List.getElem?_eq_getElem (show i < (trnW l).length by rw [trnW_length]; omega)]
  rfl
theorem row_shape {w : World} {base : Nat} {v : Value} {n : Nat} {xs : List Value} {e : TypeId} {s : Nat} (h : w.ownsRow base e s v n xs) : ∃ ao cap, v = .slice ao n cap := by
  obtain ⟨_, ⟨rfl, rfl⟩ | ⟨g, cap, cur, rfl, _⟩⟩ := h
  · exact ⟨_, _, rfl⟩
  · exact ⟨_, _, rfl⟩
theorem own_lt {w : World} {base : Nat} {e : TypeId} {s n : Nat} {v : Value} {xs : List Value} (h : w.ownsRow base e s v n xs) {g : Nat} (hg : v.ownBlock = some g) : base ≤ g ∧ g < w.heap.size := by
  obtain ⟨_, ⟨rfl, _⟩ | ⟨g', c, cur, rfl, hb, hh, _⟩⟩ := h
  · simp [Value.ownBlock] at hg
  · simp only [Value.ownBlock, Option.some.injEq] at hg
    subst hg
    exact ⟨hb, Blk.lt (cs := cur) (t := e) hh⟩
set_option maxRecDepth 100000 in
set_option maxHeartbeats 2000000 in
theorem refpick_any (v : Value) (l : List (Nat × Nat)) (w : World) (hr : RdS w v l) (hlen8 : l.length ≤ 800) :
    Calls Tryz.prog 55 #[v] w fun e w' => ∃ v', e = .returned (.tuple #[n64 (pickW l).1, v']) ∧ OwnS w' w.heap.size v' (pickW l).2 ∧ Below w.heap.size w w' := by
  obtain ⟨i0, hi, hz0, hz1, hz2⟩ := info_parts info27
  have hR0 := hr
  obtain ⟨ao, cap, rfl, _, hc⟩ := hr
  have HC := Lib.hid hc
  clear hc
  go_enter Tryz.func55, Tryz.ntmps55
  go_wp2_with fail
  refine (reftotal_any _ l w hR0 (by omega)).mono ?_
  rintro e w1 ⟨rfl, hB⟩
  obtain ⟨T, eT⟩ : ∃ T, T = totW l := ⟨_, rfl⟩
  obtain ⟨O, eO⟩ : ∃ O, O = noneW l := ⟨_, rfl⟩
  rw [← eT, ← eO]
  have ET := Lib.hid eT
  have EO := Lib.hid eO
  clear eT eO hR0
  have hO := own_empty w1 w.heap.size hB.size
  have hB1 := hB.alloc hB.size (.cells #[] 83)
  have HO := Lib.hid hO
  clear hO hB
  go_wp2_with fail
  go_loopw [6, 7, 19] (fun o b i wr => ∃ (k : Nat), k ≤ l.length ∧ i = n64 k ∧ b = n64 (bestTo (trnW l) k) ∧ wr.ownsRow w.heap.size 83 2 o k (shs ((newL l).take k)) ∧ Below w.heap.size w wr) (fun _ _ i _ => l.length - (intOf i).toNat)
  case atStart => exact ⟨0, Nat.zero_le _, rfl, rfl, HO.out, hB1⟩
  case round =>
    clear hB1 HO
    obtain ⟨k, hk, rfl, rfl, hO, hB⟩ := hrel
    by_cases hlt : k < l.length
    · obtain ⟨b', off, rfl, hb', hcc⟩ := HC.out (by omega)
      have c1 := (hB.cell (p := ⟨b', off + k * 2, none⟩) hb').trans (hcc k hlt).1
      have c2 := (hB.cell (p := ⟨b', off + k * 2 + 1, none⟩) hb').trans (hcc k hlt).2
      have hwk : (wtsW l).getD k 0 = if O = true then 4607182418800017408 else weightW (l.getD k (0, 0)).1 := by
        rw [EO.out]
        unfold wtsW
        split
        · rw [List.getD_eq_getElem?_getD, List.getElem?_replicate, if_pos hlt]; rfl
        · simp [rawW, List.getD_eq_getElem?_getD, List.getElem?_eq_getElem hlt]
      have hadd := (trnW_at l k hlt).1
      have hnk : (newL l).take (k + 1) = (newL l).take k ++ [((l.getD k (0, 0)).1, (trnW l).getD k 0)] := by
        have hnl : k < (newL l).length := by rw [newL_length]; exact hlt
        rw [List.take_add_one, List.getElem?_eq_getElem hnl, Option.toList_some]
        congr 2
        simp [newL, List.getD_eq_getElem?_getD, List.getElem?_eq_getElem hlt, List.getElem?_eq_getElem (show k < (trnW l).length by rw [trnW_length]; exact hlt)]
      rw [hwk] at hadd
      have hrun := fun wx => run_float_arith (P := Tryz.prog) wx .add 31 .f64 _ _ _ hadd
      obtain ⟨x, ex⟩ : ∃ x, x = (l.getD k (0, 0)).1 := ⟨_, rfl⟩
      obtain ⟨y, ey⟩ : ∃ y, y = (l.getD k (0, 0)).2 := ⟨_, rfl⟩
      obtain ⟨r, er⟩ : ∃ r, r = (trnW l).getD k 0 := ⟨_, rfl⟩
      rw [← ex] at c1 hrun hnk
      rw [← ey] at c2 hrun
      rw [← er] at hrun hnk
      have ER := Lib.hid er
      have HN := Lib.hid hnk
      clear ex ey er hwk hadd hnk hcc
      have hB2 := hB.alloc hB.size (.cells #[fl x, fl y] 83)
      have hO2 := hO.alloc (.cells #[fl x, fl y] 83)
      have HP := Lib.hid hO2
      have hsz : w.heap.size ≤ wr.heap.size := hB.size
      clear hO hO2
      go_wp2_with fail
      refine (refweight_any _ _).mono ?_
      rintro e w' ⟨rfl, rfl⟩
      have hx : ∃ X, X = (if O = true then 4607182418800017408 else weightW x) ∧ ∀ wx, (binOp .add 31 (fl (turnW y)) (fl X)).run Tryz.prog wx = .ok (fl r) wx := ⟨_, rfl, hrun⟩
      obtain ⟨X, eX, hrun2⟩ := hx
      clear hrun
      have hN0 := (blk_new wr #[fl x, fl y] 83).cell 0 (fl x) rfl
      have hN1 := (blk_new wr #[fl x, fl y] 83).cell 1 (fl y) rfl
      go_upto_if 27 with fail
      go_cut [10] (fun s wx => s = fl X ∧ wx.cell? ⟨wr.heap.size, 0, none⟩ = some (fl x) ∧ wx.cell? ⟨wr.heap.size, 1, none⟩ = some (fl y) ∧ wx.ownsRow w.heap.size 83 2 u6 k (shs ((newL l).take k)) ∧ Below w.heap.size w wx)
      case first =>
        cases O with
        | true =>
          simp only [if_true] at eX
          subst eX
          go_wp2
          go_meet
          exact ⟨rfl, hN0, hN1, HP.out, hB2⟩
        | false =>
          simp only [Bool.false_eq_true, if_false] at eX
          subst eX
          go_wp2
          go_meet
          exact ⟨rfl, hN0, hN1, HP.out, hB2⟩
      case rest =>
        clear hN0 hN1 HP hB2 hB
        obtain ⟨rfl, d1, d2, hO, hB⟩ := hcut
        clear eX
        go_upto_region 10 with fail
        have HP := Lib.hid hO
        have HB := Lib.hid hB
        have hsz2 := hB.size
        clear hO hB
        go_cut [6] (fun s wx => wx.ownsRow w.heap.size 83 2 s (k + 1) (shs ((newL l).take (k + 1))) ∧ Below w.heap.size w wx)
        case first =>
          go_region_law (first
            | (refine step_append_lies _ rfl (.tmp 28) (.tmp 37) 81 rfl w.heap.size 83 i0 _ 2 16 Tryz.underlying81 hi hz0 hz1 hz2 rfl (by decide) _ _ _ rfl (by exact HP.out.alloc _) ⟨wc.heap.size, 0, none⟩ 1 1 [fl x, fl r] rfl rfl (by intro j u hj; match j, hj with
                | 0, hj => (simp at hj; subst hj; simp [Addr.add])
                | 1, hj => (simp at hj; subst hj; simp [Addr.add])) (by intro u hu; simp at hu; rcases hu with rfl | rfl <;> rfl) (by decide) (by unfold maxLen; omega) (by omega) (by simp; omega) _ rfl (fun g cp w3 hown' hgrow hat hlt2 => ?_))
            | (go_simp; go_at_call 72; refine (refturn_any _ _).mono ?_; rintro e w' ⟨rfl, rfl⟩))
          all_goals (go_wp2_with fail; go_meet; exact ⟨by rw [HN.out, shs_append2]; exact hown', ((HB.out.drew).alloc hsz2 (.cells #[fl x, fl r] 83)).grown hgrow (by simp; omega) (fun g' hg' => (own_lt HP.out (by exact hg')).1)⟩)
        case rest =>
          clear HP HB hsz2 d1 d2 hrun2
          obtain ⟨hO, hB⟩ := hcut
          have hml : ((newL l).take (k + 1)).length = k + 1 := by rw [List.length_take, newL_length]; omega
          have hrd := (OwnS.of_row (l := (newL l).take (k + 1)) (by rw [hml]; exact hO)).read
          obtain ⟨ao3, cap3, rfl⟩ := row_shape hO
          obtain ⟨ao4, cap4, e4, _, hrd4⟩ := hrd
          rw [hml] at e4 hrd4
          injection e4 with e5 e6 e7
          obtain ⟨b5, o5, e8, _, hc5⟩ := hrd4 (by omega)
          subst e5 e7
          subst e8
          have hturn : ∀ j, j < k + 1 → wc.cell? ⟨b5, o5 + j * 2 + 1, none⟩ = some (fl ((trnW l).getD j 0)) := by
            intro j hj
            have h1 := (hc5 j hj).2
            have h2 : (((newL l).take (k + 1)).getD j (0, 0)).2 = (trnW l).getD j 0 := by
              rw [List.getD_eq_getElem?_getD, List.getElem?_take_of_lt hj, ← List.getD_eq_getElem?_getD, newL_snd l j (by omega)]
            rw [h2] at h1
            exact h1
          have ck := hturn k (by omega)
          have hbr := bestTo_range (trnW l) k
          have hbs : bestTo (trnW l) (k + 1) = if (decide (bestTo (trnW l) k < 0) || (ord ((trnW l).getD k 0) ((trnW l).getD (bestTo (trnW l) k).toNat 0) == some .gt)) = true then (k : Int) else bestTo (trnW l) k := rfl
          obtain ⟨B, eB⟩ : ∃ B, B = bestTo (trnW l) k := ⟨_, rfl⟩
          obtain ⟨tk, ek⟩ : ∃ tk, tk = (trnW l).getD k 0 := ⟨_, rfl⟩
          rw [← eB] at hbr hbs ⊢
          rw [← ek] at ck hbs
          obtain ⟨hb1, hb2, hb3⟩ := hbr
          have HO := Lib.hid hO
          have HB := Lib.hid hB
          clear hO hB hml e6 hc5 hrd4 ER HN
          by_cases hneg : B < 0
          · have hnb : decide (B < 0) = true := by simpa using hneg
            rw [hnb, Bool.true_or, if_pos rfl] at hbs
            have HBS := Lib.hid hbs
            clear hbs hturn eB ek
            go_wp2_with fail
            go_quiet (fail)
            go_wp2
            go_roundw
            case rel => exact ⟨k + 1, by omega, by go_num, by rw [HBS.out], HO.out, ⟨HB.out.os, HB.out.tape, HB.out.output, HB.out.size, HB.out.block⟩⟩
            case measure => simp [intOf]; omega
          · obtain ⟨bn, rfl⟩ := Int.eq_ofNat_of_zero_le (show 0 ≤ B by omega)
            have cb := hturn bn (by omega)
            obtain ⟨tb, eb⟩ : ∃ tb, tb = (trnW l).getD bn 0 := ⟨_, rfl⟩
            rw [Int.toNat_natCast, ← eb] at hbs
            rw [← eb] at cb
            have hnb : decide ((bn : Int) < 0) = false := by simp
            rw [hnb, Bool.false_or] at hbs
            clear hturn eB ek eb hneg
            cases hgt : (ord tk tb == some .gt) with
            | true =>
              rw [hgt, if_pos rfl] at hbs
              have HBS := Lib.hid hbs
              clear hbs
              go_wp2_with fail
              go_quiet (fail)
              go_wp2
              go_roundw
              case rel => exact ⟨k + 1, by omega, by go_num, by rw [HBS.out], HO.out, ⟨HB.out.os, HB.out.tape, HB.out.output, HB.out.size, HB.out.block⟩⟩
              case measure => simp [intOf]; omega
            | false =>
              rw [hgt, if_neg (by decide)] at hbs
              have HBS := Lib.hid hbs
              clear hbs
              go_wp2_with fail
              go_quiet (fail)
              go_wp2
              go_roundw
              case rel => exact ⟨k + 1, by omega, by go_num, by rw [HBS.out], HO.out, ⟨HB.out.os, HB.out.tape, HB.out.output, HB.out.size, HB.out.block⟩⟩
              case measure => simp [intOf]; omega
    · obtain rfl : k = l.length := by omega
      have hfull : (newL l).take l.length = newL l := List.take_of_length_le (by rw [newL_length]; exact Nat.le_refl _)
      rw [hfull] at hO
      have hOw := OwnS.of_row (l := newL l) (by rw [newL_length]; exact hO)
      have hbr := bestTo_range (trnW l) l.length
      have hpick1 : (pickW l).1 = bestTo (trnW l) l.length := rfl
      have hpick2 : (pickW l).2 = (newL l).set (bestTo (trnW l) l.length).toNat (((newL l).getD (bestTo (trnW l) l.length).toNat (0, 0)).1, subW ((trnW l).getD (bestTo (trnW l) l.length).toNat 0) (totW l)) := rfl
      have H1 := Lib.hid hpick1
      have H2 := Lib.hid hpick2
      obtain ⟨B, eB⟩ : ∃ B, B = bestTo (trnW l) l.length := ⟨_, rfl⟩
      rw [← eB] at hbr ⊢
      have EB := Lib.hid eB
      clear hpick1 hpick2 hfull hlt eB
      obtain ⟨hq1, hq2, hq3⟩ := hbr
      obtain ⟨ao3, cap3, rfl⟩ := row_shape hO
      by_cases hl0 : l.length = 0
      · obtain rfl : B = -1 := by omega
        have hnil : l = [] := List.eq_nil_of_length_eq_zero hl0
        have e2 : (pickW l).2 = newL l := by rw [H2.out, hnil]; rfl
        have HO := Lib.hid hOw
        have E2 := Lib.hid e2
        clear hOw hO e2 hnil hq1 hq2 hq3
        go_wp2
        go_ret2
        exact ⟨_, by rw [H1.out, ← EB.out]; rfl, by rw [E2.out]; exact HO.out, hB⟩
      · obtain ⟨bn, rfl⟩ := Int.eq_ofNat_of_zero_le (show 0 ≤ B by have := hq3 (by omega); omega)
        have hbl : bn < l.length := by omega
        rcases hOw with ⟨_, e⟩ | ⟨g, cap4, rest, e4, hg, hO4⟩
        · exact absurd (by rw [← newL_length, e]; rfl) hl0
        injection e4 with e5 e6 e7
        subst e5 e7
        clear hO e6 hq1 hq2 hq3
        have hsl := shs_length (newL l)
        have hat := (shs_at (newL l) bn (by rw [newL_length]; exact hbl)).2
        rw [newL_snd l bn hbl] at hat
        have cb := hO4.cell (bn * 2 + 1) _ (by simp only [List.getElem?_toArray]; rw [List.getElem?_append_left (by rw [hsl, newL_length]; omega)]; exact hat)
        have hf := hO4.free (bn * 2 + 1)
        have hrun := fun wx => run_float_arith (P := Tryz.prog) wx .sub 31 .f64 _ _ _ (sub_ok2 (trnW_at l bn hbl).2 (tot_num l hlen8)).1
        have hO3 := hO4.set (bn * 2 + 1) (fl (subW ((trnW l).getD bn 0) (totW l)))
        rw [List.setIfInBounds_toArray, List.set_append_left _ _ (by rw [hsl, newL_length]; omega), shs_set _ _ _ (by rw [newL_length]; exact hbl)] at hO3
        have hB3 := hB.setCell (p := ⟨g, bn * 2 + 1, none⟩) hg (fl (subW ((trnW l).getD bn 0) (totW l)))
        obtain ⟨tb, eb⟩ : ∃ tb, tb = (trnW l).getD bn 0 := ⟨_, rfl⟩
        rw [← eb] at cb
        rw [← eb, ← ET.out] at hrun hO3 hB3
        have E := Lib.hid eb
        clear eb hsl hat hO4 hB
        go_wp2
        go_ret2
        have e2 : (pickW l).2 = (newL l).set bn (((newL l).getD bn (0, 0)).1, subW tb T) := by rw [H2.out, ← EB.out, Int.toNat_natCast, E.out, ET.out]
        have e3 : (pickW l).2.length = l.length := by rw [e2, List.length_set, newL_length]
        refine ⟨.slice (some ⟨g, 0, none⟩) l.length cap3, by rw [H1.out, ← EB.out]; rfl, .inr ⟨g, cap3, rest, by rw [e3], hg, by rw [e2]; exact hO3⟩, hB3⟩
end Go.Proofs.YtgimmdnmndbcpaaGreatDoor
