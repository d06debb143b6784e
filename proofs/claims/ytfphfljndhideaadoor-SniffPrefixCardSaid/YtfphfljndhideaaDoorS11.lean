/- SniffPrefix: the walk. -/
import Derived.Test.YtfphfljndhideaaDoorAo
set_option linter.unusedVariables false
set_option linter.unusedSimpArgs false
namespace Go.Proofs.YtfphfljndhideaaDoor
open Go.RowKit Jw Lab
attribute [local go_sem] max2_mx min2_mn max_mx min_mn

theorem prefixLaw_no (b more : List UInt8) (v v2 : Value) (w : World) (hr : Rb w v b) (hr2 : Rb w v2 more) (a : Addr) (m : Int) (hg : Gl w a m) (h : 200 < b.length ∨ 200 < more.length) :
    Calls Tryd.prog 9 #[v, v2] w fun e w' => e = .returned (.bool true) ∧ Below w.heap.size w w' := by
  obtain ⟨ao, cap, rfl, hx1⟩ := hr
  obtain ⟨ao2, cap2, rfl, hx2⟩ := hr2
  have HA := Lib.hid (alive17_any w a m hg)
  clear hg hx1 hx2
  rcases Nat.lt_or_ge 200 b.length with h1 | h1
  · have q1 : decide (200 < (b.length : Int)) = true := by simp; omega
    clear h h1
    go_enter Tryd.func9, Tryd.ntmps9
    go_wp2_with (go_at_call 25; refine HA.out.mono ?_; rintro e w1 ⟨rfl, hB⟩)
    go_ret
    exact ⟨rfl, hB⟩
  have q1 : decide (200 < (b.length : Int)) = false := by simp; omega
  have q2 : decide (200 < (more.length : Int)) = true := by simp; omega
  clear h h1
  go_enter Tryd.func9, Tryd.ntmps9
  go_wp2_with (go_at_call 25; refine HA.out.mono ?_; rintro e w1 ⟨rfl, hB⟩)
  go_ret
  exact ⟨rfl, hB⟩

set_option maxHeartbeats 2000000 in
theorem prefixLaw_yes (b more : List UInt8) (v v2 : Value) (w : World) (hr : Rb w v b) (hr2 : Rb w v2 more) (hno : ∀ n c, v = .slice none n c → n = 0 ∧ c = 0) (hno2 : ∀ n c, v2 = .slice none n c → n = 0 ∧ c = 0)
    (hcap : ∀ o n c, v = .slice o n c → n ≤ c ∧ c ≤ 9223372036854775807) (a : Addr) (m : Int) (hg : Gl w a m) (h1 : b.length ≤ 200) (h2 : more.length ≤ 200) :
    Calls Tryd.prog 9 #[v, v2] w fun e w' => e = .returned (.bool true) ∧ Below w.heap.size w w' := by
  have HR := Lib.hid hr
  have HR2 := Lib.hid hr2
  obtain ⟨ao, cap, rfl, hao⟩ := hr
  obtain ⟨ao2, cap2, rfl, hx2⟩ := hr2
  clear hx2
  have HAO := Lib.hid hao
  have HNO := Lib.hid hno
  have HNO2 := Lib.hid hno2
  have HCap := Lib.hid (hcap _ _ _ rfl)
  have HG := Lib.hid hg.gb
  have HA := Lib.hid (alive17_any w a m hg)
  have q1 : decide (200 < (b.length : Int)) = false := by simp; omega
  have q2 : decide (200 < (more.length : Int)) = false := by simp; omega
  have HC1 := Lib.hid (fun w2 (h2 : Gl w2 a m) (hr : Rb w2 (.slice ao b.length cap) b) => can_any b (by omega) _ a m w2 h2 hr)
  have HC2 := Lib.hid (fun w2 (h2 : Gl w2 a m) v (hr : Rb w2 v (b ++ more)) => can_any (b ++ more) (by simp; omega) _ a m w2 h2 hr)
  have H1 := Lib.hid h1
  have H2 := Lib.hid h2
  have hs0 := hg.low
  clear hg h1 h2 hno hno2 hcap hao
  go_enter Tryd.func9, Tryd.ntmps9
  go_upto_region 5 with (go_at_call 25; refine HA.out.mono ?_; rintro e w1 ⟨rfl, hB1⟩)
  clear q1 q2 HA
  have hB2 := hB1.alloc hB1.size (.cells #[] 5)
  have o2 := empty_own w.heap.size w1 hB1.size
  have r2 := HR.out.below hB2 (Nat.le_refl _)
  have HO2 := Lib.hid o2
  have HR2' := Lib.hid r2
  have HB2 := Lib.hid hB2
  clear o2 r2 hB2
  go_wp2_with (at_builtin; refine wp_app_rb rfl (.tmp 25) (.tmp 26) rfl _ w.heap.size [] b _ HO2.out rfl _ rfl HR2'.out HNO.out ?c1 ?c2 ?_)
  case c1 => have := H1.out; simp; omega
  case c2 => exact HB2.out.size
  intro v3 w3 o3 g3
  have hB3 := HB2.out.trans (grown_below g3 (fun g hg => (own_lo HO2.out g hg).1) HB2.out.size)
  have HO3 := Lib.hid o3
  have HB3 := Lib.hid hB3
  have HR3 := Lib.hid (HR2.out.below hB3 (Nat.le_refl _))
  clear o3 g3 hB3 HR2' HO2 HB2
  go_wp2_with (at_builtin; refine wp_app_rb rfl (.tmp 27) (.tmp 28) rfl _ w.heap.size b more _ HO3.out rfl _ rfl HR3.out HNO2.out ?c1 ?c2 ?_)
  case c1 => have := H1.out; have := H2.out; omega
  case c2 => exact HB3.out.size
  intro v4 w4 o4 g4
  have hB4 := HB3.out.trans (grown_below g4 (fun g hg => (own_lo HO3.out g hg).1) HB3.out.size)
  have HB4 := Lib.hid hB4
  have HR4 := Lib.hid (Rb.own (l := b ++ more) (by rw [List.length_append]; exact o4))
  have HRb := Lib.hid (HR.out.below hB4 (Nat.le_refl _))
  have HG4 := Lib.hid (HG.out.below hB4)
  clear o4 g4 hB4 HR3 HO3 HB3
  cases hcb : canB b with
  | false =>
    have hcm : canB (b ++ more) = false := by
      rw [Bool.eq_false_iff]
      intro e
      rw [can_pre b more e] at hcb
      exact absurd hcb (by simp)
    rw [hcb] at HC1
    rw [hcm] at HC2
    clear hcb hcm
    go_wp2_with (go_at_call 26; first
      | ((with_reducible refine (HC1.out _ HG4.out.gl HRb.out).mono ?_); rintro e w5 ⟨rfl, hB5⟩; have hg5 := HG4.out.below (hB5.mono HG4.out.sz); have hr5 := HR4.out.below hB5 (Nat.le_refl _))
      | ((with_reducible refine (HC2.out _ hg5.gl _ hr5).mono ?_); rintro e w6 ⟨rfl, hB6⟩))
    go_ret
    have h5 := HB4.out.trans (hB5.mono HB4.out.size)
    exact ⟨rfl, h5.trans (hB6.mono h5.size)⟩
  | true =>
    rw [hcb] at HC1
    have HCB := Lib.hid hcb
    clear hcb HC2 HR4
    go_upto_region 9 with (go_at_call 26; refine (HC1.out _ HG4.out.gl HRb.out).mono ?_; rintro e w5 ⟨rfl, hB5⟩)
    have hB5' := HB4.out.trans (hB5.mono HB4.out.size)
    have HB5 := Lib.hid hB5'
    have HG5 := Lib.hid (HG.out.below hB5')
    have HRc := Lib.hid (HR.out.below hB5' (Nat.le_refl _))
    clear hB5 hB5' HRb HG4 HB4
    go_loopw [6, 7, 38] (fun _ _ i wr => ∃ (k : Nat), k ≤ b.length ∧ i = n64 k ∧ (∀ j, j < k → b.getD j 0 ≠ 10) ∧ wr = w5) (fun _ _ i _ => b.length - (intOf i).toNat)
    case atStart => exact ⟨0, by omega, rfl, fun j h => by omega, rfl⟩
    case round =>
      obtain ⟨k, hk, rfl, hall, rfl⟩ := hrel
      have HJ := Lib.hid hall
      clear hall
      by_cases hlk : k < b.length
      · obtain ⟨ao', cap', ev, hcc⟩ := HRc.out
        injection ev with ev1 _ ev2
        subst ev1 ev2
        obtain ⟨bb, off, rfl, hbb, hc⟩ := hcc (by omega)
        have hx := hc k hlk
        obtain ⟨c, hcd⟩ : ∃ c, c = b.getD k 0 := ⟨_, rfl⟩
        rw [← hcd] at hx
        have ck : ((k : Int) + 1) ≤ 4294967290 := by have := H1.out; omega
        have HC := Lib.hid hcd
        have HCC := Lib.hid hc
        clear hcd hc hcc
        by_cases h10 : c = 10
        · have q : ((c.toNat : Int) == 10) = true := by rw [h10]; rfl
          obtain ⟨h4, hnm⟩ := can_ten b k hlk (by rw [← HC.out]; exact h10) HJ.out HCB.out
          have f1 : k ≤ cap := by have := HCap.out.1; omega
          have f2 : (3 : Int) ≤ (k : Int) := by omega
          have f3 : ¬ cap = 3 := by omega
          obtain ⟨t, ht⟩ : ∃ t, t = (b.take k).drop 3 := ⟨_, rfl⟩
          have htl : t.length = k - 3 := by rw [ht]; simp; omega
          have hrt : Rb wr (.slice (some ⟨bb, off + 3, none⟩) t.length (cap - 3)) t := ⟨_, _, rfl, fun _ => ⟨bb, off + 3, rfl, hbb, fun j hj => by
            rw [Nat.add_assoc, HCC.out (3 + j) (by omega), ht, List.getD_eq_getElem?_getD, List.getD_eq_getElem?_getD, List.getElem?_drop, List.getElem?_take_of_lt (by omega)]⟩⟩
          have hcv := rb_conv hrt
          rw [htl] at hcv
          have HN := Lib.hid (rname_any t (by have := H1.out; omega) wr)
          rw [← ht] at hnm
          rw [hnm] at HN
          clear h10 h4 hnm ht htl hrt
          go_wp2_with (go_at_call 22; refine HN.out.mono ?_; rintro e w6 ⟨rfl, hB6⟩)
          go_ret
          exact ⟨rfl, HB5.out.trans (hB6.mono HB5.out.size)⟩
        · have q : ((c.toNat : Int) == 10) = false := by
            rw [beq_eq_false_iff_ne]
            intro e
            exact h10 (UInt8.toNat_inj.1 (by show c.toNat = 10; omega))
          have HT := Lib.hid h10
          clear h10
          go_wp2
          go_roundw
          case rel =>
            refine ⟨k + 1, by omega, by go_num, fun j hj => ?_, trivial⟩
            rcases Nat.lt_or_ge j k with h | h
            · exact HJ.out j h
            · rw [show j = k by omega, ← HC.out]; exact HT.out
          case measure => simp [intOf]; omega
      · obtain rfl : k = b.length := by omega
        obtain ⟨wo, hwo⟩ : ∃ x, x = wr := ⟨wr, rfl⟩
        subst hwo
        have h10 : (10 : UInt8) ∉ b := fun hm => by
          obtain ⟨j, hj, e⟩ := List.getElem_of_mem hm
          have := HJ.out j hj
          rw [List.getD_eq_getElem?_getD, List.getElem?_eq_getElem hj] at this
          exact this e
        have hsome := ends_some b h10 HCB.out
        have hfde := fun e he => fd_ends b e h10 he
        have hform := ends_form b
        obtain ⟨j, hj⟩ : ∃ j : Nat, j = min b.length 3 := ⟨_, rfl⟩
        have hmn : mn (b.length : Int) 3 = (j : Int) := by unfold mn; omega
        have hj3 : j ≤ 3 := by omega
        obtain ⟨e3, he3⟩ : ∃ e, e = ([116, 111, 32, 97, 10] : List UInt8).drop j := ⟨_, rfl⟩
        have hsl : ∀ wx, (Instr.slice 9 (.string ⟨#[116, 111, 32, 97, 10]⟩) (some (.int .i64 (j : Int))) none none).run Tryd.prog wx = .ok (.string (bs e3)) wx := fun wx => by
          have := run_slice_string_l (P := Tryd.prog) wx 9 (bs [116, 111, 32, 97, 10]) Tryd.underlying9 .i64 j (by omega) (by rw [bs_size]; simp; omega)
          refine this.trans ?_
          rw [he3]
          congr 2
          rcases (show j = 0 ∨ j = 1 ∨ j = 2 ∨ j = 3 by omega) with h | h | h | h
          all_goals
            rw [h]
            apply ByteArray.ext
            apply Array.ext'
            simp [bs]
            first | done | rfl | decide
        have hE : ends b = [[10], [97, 10], e3] := by rw [ends, he3, hj]
        rw [hE] at hsome hfde hform
        obtain ⟨E, hEE⟩ : ∃ E : List (List UInt8), E = [[10], [97, 10], e3] := ⟨_, rfl⟩
        obtain ⟨w6, hw6⟩ : ∃ w6, w6 = wo.alloc (.cells (strs [[10], [97, 10], e3]) 9) := ⟨_, rfl⟩
        have hk6 := blk_new wo (strs [[10], [97, 10], e3]) 9
        have hB6 := HB5.out.alloc HB5.out.size (.cells (strs [[10], [97, 10], e3]) 9)
        rw [← hw6] at hB6 hk6
        have e6 : w6.heap.size = wo.heap.size + 1 := by rw [hw6]; simp
        rw [← hEE] at hsome hfde hform hk6
        have hEl : E.length = 3 := by rw [hEE]; rfl
        have HSome := Lib.hid hsome
        have HFde := Lib.hid hfde
        have HForm := Lib.hid hform
        have HK6 := Lib.hid hk6
        have HB6 := Lib.hid hB6
        have HW6 := Lib.hid hw6
        have HE6 := Lib.hid e6
        have HEl := Lib.hid hEl
        have HR6 := Lib.hid (HR.out.below hB6 (Nat.le_refl _))
        clear h10 hsome hfde hform hk6 hB6 hw6 e6 hE hEE hEl he3 hj HRc HG5 HC1 HR2
        go_upto_region 15 with fail
        have hgoal := HW6.out
        rw [show strs [[10], [97, 10], e3] = #[Value.string ⟨#[10]⟩, Value.string ⟨#[97, 10]⟩, Value.string (bs e3)] from rfl] at hgoal
        rw [← hgoal]
        clear hgoal hsl hmn
        go_loopw [9, 57] (fun _ i wr => ∃ (k : Nat), k ≤ 3 ∧ i = n64 k ∧ (∀ j, j < k → canB (b ++ E.getD j []) = false) ∧ Below w6.heap.size w6 wr) (fun _ i _ => 3 - (intOf i).toNat)
        case atStart => exact ⟨0, by omega, rfl, fun j h => by omega, Below.refl _ _⟩
        case round =>
          obtain ⟨k, hk, rfl, hall, hB⟩ := hrel
          have HJ := Lib.hid hall
          clear hall
          by_cases hlk : k < 3
          · have hlk' : k < E.length := by have := HEl.out; omega
            have hx := (hB.cell (p := ⟨wo.heap.size, k, none⟩) (by show wo.heap.size < _; have := HE6.out; omega)).trans (HK6.out.cell k _ (strs_at E k hlk'))
            obtain ⟨e, he⟩ : ∃ e, e = E.getD k [] := ⟨_, rfl⟩
            rw [← he] at hx
            have hmem : e ∈ E := he ▸ getD_mem E k [] hlk'
            have hfd := HFde.out e hmem
            obtain ⟨x0, hx01, hx02, hel⟩ := HForm.out e hmem
            clear hx01 hx02
            have hBV := HB6.out.trans (hB.mono HB6.out.size)
            have hgE : wo.heap.size < wr.heap.size := by have := HE6.out; have := hB.size; omega
            obtain ⟨V1, hV1⟩ : ∃ V1, V1 = wr.alloc (.cells #[n64 0, .slice none 0 0] 63) := ⟨_, rfl⟩
            have sn1 := new_sn w.heap.size wr hBV.size
            have hB1' := hBV.alloc hBV.size (.cells #[n64 0, .slice none 0 0] 63)
            have eV : V1.heap.size = wr.heap.size + 1 := by rw [hV1]; simp
            have hBl1 : Below w6.heap.size w6 V1 := by rw [hV1]; exact hB.alloc hB.size _
            rw [← hV1] at sn1 hB1'
            have o2 := empty_own V1.heap.size V1 (Nat.le_refl _)
            have hB2' := hB1'.alloc hB1'.size (.cells #[] 5)
            have hBl2 : Below w6.heap.size w6 (V1.alloc (.cells #[] 5)) := hBl1.alloc hBl1.size _
            have sn2 := sn1.below ((Below.refl V1.heap.size V1).alloc (Nat.le_refl _) (.cells #[] 5)) (Nat.le_refl _)
            have HO2 := Lib.hid o2
            have HR2 := Lib.hid (HR.out.below hB2' (Nat.le_refl _))
            have HSn2 := Lib.hid sn2
            have HB2 := Lib.hid hB2'
            have HBl2 := Lib.hid hBl2
            have HV1 := Lib.hid hV1
            have HEV := Lib.hid eV
            have HFd := Lib.hid hfd
            have HEl5 := Lib.hid hel
            have HE' := Lib.hid he
            have HBV := Lib.hid hBV
            have HBr := Lib.hid hB
            clear hlk' hmem hfd hel hBV hgE sn1 hB1' eV hBl1 o2 hB2' hBl2 sn2 hV1 he hB
            go_upto_region 18 with (go_at_call 27; refine (new_any _).mono ?_; rintro e w6 ⟨rfl, rfl⟩)
            rw [← HV1.out]
            go_wp2_with (at_builtin; refine wp_app_rb rfl (.tmp 64) (.tmp 65) rfl _ V1.heap.size [] b _ HO2.out rfl _ rfl HR2.out HNO.out ?c1 ?c2 ?_)
            case c1 => have := H1.out; simp; omega
            case c2 => simp
            intro v3 V3 o3 g3
            have sep3 : ∀ g, v3.ownBlock = some g → V1.heap.size ≤ g := fun g hg => (own_lo o3 g hg).1
            have hb3 : Below V1.heap.size (V1.alloc (.cells #[] 5)) V3 := grown_below g3 (fun g hg => (own_lo HO2.out g hg).1) (by simp)
            have sn3 := HSn2.out.same (hb3.block _ (by have := HEV.out; omega)) (fun g e => by simp [Value.ownBlock] at e)
            have hB3 := HB2.out.trans (hb3.mono (by have := HEV.out; have := HBV.out.size; omega))
            have hBl3 : Below w6.heap.size w6 V3 := HBl2.out.trans (hb3.mono (by have := HEV.out; have := HBr.out.size; omega))
            have HO3 := Lib.hid o3
            have HB3 := Lib.hid hB3
            have HBl3 := Lib.hid hBl3
            have HSn3 := Lib.hid sn3
            have h13 : V1.heap.size ≤ V3.heap.size := Nat.le_trans (by simp) hb3.size
            clear o3 g3 hB3 hBl3 sn3 hb3 sep3 HO2 HR2 HSn2 HB2 HBl2
            go_wp2_with (at_builtin; refine wp_app_str rfl (.tmp 66) (.tmp 67) rfl _ V1.heap.size b e _ HO3.out rfl rfl ?c1 ?c2 ?_)
            case c1 => have := H1.out; have := HEl5.out; omega
            case c2 => exact h13
            intro v4 V4 o4 g4
            have hb4 : Below V1.heap.size V3 V4 := grown_below g4 (fun g hg => (own_lo HO3.out g hg).1) h13
            have sn4 := HSn3.out.same (hb4.block _ (by have := HEV.out; omega)) (fun g e => by simp [Value.ownBlock] at e)
            have hB4 := HB3.out.trans (hb4.mono (by have := HEV.out; have := HBV.out.size; omega))
            have hBl4 : Below w6.heap.size w6 V4 := HBl3.out.trans (hb4.mono (by have := HEV.out; have := HBr.out.size; omega))
            have o4' : V4.ownsRow V1.heap.size 5 1 v4 (b ++ e).length (bv (b ++ e)) := by rw [List.length_append]; exact o4
            have hg4 := HG.out.below hB4
            have hf := feed_any w.heap.size wr.heap.size [] (b ++ e) (.slice none 0 0) v4 V4 sn4 a m hg4 (by have := H1.out; have := HEl5.out; simp; omega) (Rb.own o4') (fun ad n c ev => ⟨by
              have := (own_lo o4' ad.block (by rw [ev]; cases h : ad; have := o4'; rw [ev] at this; obtain ⟨_, ⟨h2, _⟩ | ⟨g', cap', cur, h2, _⟩⟩ := this; cases h2; injection h2 with h2; injection h2 with h2; rw [h] at h2; injection h2 with h3 h4 h5; subst h3 h4 h5; rfl)).1
              have := HEV.out
              omega, (fun e => by cases e)⟩)
            have HBl4 := Lib.hid hBl4
            have HB4 := Lib.hid hB4
            have HG4 := Lib.hid hg4
            have he1 : errv a 1 = .nilIface := rfl
            have he2 : errv a 2 = er a := rfl
            clear o4 g4 hb4 sn4 hB4 hBl4 o4' hg4 HO3 HB3 HBl3 HSn3 h13
            rcases HFd.out with ⟨hc, hfd, h5⟩ | ⟨hc, kk, hfd⟩
            · rw [hfd] at hf
              have HF := Lib.hid hf
              have H5 := Lib.hid h5
              clear hf hfd hc h5
              go_wp2_with (first
                | (go_at_call 28; refine HF.out.mono ?_; rintro e' w9 ⟨rfl, lv9, hs9, hf9, ho9⟩; have HN9 := Lib.hid (name_yes hs9 H5.out (by have := H1.out; have := HEl5.out; simp; omega)))
                | (go_at_call 29; refine HN9.out.mono ?_; rintro e' w10 ⟨rfl, hB10⟩))
              go_ret
              have h3 := HB4.out.trans (hf9.below HBV.out.size (fun k e => by cases e) HB4.out.size)
              exact ⟨rfl, h3.trans (hB10.mono h3.size)⟩
            · rw [hfd] at hf
              have HF := Lib.hid hf
              have HC := Lib.hid hc
              have ck : ((k : Int) + 1) ≤ 4294967290 := by omega
              clear hf hfd hc
              go_wp2_with (go_at_call 28; refine HF.out.mono ?_; rintro e' w9 ⟨rfl, lv9, hs9, hf9, ho9⟩)
              go_roundw
              case rel =>
                refine ⟨k + 1, by omega, by go_num, fun j hj => ?_, HBl4.out.trans (hf9.below HBr.out.size (fun k e => by cases e) HBl4.out.size)⟩
                rcases Nat.lt_or_ge j k with h | h
                · exact HJ.out j h
                · rw [show j = k by omega, ← HE'.out]; exact HC.out
              case measure => simp [intOf]; omega
          · exfalso
            obtain rfl : k = 3 := by omega
            obtain ⟨e, he, hc⟩ := HSome.out
            obtain ⟨j, hj, rfl⟩ := List.getElem_of_mem he
            have := HJ.out j (by have := HEl.out; omega)
            rw [List.getD_eq_getElem?_getD, List.getElem?_eq_getElem hj] at this
            have h2 : canB (b ++ E[j]) = false := this
            rw [hc] at h2
            exact absurd h2 (by simp)

theorem prefixLaw_walk (b more : List UInt8) (v v2 : Value) (w : World) (hr : Rb w v b) (hr2 : Rb w v2 more) (hno : ∀ n c, v = .slice none n c → n = 0 ∧ c = 0) (hno2 : ∀ n c, v2 = .slice none n c → n = 0 ∧ c = 0)
    (hcap : ∀ o n c, v = .slice o n c → n ≤ c ∧ c ≤ 9223372036854775807) (a : Addr) (m : Int) (hg : Gl w a m) :
    Calls Tryd.prog 9 #[v, v2] w fun e w' => e = .returned (.bool true) ∧ Below w.heap.size w w' := by
  by_cases h : 200 < b.length ∨ 200 < more.length
  · exact prefixLaw_no b more v v2 w hr hr2 a m hg h
  · exact prefixLaw_yes b more v v2 w hr hr2 hno hno2 hcap a m hg (Nat.le_of_not_lt fun e => h (.inl e)) (Nat.le_of_not_lt fun e => h (.inr e))
end Go.Proofs.YtfphfljndhideaaDoor
