/- The reference's Fits. -/
import Derived.Test.YtfphfljndhideaaDoorD
set_option linter.unusedVariables false
set_option linter.unusedSimpArgs false
namespace Go.Proofs.YtfphfljndhideaaDoor
open Go.RowKit Jw Lab

theorem rfits_no (p n : List UInt8) (hp : p.length < 4294967281) (hn : n.length < 4294967281) (w : World) (h : (patOk p && nmOk n) = false) :
    Calls Tryd.prog 15 #[.string (bs p), .string (bs n)] w fun e w' => e = .returned (.bool (fits p n)) ∧ Below w.heap.size w w' := by
  have hf : fits p n = false := by rw [fits, h]; rfl
  have HP : ∃ b t, (Calls Tryd.prog 20 #[.string (bs p)] w fun e w' => e = .returned (.tuple #[.string (bs t), .bool b, .bool (patOk p)]) ∧ Below w.heap.size w w') := by
    by_cases hw : 2 < p.length ∧ wld p = true
    · exact ⟨_, _, rpat_wild p hp w hw.1 hw.2⟩
    · exact ⟨_, _, rpat_plain p hp w hw⟩
  obtain ⟨b, t, hP⟩ := HP
  have HP := Lib.hid hP
  clear hP
  have HN := Lib.hid (fun w2 => rname_any n hn w2)
  have HF := Lib.hid hf
  clear hf
  cases hb : patOk p with
  | false =>
    rw [hb] at HP
    clear hb h
    go_enter Tryd.func15, Tryd.ntmps15
    go_wp2_with (go_at_call 20; refine HP.out.mono ?_; rintro e w1 ⟨rfl, hB⟩)
    go_ret
    exact ⟨by rw [HF.out]; rfl, hB⟩
  | true =>
    rw [hb] at HP h
    rw [Bool.true_and] at h
    rw [h] at HN
    clear hb h
    go_enter Tryd.func15, Tryd.ntmps15
    go_wp2_with (first
      | (go_at_call 20; refine HP.out.mono ?_; rintro e w1 ⟨rfl, hB⟩)
      | (go_at_call 22; refine (HN.out _).mono ?_; rintro e w2 ⟨rfl, hB2⟩))
    go_ret
    exact ⟨by rw [HF.out]; rfl, hB.trans (hB2.mono hB.size)⟩
theorem rfits_plain (p n : List UInt8) (hp : p.length < 4294967281) (hn : n.length < 4294967281) (w : World) (h1 : patOk p = true) (h2 : nmOk n = true) (h3 : wld p = false) :
    Calls Tryd.prog 15 #[.string (bs p), .string (bs n)] w fun e w' => e = .returned (.bool (fits p n)) ∧ Below w.heap.size w w' := by
  have hf : fits p n = (p == n) := by rw [fits, h1, h2, h3]; rfl
  have HP := Lib.hid (rpat_plain p hp w (by rw [h3]; simp))
  have HN := Lib.hid (fun w2 => rname_any n hn w2)
  have HF := Lib.hid hf
  rw [h1] at HP
  rw [h2] at HN
  have t1 : (bs p).toList = p := ByteArray.toList_mk p
  have t2 : (bs n).toList = n := ByteArray.toList_mk n
  clear hf h1 h2 h3
  go_enter Tryd.func15, Tryd.ntmps15
  go_wp2_with (first
    | (go_at_call 20; refine HP.out.mono ?_; rintro e w1 ⟨rfl, hB⟩)
    | (go_at_call 22; refine (HN.out _).mono ?_; rintro e w2 ⟨rfl, hB2⟩))
  go_ret
  exact ⟨by rw [HF.out]; rfl, hB.trans (hB2.mono hB.size)⟩

set_option maxHeartbeats 1000000 in
theorem rfits_wild (p n : List UInt8) (hp : p.length < 4294967281) (hn : n.length < 4294967281) (w : World) (h1 : patOk p = true) (h2 : nmOk n = true) (h3 : wld p = true) (h4 : 2 < p.length) :
    Calls Tryd.prog 15 #[.string (bs p), .string (bs n)] w fun e w' => e = .returned (.bool (fits p n)) ∧ Below w.heap.size w w' := by
  obtain ⟨t, ht⟩ : ∃ t, t = p.drop 2 := ⟨_, rfl⟩
  have hf : fits p n = (46 :: t).isSuffixOf n := by rw [fits, h1, h2, h3, tl, h3, ht]; rfl
  have HP := Lib.hid (rpat_wild p hp w h4 h3)
  have HN := Lib.hid (fun w2 => rname_any n hn w2)
  rw [h1, ← ht] at HP
  rw [h2] at HN
  have htl : t.length < 4294967281 := by rw [ht]; simp; omega
  have HA := Lib.hid (fun w2 => rsplit_any t (by omega) w2)
  have HB := Lib.hid (fun w2 => rsplit_any n (by omega) w2)
  have hsu := suffix_spl t n
  rw [← hf] at hsu
  have HS := Lib.hid hsu
  clear hsu
  have hla : (spl t).length ≤ t.length + 1 := by rw [spl_length]; have := List.count_le_length (a := (46 : UInt8)) (l := t); omega
  have hlb : (spl n).length ≤ n.length + 1 := by rw [spl_length]; have := List.count_le_length (a := (46 : UInt8)) (l := n); omega
  obtain ⟨X, hX⟩ : ∃ X, X = spl t := ⟨_, rfl⟩
  obtain ⟨Y, hY⟩ : ∃ Y, Y = spl n := ⟨_, rfl⟩
  rw [← hX] at HA HS hla
  rw [← hY] at HB HS hlb
  clear hf h1 h2 h3 ht hX hY
  go_enter Tryd.func15, Tryd.ntmps15
  go_upto_region 7 with (first
    | (go_at_call 20; refine HP.out.mono ?_; rintro e w1 ⟨rfl, hB1⟩)
    | (go_at_call 22; refine (HN.out _).mono ?_; rintro e w2 ⟨rfl, hB2⟩)
    | (go_at_call 23; first
        | ((with_reducible refine (HA.out _).mono ?_); rintro e w3 ⟨v3, rfl, hT3, hB3⟩)
        | ((with_reducible refine (HB.out _).mono ?_); rintro e w4 ⟨v4, rfl, hT4, hB4⟩)))
  have hBB : Below w.heap.size w w4 := ((hB1.trans (hB2.mono hB1.size)).trans (hB3.mono (Nat.le_trans hB1.size hB2.size))).trans (hB4.mono (Nat.le_trans (Nat.le_trans hB1.size hB2.size) hB3.size))
  obtain ⟨g3, c3, rfl, _, _, hc3⟩ := hT3.below hB4 (Nat.le_refl _)
  obtain ⟨g4, c4, rfl, _, _, hc4⟩ := hT4
  have HC3 := Lib.hid hc3
  have HC4 := Lib.hid hc4
  clear hT3 hc3 hc4 HA HB HP HN hB1 hB2 hB3 hB4
  by_cases hlt : Y.length ≤ X.length
  · have hf : fits p n = false := by
      rw [Bool.eq_false_iff]
      intro e
      have := (HS.out.1 e).1
      omega
    have HF := Lib.hid hf
    clear hf
    go_wp2
    go_ret
    exact ⟨by rw [HF.out]; rfl, hBB⟩
  have hq : decide ((Y.length : Int) ≤ (X.length : Int)) = false := by simp; omega
  go_upto_region 10 with fail
  clear hq
  go_loopw [10, 40] (fun _ i wr => ∃ (k : Nat), k ≤ X.length ∧ i = n64 k ∧ (∀ j, j < k → X.getD j [] = Y.getD (Y.length - X.length + j) []) ∧ wr.heap = w4.heap ∧ Below w.heap.size w wr) (fun _ i _ => X.length - (intOf i).toNat)
  case atStart => exact ⟨0, by omega, rfl, fun j h => by omega, rfl, hBB⟩
  case round =>
    obtain ⟨k, hk, rfl, hall, hh, hB⟩ := hrel
    have HJ := Lib.hid hall
    clear hall
    by_cases hlk : k < X.length
    · have hx := HC3.out k hlk
      have hy := HC4.out (Y.length - X.length + k) (by omega)
      have cc : ∀ a, wr.cell? a = w4.cell? a := fun a => by
        unfold World.cell?
        rw [hh]
      obtain ⟨j, hj⟩ : ∃ j : Nat, j = Y.length - X.length + k := ⟨_, rfl⟩
      rw [← cc] at hx hy
      rw [← hj] at hy
      obtain ⟨x, ex⟩ : ∃ x, x = X.getD k [] := ⟨_, rfl⟩
      obtain ⟨y, ey⟩ : ∃ y, y = Y.getD j [] := ⟨_, rfl⟩
      rw [← ex] at hx
      rw [← ey] at hy
      have t1 : (bs x).toList = x := ByteArray.toList_mk x
      have t2 : (bs y).toList = y := ByteArray.toList_mk y
      have e1 : (Y.length : Int) - (X.length : Int) + (k : Int) = (j : Int) := by omega
      have e2 : j < Y.length := by omega
      have w1 : IntKind.i64.wrap ((Y.length : Int) - (X.length : Int)) = (Y.length : Int) - (X.length : Int) := IntWalk.i64_in _ (by omega)
      have w2 : IntKind.i64.wrap (j : Int) = (j : Int) := IntWalk.i64_in _ (by omega)
      have ck : ((k : Int) + 1) ≤ 4294967290 := by omega
      have EX := Lib.hid ex
      have EY := Lib.hid ey
      have EJ := Lib.hid hj
      clear ex ey cc hj
      have HH := Lib.hid hh
      clear hh
      by_cases hxy : x = y
      · subst hxy
        have hbe : (x == x) = true := by simp
        go_upto_region 12 with fail
        go_quiet (fail)
        go_wp2
        go_roundw
        case rel =>
          refine ⟨k + 1, by omega, by go_num, fun j' hj' => ?_, by exact HH.out, by exact ⟨hB.os, hB.tape, hB.output, hB.size, hB.block⟩⟩
          rcases Nat.lt_or_ge j' k with h | h
          · exact HJ.out j' h
          · rw [show j' = k by omega, ← EJ.out, ← EX.out, ← EY.out]
        case measure => simp [intOf]; omega
      · have hbe : (x == y) = false := by simpa using hxy
        have hf : fits p n = false := by
          rw [Bool.eq_false_iff]
          intro e
          have := (HS.out.1 e).2 k hlk
          rw [← EJ.out, ← EX.out, ← EY.out] at this
          exact hxy this
        have HF := Lib.hid hf
        clear hf hxy
        go_upto_region 12 with fail
        go_quiet (fail)
        go_wp2
        go_ret
        exact ⟨by rw [HF.out]; rfl, by exact ⟨hB.os, hB.tape, hB.output, hB.size, hB.block⟩⟩
    · obtain rfl : k = X.length := by omega
      have hf : fits p n = true := HS.out.2 ⟨by omega, HJ.out⟩
      have HF := Lib.hid hf
      clear hf
      go_wp2
      go_ret
      exact ⟨by rw [HF.out]; rfl, hB⟩

theorem rfits_any (p n : List UInt8) (hp : p.length < 4294967281) (hn : n.length < 4294967281) (w : World) :
    Calls Tryd.prog 15 #[.string (bs p), .string (bs n)] w fun e w' => e = .returned (.bool (fits p n)) ∧ Below w.heap.size w w' := by
  by_cases h : (patOk p && nmOk n) = true
  · have h' := h
    rw [Bool.and_eq_true] at h'
    by_cases hw : 2 < p.length ∧ wld p = true
    · exact rfits_wild p n hp hn w h'.1 h'.2 hw.2 hw.1
    · refine rfits_plain p n hp hn w h'.1 h'.2 ?_
      cases e : wld p with
      | false => rfl
      | true =>
        exfalso
        have h2 : p.length ≤ 2 := by
          rcases Nat.lt_or_ge 2 p.length with h3 | h3
          · exact absurd ⟨h3, e⟩ hw
          · exact h3
        have e2 := (wld_iff p).1 e
        have e3 : p = [42, 46] := by rw [← e2, List.take_of_length_le h2]
        rw [e3] at h'
        exact absurd h'.1 (by decide)
  · exact rfits_no p n hp hn w (by simpa using h)

/-- Labels of a text. -/
theorem labels_no (l : List UInt8) (hl : l.length < 4294967281) (a : Addr) (m : Int) (w : World) (hg : Gl w a m) (h : patOk l = false) :
    Calls Tryd.prog 21 #[.string (bs l)] w fun e w' => e = .returned (.slice none 0 0) ∧ Below w.heap.size w w' := by
  have H1 := Lib.hid (pat_any l hl a m w hg)
  rw [h] at H1
  clear hg h
  go_enter Tryd.func21, Tryd.ntmps21
  go_wp2_with (go_at_call 38; refine H1.out.mono ?_; rintro e w' ⟨rfl, hB⟩)
  go_ret
  exact ⟨rfl, hB⟩
theorem labels_yes (l : List UInt8) (hl : l.length < 4294967281) (a : Addr) (m : Int) (w : World) (hg : Gl w a m) (h : patOk l = true) :
    Calls Tryd.prog 21 #[.string (bs l)] w fun e w' => ∃ v, e = .returned v ∧ Tx w' w.heap.size v (spl l) ∧ Below w.heap.size w w' := by
  have H1 := Lib.hid (pat_any l hl a m w hg)
  have HG := Lib.hid hg
  have H2 := Lib.hid (fun w2 (hm : Gl w2 a m) => split_any l hl m w2 hm.mx)
  rw [h] at H1
  clear hg h
  go_enter Tryd.func21, Tryd.ntmps21
  go_wp2_with (first
    | (go_at_call 38; refine H1.out.mono ?_; rintro e w1 ⟨rfl, hB⟩)
    | (go_at_call 43; refine (H2.out _ (HG.out.below hB (Nat.le_refl _))).mono ?_; rintro e w2 ⟨rfl, rfl⟩))
  go_ret
  exact ⟨_, rfl, ⟨_, _, rfl, hB.size, by simp, fun k hk => (blk_new w1 (strs (spl l)) 9).cell k _ (strs_at _ k hk)⟩, hB.trans ((Below.refl _ _).alloc hB.size _)⟩
end Go.Proofs.YtfphfljndhideaaDoor
