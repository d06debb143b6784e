/- SniffCan: the walk. -/
import Derived.Test.YtfphfljndhideaaDoorS8
set_option linter.unusedVariables false
set_option linter.unusedSimpArgs false
namespace Go.Proofs.YtfphfljndhideaaDoor
open Go.RowKit Jw Lab

theorem canLaw_no (b n : List UInt8) (v : Value) (w : World) (hr : Rb w v b) (a : Addr) (m : Int) (hg : Gl w a m) (h : 2000 < b.length ∨ 2000 < n.length) :
    Calls Tryd.prog 12 #[v, .string (bs n)] w fun e w' => e = .returned (.bool true) ∧ Below w.heap.size w w' := by
  have s1 : (bs n).size = n.length := rfl
  obtain ⟨ao, cap, rfl, _⟩ := hr
  have HA := Lib.hid (alive17_any w a m hg)
  clear hg
  rcases Nat.lt_or_ge 2000 b.length with h1 | h1
  · have q1 : decide (2000 < (b.length : Int)) = true := by simp; omega
    clear h h1
    go_enter Tryd.func12, Tryd.ntmps12
    go_wp2_with (go_at_call 25; refine HA.out.mono ?_; rintro e w1 ⟨rfl, hB⟩)
    go_ret
    exact ⟨rfl, hB⟩
  have q1 : decide (2000 < (b.length : Int)) = false := by simp; omega
  have q2 : decide (2000 < (n.length : Int)) = true := by simp; omega
  clear h h1
  go_enter Tryd.func12, Tryd.ntmps12
  go_wp2_with (go_at_call 25; refine HA.out.mono ?_; rintro e w1 ⟨rfl, hB⟩)
  go_ret
  exact ⟨rfl, hB⟩

set_option maxHeartbeats 2000000 in
theorem canLaw_yes (b n : List UInt8) (v : Value) (w : World) (hr : Rb w v b) (a : Addr) (m : Int) (hg : Gl w a m) (h1 : b.length ≤ 2000) (h2 : n.length ≤ 2000) :
    Calls Tryd.prog 12 #[v, .string (bs n)] w fun e w' => e = .returned (.bool true) ∧ Below w.heap.size w w' := by
  have s1 : (bs n).size = n.length := rfl
  have HR := Lib.hid hr
  obtain ⟨ao, cap, rfl, _⟩ := hr
  have HG := Lib.hid hg.gb
  have HA := Lib.hid (alive17_any w a m hg)
  have q1 : decide (2000 < (b.length : Int)) = false := by simp; omega
  have q2 : decide (2000 < (n.length : Int)) = false := by simp; omega
  have HC := Lib.hid (fun w2 (h2 : Gl w2 a m) (hr : Rb w2 (.slice ao b.length cap) b) => can_any b (by omega) _ a m w2 h2 hr)
  have HW := Lib.hid (fun w2 (hr : Rb w2 (.slice ao b.length cap) b) => rwalk_any b (by omega) _ w2 hr)
  have HL := Lib.hid (fun w2 (h2 : Gl w2 a m) => line_any n (by omega) a m w2 h2)
  have HRL := Lib.hid (fun w2 => rline_any n (by omega) w2)
  have hlaw := wlk_can b
  have hk1 := show chk false a = er a from rfl
  have hk2 := show chk true a = .nilIface from rfl
  have HQ := Lib.hid (fun wx => eq_same a wx)
  have hfin : ∀ w1 w2 w3 w4 : World, Below w.heap.size w w1 → Below w1.heap.size w1 w2 → Below w2.heap.size w2 w3 → Below w3.heap.size w3 w4 → Below w.heap.size w w4 := fun w1 w2 w3 w4 b1 b2 b3 b4 => by
    have h2 := b1.trans (b2.mono b1.size)
    have h3 := h2.trans (b3.mono h2.size)
    exact h3.trans (b4.mono h3.size)
  have HFin := Lib.hid hfin
  obtain ⟨r1, r2, hw⟩ : ∃ r1 r2, wlk [] b = (r1, r2) := ⟨_, _, rfl⟩
  rw [hw] at HW hlaw
  have hln := ln_len n
  have hN := Lib.hid h2
  obtain ⟨cb, hcb⟩ : ∃ c, c = canB b := ⟨_, rfl⟩
  rw [← hcb] at HC hlaw
  have hcase : ∃ q, ((r1 : Int) == (b.length : Int)) = q ∧ cb = (r2 || q) := by
    refine ⟨_, rfl, hlaw.trans ?_⟩
    congr 1
    rw [Bool.eq_iff_iff, decide_eq_true_eq, beq_iff_eq]
    show r1 = b.length ↔ _
    omega
  obtain ⟨q, hq, rfl⟩ := hcase
  have hnm : nmOk n = true → fd [] (lnOf n) = (n.length + 4, 1, lnOf n) ∧ n.length ≤ 63 ∧ 1 ≤ n.length := fun h => ⟨fd_line n h, nmOk_le h, by
    rcases Nat.eq_zero_or_pos n.length with e | e
    · rw [List.eq_nil_of_length_eq_zero e, nmOk_nil] at h; exact absurd h (by simp)
    · exact e⟩
  have HNM := Lib.hid hnm
  clear hg h1 h2 hw hlaw hcb hfin hnm
  cases hb : nmOk n with
  | false =>
    rw [hb] at HL HRL
    clear hb HNM
    have hqq := fun wx => HQ.out wx
    cases r2
    all_goals
      cases q
      all_goals
        go_enter Tryd.func12, Tryd.ntmps12
        go_wp2_with (first
          | (go_at_call 25; refine HA.out.mono ?_; rintro e w1 ⟨rfl, hB1⟩; have hg1 := (HG.out.below hB1); have hr1 := HR.out.below hB1 (Nat.le_refl _))
          | (go_at_call 32; refine (HW.out _ hr1).mono ?_; rintro e w2 ⟨rfl, rfl⟩)
          | (go_at_call 26; refine (HC.out _ hg1.gl hr1).mono ?_; rintro e w3 ⟨rfl, hB3⟩; have hg3 := hg1.below (hB3.mono hg1.sz))
          | (go_at_call 36; refine (HL.out _ hg3.gl).mono ?_; rintro e w4 ⟨rfl, hB4⟩; have hg4 := hg3.below (hB4.mono hg3.sz))
          | (go_at_call 37; refine (HRL.out _).mono ?_; rintro e w5 ⟨rfl, hB5⟩; have hn5 := (hg4.below (hB5.mono hg4.sz)).gl.name))
        go_ret
        exact ⟨rfl, HFin.out _ _ _ _ hB1 hB3 hB4 hB5⟩
  | true =>
    rw [hb, if_pos rfl] at HL
    rw [hb] at HRL
    obtain ⟨hfd, h63, h64⟩ := HNM.out hb
    obtain ⟨l, hl⟩ : ∃ l, l = lnOf n := ⟨_, rfl⟩
    have hnam := ln_name n
    rw [← hl] at HL HRL hfd hnam hln
    have s2 : (bs l).size = l.length := rfl
    have HFD := Lib.hid hfd
    have HNA := Lib.hid hnam
    have HLN := Lib.hid hln
    have H63 := Lib.hid h63
    have H64 := Lib.hid h64
    clear hb HNM hfd h63 h64 hl hnam hln
    cases r2
    all_goals
      cases q
      all_goals
        go_enter Tryd.func12, Tryd.ntmps12
        go_upto_region 14 with (first
          | (go_at_call 25; refine HA.out.mono ?_; rintro e w1 ⟨rfl, hB1⟩; have hg1 := (HG.out.below hB1); have hr1 := HR.out.below hB1 (Nat.le_refl _))
          | (go_at_call 32; refine (HW.out _ hr1).mono ?_; rintro e w2 ⟨rfl, rfl⟩)
          | (go_at_call 26; refine (HC.out _ hg1.gl hr1).mono ?_; rintro e w3 ⟨rfl, hB3⟩; have hg3 := hg1.below (hB3.mono hg1.sz))
          | (go_at_call 36; refine (HL.out _ hg3.gl).mono ?_; rintro e w4 ⟨rfl, hB4⟩; have hg4 := hg3.below (hB4.mono hg3.sz))
          | (go_at_call 37; refine (HRL.out _).mono ?_; rintro e w5 ⟨rfl, hB5⟩))
        have hB6 := HFin.out _ _ _ _ hB1 hB3 hB4 hB5
        clear hB1 hB3 hB4 hB5 hg1 hg3 hg4 hr1
        go_upto_region 15 with (go_at_call 27; refine (new_any _).mono ?_; rintro e w6 ⟨rfl, rfl⟩)
        obtain ⟨w6, hw6⟩ : ∃ w6, w6 = w5.alloc (.cells #[n64 0, .slice none 0 0] 63) := ⟨_, rfl⟩
        rw [← hw6]
        have sn6 := new_sn w.heap.size w5 hB6.size
        have hB7 := hB6.alloc hB6.size (.cells #[n64 0, .slice none 0 0] 63)
        have e56 : w6.heap.size = w5.heap.size + 1 := by rw [hw6]; simp
        rw [← hw6] at sn6 hB7
        have b67 := conv_below l w6
        have r67 := conv_rb l w6 (grownCap w6 l.length 0 5)
        have hcv := conv_run l w6
        obtain ⟨w7, hw7⟩ : ∃ w7, w7 = Lib.bytesWorld w6 5 (bs l) := ⟨_, rfl⟩
        rw [← hw7] at b67 r67 hcv
        have hB8 := hB7.trans (b67.mono hB7.size)
        have hg7 := HG.out.below hB8
        have hll : l.length ≤ 67 := by have := HLN.out; have := H63.out; omega
        have hf := feed_any w.heap.size w5.heap.size [] l (.slice none 0 0) _ w7 (sn6.below b67 (Nat.le_refl _)) a m hg7 (by simp; omega) r67 (fun ad n c e => by
          injection e with e1
          injection e1 with e1
          subst e1
          exact ⟨by show w6.heap.size ≠ w5.heap.size; omega, (fun e => by cases e)⟩)
        rw [HFD.out] at hf
        have HF := Lib.hid hf
        have e1 : ((n.length + 4 : Nat) : Int) = (l.length : Int) := by have := HLN.out; omega
        have ql : ((l.length : Int) == (l.length : Int)) = true := by simp
        have ql2 : decide ((l.length : Int) ≤ 128) = true := by simp; omega
        have he : errv a 1 = .nilIface := rfl
        have hm1 := hg7.sz
        have t1 : (bs l).toList = l := ByteArray.toList_mk l
        have t2 : (bs n).toList = n := ByteArray.toList_mk n
        have qn : (n == n) = true := by simp
        have ql3 : (l == l) = true := by simp
        clear hf r67 hw6 hw7 sn6 hB7 hg7 e56 hll b67
        go_wp2_with (first
          | (go_at_call 28; refine HF.out.mono ?_; rintro e w8 ⟨rfl, lv8, hs8, hf8, ho8⟩; have hn8 := name_yes hs8 (by have := HLN.out; have := H64.out; omega) (by have := HLN.out; have := H63.out; omega); rw [HNA.out] at hn8; have HN8 := Lib.hid hn8; clear hn8)
          | (go_at_call 29; refine HN8.out.mono ?_; rintro e w9 ⟨rfl, hB9⟩))
        go_ret
        have hB9' := hB8.trans (hf8.below hB6.size (fun k e => by cases e) hm1)
        exact ⟨rfl, hB9'.trans (hB9.mono hB9'.size)⟩

theorem canLaw_walk (b n : List UInt8) (v : Value) (w : World) (hr : Rb w v b) (a : Addr) (m : Int) (hg : Gl w a m) :
    Calls Tryd.prog 12 #[v, .string (bs n)] w fun e w' => e = .returned (.bool true) ∧ Below w.heap.size w w' := by
  by_cases h : 2000 < b.length ∨ 2000 < n.length
  · exact canLaw_no b n v w hr a m hg h
  · exact canLaw_yes b n v w hr a m hg (Nat.le_of_not_lt fun e => h (.inl e)) (Nat.le_of_not_lt fun e => h (.inr e))
end Go.Proofs.YtfphfljndhideaaDoor
