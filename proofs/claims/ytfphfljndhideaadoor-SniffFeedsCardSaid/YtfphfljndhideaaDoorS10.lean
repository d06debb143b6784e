/- SniffNames: the walk. -/
import Derived.Test.YtfphfljndhideaaDoorAm
set_option linter.unusedVariables false
set_option linter.unusedSimpArgs false
namespace Go.Proofs.YtfphfljndhideaaDoor
open Go.RowKit Jw Lab

theorem fd_bad (s : List UInt8) : ∀ (pre y : List UInt8), (10 : UInt8) ∉ s → canB (pre ++ s ++ [10]) = false → ∃ k, fd pre (s ++ 10 :: y) = (k, 2, []) ∧ k ≤ s.length + 1 := by
  induction s with
  | nil =>
    intro pre y _ hc
    rw [List.append_nil] at hc
    have hS : tkS pre 10 = 2 := by rw [tkS, if_neg (by rw [hc]; simp)]
    have hL : tkL pre 10 = [] := by rw [tkL, if_neg (by rw [hc]; simp)]
    exact ⟨1, by rw [List.nil_append, fd, if_neg (by rw [hS]; decide), hS, hL], by simp⟩
  | cons c t ih =>
    intro pre y h10 hc
    have hne : c ≠ 10 := fun h => h10 (by simp [h])
    cases hb : canB (pre ++ [c]) with
    | false =>
      have hS : tkS pre c = 2 := by rw [tkS, if_neg (by rw [hb]; simp)]
      have hL : tkL pre c = [] := by rw [tkL, if_neg (by rw [hb]; simp)]
      exact ⟨1, by rw [List.cons_append, fd, if_neg (by rw [hS]; decide), hS, hL], by simp⟩
    | true =>
      have hS : tkS pre c = 0 := by rw [tkS, if_pos hb, if_neg hne]
      have hL : tkL pre c = pre ++ [c] := by rw [tkL, if_pos hb]
      obtain ⟨k, hk, hk2⟩ := ih (pre ++ [c]) y (fun h => h10 (by simp [h])) (by rw [show pre ++ [c] ++ t ++ [10] = pre ++ c :: t ++ [10] by simp]; exact hc)
      exact ⟨k + 1, by rw [List.cons_append, fd, if_pos hS, hL, hk], by simp; omega⟩
theorem fd_names (n more : List UInt8) (h10 : (10 : UInt8) ∉ n) : (nmOk n = true ∧ fd [] (lnOf n ++ more) = ((lnOf n).length, 1, lnOf n)) ∨ (nmOk n = false ∧ ∃ k, fd [] (lnOf n ++ more) = (k, 2, []) ∧ k ≤ (lnOf n).length) := by
  have hw : (10 : UInt8) ∉ word ++ n := fun hm => by
    rcases List.mem_append.1 hm with e | e
    · exact absurd e (by decide)
    · exact h10 e
  have hc := can_line n h10
  have e : lnOf n ++ more = (word ++ n) ++ 10 :: more := by simp [lnOf]
  have hl : (lnOf n).length = (word ++ n).length + 1 := by rw [lnOf, List.length_append]; rfl
  rw [e, hl]
  cases hn : nmOk n with
  | true => exact .inl ⟨rfl, fd_end (word ++ n) more hw (by rw [lnOf] at hc; rw [hc]; exact hn)⟩
  | false => exact .inr ⟨rfl, fd_bad (word ++ n) [] more hw (by rw [lnOf] at hc; rw [List.nil_append, hc]; exact hn)⟩

theorem namesLaw_no (n b : List UInt8) (v : Value) (w : World) (hr : Rb w v b) (a : Addr) (m : Int) (hg : Gl w a m) (h : 300 < n.length ∨ 300 < b.length) :
    Calls Tryd.prog 10 #[.string (bs n), v] w fun e w' => e = .returned (.bool true) ∧ Below w.heap.size w w' := by
  have s1 : (bs n).size = n.length := rfl
  obtain ⟨ao, cap, rfl, _⟩ := hr
  have HA := Lib.hid (alive17_any w a m hg)
  clear hg
  rcases Nat.lt_or_ge 300 n.length with h1 | h1
  · have q1 : decide (300 < (n.length : Int)) = true := by simp; omega
    clear h h1
    go_enter Tryd.func10, Tryd.ntmps10
    go_wp2_with (go_at_call 25; refine HA.out.mono ?_; rintro e w1 ⟨rfl, hB⟩)
    go_ret
    exact ⟨rfl, hB⟩
  have q1 : decide (300 < (n.length : Int)) = false := by simp; omega
  have q2 : decide (300 < (b.length : Int)) = true := by simp; omega
  clear h h1
  go_enter Tryd.func10, Tryd.ntmps10
  go_wp2_with (go_at_call 25; refine HA.out.mono ?_; rintro e w1 ⟨rfl, hB⟩)
  go_ret
  exact ⟨rfl, hB⟩

set_option maxHeartbeats 2000000 in
theorem namesLaw_yes (n b : List UInt8) (v : Value) (w : World) (hr : Rb w v b) (hno : ∀ n c, v = .slice none n c → n = 0 ∧ c = 0) (a : Addr) (m : Int) (hg : Gl w a m) (h1 : n.length ≤ 300) (h2 : b.length ≤ 300) :
    Calls Tryd.prog 10 #[.string (bs n), v] w fun e w' => e = .returned (.bool true) ∧ Below w.heap.size w w' := by
  have s1 : (bs n).size = n.length := rfl
  have HR := Lib.hid hr
  obtain ⟨ao, cap, rfl, _⟩ := hr
  have HNO := Lib.hid hno
  have HG := Lib.hid hg.gb
  have HA := Lib.hid (alive17_any w a m hg)
  have q1 : decide (300 < (n.length : Int)) = false := by simp; omega
  have q2 : decide (300 < (b.length : Int)) = false := by simp; omega
  have HN := Lib.hid (fun w2 (h2 : Gl w2 a m) => named_any n (by omega) a m w2 h2)
  have HI := Lib.hid (fun i h wx => bs_at n i h wx)
  have HQ := Lib.hid (fun wx => eq_same a wx)
  have H1 := Lib.hid h1
  have H2 := Lib.hid h2
  have s2 : n.length ≤ 4294967200 := by omega
  clear hg h1 h2 hno
  go_enter Tryd.func10, Tryd.ntmps10
  go_upto_region 6 with (go_at_call 25; refine HA.out.mono ?_; rintro e w1 ⟨rfl, hB1⟩)
  clear q1 q2 HA
  go_loopw [5, 24] (fun _ i wr => ∃ (k : Nat), k ≤ n.length ∧ i = n64 k ∧ (∀ j, j < k → n.getD j 0 ≠ 10) ∧ wr = w1) (fun _ i _ => n.length - (intOf i).toNat)
  case atStart => exact ⟨0, by omega, rfl, fun j h => by omega, rfl⟩
  case round =>
    obtain ⟨k, hk, rfl, hall, rfl⟩ := hrel
    have HJ := Lib.hid hall
    clear hall
    by_cases hlk : k < n.length
    · have hix := HI.out k hlk wr
      obtain ⟨c, hc⟩ : ∃ c, c = n.getD k 0 := ⟨_, rfl⟩
      rw [← hc] at hix
      have ck : ((k : Int) + 1) ≤ 4294967290 := by omega
      have HC := Lib.hid hc
      clear hc
      by_cases h10 : c = 10
      · have q : ((c.toNat : Int) == 10) = true := by rw [h10]; rfl
        clear h10
        go_wp2
        go_ret
        exact ⟨rfl, hB1⟩
      · have q : ((c.toNat : Int) == 10) = false := by
          rw [beq_eq_false_iff_ne]
          intro e
          exact h10 (UInt8.toNat_inj.1 (by show c.toNat = 10; omega))
        have HT := Lib.hid h10
        clear h10
        go_wp2
        go_roundw
        case rel =>
          refine ⟨k + 1, by omega, by go_num, fun j hj => ?_, trivial⟩
          rcases Nat.lt_or_ge j k with h | h
          · exact HJ.out j h
          · rw [show j = k by omega, ← HC.out]; exact HT.out
        case measure => simp [intOf]; omega
    · obtain rfl : k = n.length := by omega
      have h10 : (10 : UInt8) ∉ n := fun hm => by
        obtain ⟨j, hj, e⟩ := List.getElem_of_mem hm
        have := HJ.out j hj
        rw [List.getD_eq_getElem?_getD, List.getElem?_eq_getElem hj] at this
        exact this e
      have hcs := fd_names n b h10
      have hnam := ln_name n
      have hln := ln_len n
      have c1 : (⟨#[116, 111, 32]⟩ : ByteArray) ++ bs n = bs (word ++ n) := bs_cat2 word n
      have c2 : bs (word ++ n) ++ (⟨#[10]⟩ : ByteArray) = bs (lnOf n) := bs_cat2 (word ++ n) [10]
      have s3 : (bs (word ++ n)).size = n.length + 3 := by rw [bs_size]; simp [word]
      obtain ⟨l, hl⟩ : ∃ l, l = lnOf n := ⟨_, rfl⟩
      rw [← hl] at hcs hnam hln c2
      have HCS := Lib.hid hcs
      have HNA := Lib.hid hnam
      have HLN := Lib.hid hln
      have hg1 := HG.out.below hB1
      have hr1 := HR.out.below hB1 (Nat.le_refl _)
      obtain ⟨w6, hw6⟩ : ∃ w6, w6 = wr.alloc (.cells #[n64 0, .slice none 0 0] 63) := ⟨_, rfl⟩
      have sn6 := new_sn w.heap.size wr hB1.size
      have hB6 := hB1.alloc hB1.size (.cells #[n64 0, .slice none 0 0] 63)
      have e56 : w6.heap.size = wr.heap.size + 1 := by rw [hw6]; simp
      have hr6 := hr1.below ((Below.refl wr.heap.size wr).alloc (Nat.le_refl _) (.cells #[n64 0, .slice none 0 0] 63)) (Nat.le_refl _)
      rw [← hw6] at sn6 hB6 hr6
      have b67 := conv_below l w6
      have hcv := conv_run l w6
      have mk7 := conv_mk l w6
      obtain ⟨w7, hw7⟩ : ∃ w7, w7 = Lib.bytesWorld w6 5 (bs l) := ⟨_, rfl⟩
      rw [← hw7] at b67 hcv mk7
      have hr7 := hr6.below b67 (Nat.le_refl _)
      have sn7 := sn6.below b67 (Nat.le_refl _)
      have HR7 := Lib.hid hr7
      have HM7 := Lib.hid mk7
      have HS7 := Lib.hid sn7
      have HB6 := Lib.hid hB6
      have HB67 := Lib.hid b67
      have HW6 := Lib.hid hw6
      have HE := Lib.hid e56
      have HB1 := Lib.hid hB1
      clear hlk hcs hnam hln hl h10 hg1 hr1 hr6 hr7 sn6 sn7 mk7 hB6 b67 hw6 hw7 e56 HJ hB1
      go_upto_region 13 with (go_at_call 27; refine (new_any _).mono ?_; rintro e w6 ⟨rfl, rfl⟩)
      rw [← HW6.out]
      go_wp2_with (at_builtin; refine wp_app_mark rfl (.tmp 39) (.tmp 40) rfl rfl w7 w6.heap.size _ l b HM7.out rfl _ rfl HR7.out HNO.out ?c1 ?_)
      case c1 => have := HLN.out; have := H1.out; have := H2.out; omega
      intro v' w8 hr8 hgr hblk
      have b7 : Below w.heap.size w w7 := HB6.out.trans (HB67.out.mono HB6.out.size)
      have b78 : Below w.heap.size w7 w8 := ⟨hgr.os, hgr.tape, hgr.output, hgr.size, fun k hk => hgr.block k (by have := b7.size; omega) (fun e => by
        injection e with e
        have := HB6.out.size
        omega)⟩
      have b8 := b7.trans b78
      have sn8 : Sn w.heap.size wr.heap.size 0 [] (.slice none 0 0) w8 := HS7.out.same (hgr.block _ (by have := HB67.out.size; have := HE.out; omega) (fun e => by
        injection e with e
        have := HE.out
        omega)) (fun g e => by simp [Value.ownBlock] at e)
      have hg8 := HG.out.below b8
      have hf := feed_any w.heap.size wr.heap.size [] (l ++ b) (.slice none 0 0) v' w8 sn8 a m hg8 (by have := HLN.out; have := H1.out; have := H2.out; simp; omega) hr8 (fun ad n c e => ⟨by
        have h3 := hblk ad n c e
        have := HE.out
        have := HB67.out.size
        omega, (fun e => by cases e)⟩)
      have hm1 := hg8.sz
      have he1 : errv a 1 = .nilIface := rfl
      have he2 : errv a 2 = er a := rfl
      have hk1 := show chk false a = er a from rfl
      have hk2 := show chk true a = .nilIface from rfl
      have t2 : (bs n).toList = n := ByteArray.toList_mk n
      have s5 : (bs l).size = l.length := rfl
      have qn : (n == n) = true := by simp
      have HB8 := Lib.hid b8
      have HG8 := Lib.hid hg8
      have hFin : ∀ w9 w10 : World, Fs wr.heap.size none w8 w9 → Below w9.heap.size w9 w10 → Below w.heap.size w w10 := fun w9 w10 h1 h2 => by
        have h3 := HB8.out.trans (h1.below HB1.out.size (fun k e => by cases e) hm1)
        exact h3.trans (h2.mono h3.size)
      have HFin := Lib.hid hFin
      have HG9 := Lib.hid (fun w9 (h1 : Fs wr.heap.size none w8 w9) => HG8.out.below (h1.below HB1.out.size (fun k e => by cases e) hm1))
      clear sn8 hg8 hr8 b78 b7 b8 hgr hblk hFin
      rcases HCS.out with ⟨hn, hfd⟩ | ⟨hn, k, hfd, hkl⟩
      · rw [hfd] at hf
        have HF := Lib.hid hf
        rw [hn] at HN
        have HL5 := Lib.hid (show 5 ≤ l.length by
          have := HLN.out
          rcases Nat.eq_zero_or_pos n.length with e | e
          · rw [List.eq_nil_of_length_eq_zero e, nmOk_nil] at hn; exact absurd hn (by simp)
          · omega)
        have ql : ((l.length : Int) == (l.length : Int)) = true := by simp
        clear hf hfd hn
        go_wp2_with (first
          | (go_at_call 28; refine HF.out.mono ?_; rintro e w9 ⟨rfl, lv9, hs9, hf9, ho9⟩; have hn9 := name_yes hs9 HL5.out (by have := HLN.out; have := H1.out; omega); rw [HNA.out] at hn9; have HN9 := Lib.hid hn9; clear hn9; have hg9 := HG9.out w9 hf9)
          | (go_at_call 29; refine HN9.out.mono ?_; rintro e w10 ⟨rfl, hB10⟩; have hg10 := hg9.below (hB10.mono hg9.sz))
          | (go_at_call 18; refine (HN.out _ hg10.gl).mono ?_; rintro e w11 ⟨rfl, hB11⟩))
        go_ret
        exact ⟨rfl, HFin.out w9 w11 hf9 (hB10.trans (hB11.mono hB10.size))⟩
      · rw [hfd] at hf
        have HF := Lib.hid hf
        rw [hn] at HN
        have hqq := fun wx => HQ.out wx
        have hkl' : (k : Int) ≤ (l.length : Int) := by omega
        have qk : decide (k ≤ l.length) = true := by simpa using hkl
        have qk2 : decide ((k : Int) ≤ (l.length : Int)) = true := decide_eq_true hkl'
        clear hf hfd hn hkl hkl' qk2
        go_wp2_with (first
          | (go_at_call 28; refine HF.out.mono ?_; rintro e w9 ⟨rfl, lv9, hs9, hf9, ho9⟩; have HN9 := Lib.hid (name_no hs9 (.inr rfl)); have HBD := Lib.hid hs9; have hg9 := HG9.out w9 hf9)
          | (go_at_call 29; refine HN9.out.mono ?_; rintro e w10 ⟨rfl, rfl⟩)
          | (go_at_call 18; refine (HN.out _ hg9.gl).mono ?_; rintro e w11 ⟨rfl, hB11⟩; have hn11 := (hg9.below (hB11.mono hg9.sz)).gl.name; have HBX := Lib.hid (bad_any (HBD.out.below hB11 (Nat.le_refl _)) (.inr (.inr rfl))))
          | (go_at_call 30; refine HBX.out.mono ?_; rintro e w12 ⟨rfl, rfl⟩))
        go_ret
        exact ⟨rfl, HFin.out _ _ hf9 hB11⟩

theorem namesLaw_walk (n b : List UInt8) (v : Value) (w : World) (hr : Rb w v b) (hno : ∀ n c, v = .slice none n c → n = 0 ∧ c = 0) (a : Addr) (m : Int) (hg : Gl w a m) :
    Calls Tryd.prog 10 #[.string (bs n), v] w fun e w' => e = .returned (.bool true) ∧ Below w.heap.size w w' := by
  by_cases h : 300 < n.length ∨ 300 < b.length
  · exact namesLaw_no n b v w hr a m hg h
  · exact namesLaw_yes n b v w hr hno a m hg (Nat.le_of_not_lt fun e => h (.inl e)) (Nat.le_of_not_lt fun e => h (.inr e))
end Go.Proofs.YtfphfljndhideaaDoor
