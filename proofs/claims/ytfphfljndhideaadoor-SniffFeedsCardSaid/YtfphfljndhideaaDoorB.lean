/- Patterns: what each call comes to. -/
import Derived.Test.YtfphfljndhideaaDoorA
set_option linter.unusedVariables false
set_option linter.unusedSimpArgs false
namespace Go.Proofs.YtfphfljndhideaaDoor
open Go.RowKit Jw Lab

theorem cut_any (l : List UInt8) (w : World) :
    Calls Tryd.prog 40 #[.string (bs l)] w fun e w' => e = .returned (.tuple #[.string (bs (tl l)), .bool (wld l)]) ∧ w' = w := by
  have h : Calls Tryd.prog 48 #[.string (bs l), .string ⟨#[42, 46]⟩] w fun e w' => e = .returned (.tuple #[.string (bs (tl l)), .bool (wld l)]) ∧ w' = w := by
    have := Tryd.strings_CutPrefix (bs l) ⟨#[42, 46]⟩ w
    exact this
  have H := Lib.hid h
  clear h
  go_enter Tryd.func40, Tryd.ntmps40
  go_wp2_with (go_at_call 48; refine H.out.mono ?_; rintro e w' ⟨rfl, rfl⟩)
  go_ret2
  exact ⟨rfl, rfl⟩

theorem pat_any (l : List UInt8) (hl : l.length < 4294967281) (a : Addr) (m : Int) (w : World) (hg : Gl w a m) :
    Calls Tryd.prog 38 #[.string (bs l)] w fun e w' => e = .returned (.bool (patOk l)) ∧ Below w.heap.size w w' := by
  have hsz : (bs l).size = l.length := rfl
  have H1 := Lib.hid (cut_any l w)
  have H2 := Lib.hid (name_any (tl l) (Nat.lt_of_le_of_lt (tl_le l) hl) a m w hg)
  clear hg
  rcases Nat.lt_or_ge 63 l.length with h1 | h1
  · have hf : patOk l = false := by simp [patOk]; omega
    have h1' : decide ((l.length : Int) ≤ 63) = false := by simp; omega
    go_enter Tryd.func38, Tryd.ntmps38
    go_wp2_with (go_at_call 40; refine H1.out.mono ?_; rintro e w' ⟨rfl, rfl⟩)
    go_ret
    exact ⟨by first | rfl | (rw [hf]; rfl), Below.refl _ _⟩
  · have hf : patOk l = nmOk (tl l) := by simp [patOk, h1]
    have h1' : decide ((l.length : Int) ≤ 63) = true := by simp; omega
    have HF := Lib.hid hf
    clear hf
    go_enter Tryd.func38, Tryd.ntmps38
    go_wp2_with (first
      | (go_at_call 40; refine H1.out.mono ?_; rintro e w' ⟨rfl, rfl⟩)
      | (go_at_call 39; refine H2.out.mono ?_; rintro e w' ⟨rfl, hB⟩))
    go_ret
    exact ⟨by rw [HF.out]; rfl, hB⟩

/-- The error of a check. -/
def chk (b : Bool) (a : Addr) : Value := if b then .nilIface else .iface 83 (.pointer (some a))
theorem check_any (l : List UInt8) (hl : l.length < 4294967281) (a : Addr) (m : Int) (w : World) (hg : Gl w a m) :
    Calls Tryd.prog 19 #[.string (bs l)] w fun e w' => e = .returned (chk (patOk l) a) ∧ Below w.heap.size w w' := by
  have H1 := Lib.hid (pat_any l hl a m w hg)
  have HG := Lib.hid hg
  clear hg
  cases hb : patOk l with
  | true =>
    rw [hb] at H1
    clear hb
    go_enter Tryd.func19, Tryd.ntmps19
    go_wp2_with (go_at_call 38; refine H1.out.mono ?_; rintro e w' ⟨rfl, hB⟩)
    go_ret
    exact ⟨rfl, hB⟩
  | false =>
    rw [hb] at H1
    clear hb
    go_enter Tryd.func19, Tryd.ntmps19
    go_wp2_with (go_at_call 38; refine H1.out.mono ?_; rintro e w' ⟨rfl, hB⟩; have hn := (HG.out.below hB (Nat.le_refl _)).name)
    go_ret
    exact ⟨rfl, hB⟩
theorem named_any (l : List UInt8) (hl : l.length < 4294967281) (a : Addr) (m : Int) (w : World) (hg : Gl w a m) :
    Calls Tryd.prog 18 #[.string (bs l)] w fun e w' => e = .returned (chk (nmOk l) a) ∧ Below w.heap.size w w' := by
  have H1 := Lib.hid (name_any l hl a m w hg)
  have HG := Lib.hid hg
  clear hg
  cases hb : nmOk l with
  | true =>
    rw [hb] at H1
    clear hb
    go_enter Tryd.func18, Tryd.ntmps18
    go_wp2_with (go_at_call 39; refine H1.out.mono ?_; rintro e w' ⟨rfl, hB⟩)
    go_ret
    exact ⟨rfl, hB⟩
  | false =>
    rw [hb] at H1
    clear hb
    go_enter Tryd.func18, Tryd.ntmps18
    go_wp2_with (go_at_call 39; refine H1.out.mono ?_; rintro e w' ⟨rfl, hB⟩; have hn := (HG.out.below hB (Nat.le_refl _)).name)
    go_ret
    exact ⟨rfl, hB⟩

theorem fits_any (p n : List UInt8) (hp : p.length < 4294967281) (hn : n.length < 4294967281) (a : Addr) (m : Int) (w : World) (hg : Gl w a m) :
    Calls Tryd.prog 14 #[.string (bs p), .string (bs n)] w fun e w' => e = .returned (.bool (fits p n)) ∧ Below w.heap.size w w' := by
  have H1 := Lib.hid (pat_any p hp a m w hg)
  have H2 := Lib.hid (fun w2 (h : Gl w2 a m) => name_any n hn a m w2 h)
  have H3 := Lib.hid (fun w2 => cut_any p w2)
  have H4 := Lib.hid (fun w2 => (Tryd.strings_HasSuffix (bs n) (bs (46 :: tl p)) w2 (by rw [bs_size]; omega) : Calls Tryd.prog 41 #[.string (bs n), .string (bs (46 :: tl p))] w2 fun e w' => e = .returned (.bool ((46 :: tl p).isSuffixOf n)) ∧ w' = w2))
  have HG := Lib.hid hg
  have t1 : (bs p).toList = p := ByteArray.toList_mk p
  have t2 : (bs n).toList = n := ByteArray.toList_mk n
  have t3 : (⟨#[46]⟩ : ByteArray) ++ bs (tl p) = bs (46 :: tl p) := by
    apply ByteArray.ext
    simp [bs]
  clear hg
  cases hb : patOk p with
  | false =>
    have hf : fits p n = false := by simp [fits, hb]
    rw [hb] at H1
    clear hb H2 H3 H4
    go_enter Tryd.func14, Tryd.ntmps14
    go_wp2_with (go_at_call 38; refine H1.out.mono ?_; rintro e w' ⟨rfl, hB⟩)
    go_ret
    exact ⟨by first | rfl | (rw [hf]; rfl), hB⟩
  | true =>
    rw [hb] at H1
    cases hc : nmOk n with
    | false =>
      have hf : fits p n = false := by simp [fits, hc]
      rw [hc] at H2
      clear hb hc H3 H4
      go_enter Tryd.func14, Tryd.ntmps14
      go_wp2_with (first
        | (go_at_call 38; refine H1.out.mono ?_; rintro e w1 ⟨rfl, hB⟩)
        | (go_at_call 39; refine (H2.out _ (HG.out.below hB (Nat.le_refl _))).mono ?_; rintro e w2 ⟨rfl, hB2⟩))
      go_ret
      exact ⟨by first | rfl | (rw [hf]; rfl), hB.trans (hB2.mono hB.size)⟩
    | true =>
      rw [hc] at H2
      cases hw : wld p with
      | false =>
        have hf : fits p n = (p == n) := by simp [fits, hb, hc, hw]
        rw [hw] at H3
        have HF := Lib.hid hf
        clear hb hc hw hf H4
        go_enter Tryd.func14, Tryd.ntmps14
        go_wp2_with (first
          | (go_at_call 38; refine H1.out.mono ?_; rintro e w1 ⟨rfl, hB⟩)
          | (go_at_call 39; refine (H2.out _ (HG.out.below hB (Nat.le_refl _))).mono ?_; rintro e w2 ⟨rfl, hB2⟩)
          | (go_at_call 40; refine (H3.out _).mono ?_; rintro e w3 ⟨rfl, rfl⟩))
        go_ret
        exact ⟨by rw [HF.out]; rfl, hB.trans (hB2.mono hB.size)⟩
      | true =>
        have hf : fits p n = (46 :: tl p).isSuffixOf n := by simp [fits, hb, hc, hw]
        rw [hw] at H3
        have HF := Lib.hid hf
        have t4 : (bs (tl p)).size = (tl p).length := rfl
        have t5 : (tl p).length ≤ 4294967281 := by have := tl_le p; omega
        clear hb hc hw hf
        go_enter Tryd.func14, Tryd.ntmps14
        go_wp2_with (first
          | (go_at_call 38; refine H1.out.mono ?_; rintro e w1 ⟨rfl, hB⟩)
          | (go_at_call 39; refine (H2.out _ (HG.out.below hB (Nat.le_refl _))).mono ?_; rintro e w2 ⟨rfl, hB2⟩)
          | (go_at_call 40; refine (H3.out _).mono ?_; rintro e w3 ⟨rfl, rfl⟩)
          | (go_at_call 41; refine (H4.out _).mono ?_; rintro e w4 ⟨rfl, rfl⟩))
        go_ret
        exact ⟨by rw [HF.out]; rfl, hB.trans (hB2.mono hB.size)⟩
end Go.Proofs.YtfphfljndhideaaDoor
