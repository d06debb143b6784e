/- Whole lines: the plain law; a text made bytes; Line, the reference's Line. -/
import Derived.Test.YtfphfljndhideaaDoorS7
import Derived.Lib.ConvBytes
set_option linter.unusedVariables false
set_option linter.unusedSimpArgs false
namespace Go.Proofs.YtfphfljndhideaaDoor
open Go.RowKit Jw Lab

theorem mem_spl (s : List UInt8) (c : UInt8) (hc : c ∈ s) (h46 : c ≠ 46) : ∃ l ∈ spl s, c ∈ l := by
  induction s with
  | nil => cases hc
  | cons d t ih =>
    unfold spl
    by_cases hd : d = 46
    · rw [if_pos hd]
      rcases List.mem_cons.1 hc with e | e
      · exact absurd (e.trans hd) h46
      · obtain ⟨l, hl, hm⟩ := ih e
        exact ⟨l, by simp [hl], hm⟩
    · rw [if_neg hd]
      obtain ⟨a, r, e⟩ := spl_form t
      rw [e] at ih ⊢
      simp only [List.headD_cons, List.tail_cons]
      rcases List.mem_cons.1 hc with e | e
      · exact ⟨d :: a, by simp, by simp [e]⟩
      · obtain ⟨l, hl, hm⟩ := ih e
        rcases List.mem_cons.1 hl with rfl | hl
        · exact ⟨d :: l, by simp, by simp [hm]⟩
        · exact ⟨l, by simp [hl], hm⟩
theorem nm_no10 {s : List UInt8} (h : nmOk s = true) : (10 : UInt8) ∉ s := by
  intro hm
  obtain ⟨l, hl, hc⟩ := mem_spl s 10 hm (by decide)
  rw [nmOk, Bool.and_eq_true] at h
  have := ((labOk_def l).1 (List.all_eq_true.1 h.2 l hl)).2.2.2.2 10 hc
  exact absurd this (by decide)
/-- The line of a name. -/
def lnOf (n : List UInt8) : List UInt8 := word ++ n ++ [10]
theorem can_word (n : List UInt8) (h : (10 : UInt8) ∉ n) : canB (word ++ n) = beg n := by
  have hw : (10 : UInt8) ∉ word ++ n := fun hm => by
    rcases List.mem_append.1 hm with e | e
    · exact absurd e (by decide)
    · exact h e
  rw [can_no _ hw, if_neg (by simp [word])]
  have : word.isPrefixOf (word ++ n) = true := List.isPrefixOf_iff_prefix.2 (List.prefix_append _ _)
  rw [this, Bool.true_and]
  rfl
theorem can_line (n : List UInt8) (h : (10 : UInt8) ∉ n) : canB (lnOf n) = nmOk n := by
  have hw : (10 : UInt8) ∉ word ++ n := fun hm => by
    rcases List.mem_append.1 hm with e | e
    · exact absurd e (by decide)
    · exact h e
  rw [lnOf, can_end _ hw, can_word n h, nm_beg, endOk, decide_eq_true (by simp [word]), Bool.true_and, Bool.and_assoc]
  rfl
theorem fd_go (r : List UInt8) : ∀ (pre y : List UInt8), (10 : UInt8) ∉ pre ++ r → canB (pre ++ r) = true → fd pre (r ++ y) = ((fd (pre ++ r) y).1 + r.length, (fd (pre ++ r) y).2) := by
  induction r with
  | nil => intro pre y _ _; simp
  | cons c r ih =>
    intro pre y h10 hc
    have e : pre ++ c :: r = (pre ++ [c]) ++ r := by simp
    have hc1 : canB (pre ++ [c]) = true := by rw [e] at hc; exact can_pre _ _ hc
    have hne : c ≠ 10 := fun h => h10 (by simp [h])
    have hS : tkS pre c = 0 := by rw [tkS, if_pos hc1, if_neg hne]
    have hL : tkL pre c = pre ++ [c] := by rw [tkL, if_pos hc1]
    rw [e] at h10 hc ⊢
    rw [List.cons_append, fd, if_pos hS, hL, ih (pre ++ [c]) y h10 hc]
    simp
    omega
/-- A line that ends. -/
theorem fd_end (x y : List UInt8) (h10 : (10 : UInt8) ∉ x) (hc : canB (x ++ [10]) = true) : fd [] (x ++ 10 :: y) = (x.length + 1, 1, x ++ [10]) := by
  have h := fd_go x [] (10 :: y) (by simpa using h10) (by simpa using can_step x 10 hc)
  rw [List.nil_append] at h
  have hS : tkS x 10 = 1 := by rw [tkS, if_pos hc]; rfl
  have hL : tkL x 10 = x ++ [10] := by rw [tkL, if_pos hc]
  rw [h, fd, if_neg (by rw [hS]; decide), hS, hL]
  exact Prod.ext (Nat.add_comm 1 x.length) rfl
theorem fd_line (n : List UInt8) (h : nmOk n = true) : fd [] (lnOf n) = (n.length + 4, 1, lnOf n) := by
  have h10 := nm_no10 h
  have hw : (10 : UInt8) ∉ word ++ n := fun hm => by
    rcases List.mem_append.1 hm with e | e
    · exact absurd e (by decide)
    · exact h10 e
  have := fd_end (word ++ n) [] hw (by have := can_line n h10; rw [lnOf] at this; rw [this]; exact h)
  rw [lnOf, this]
  simp [word]
theorem ln_len (n : List UInt8) : (lnOf n).length = n.length + 4 := by simp [lnOf, word]
theorem ln_name (n : List UInt8) : ((lnOf n).drop 3).take ((lnOf n).length - 4) = n := by
  have e : (lnOf n).drop 3 = n ++ [10] := by rw [lnOf, List.append_assoc]; rfl
  rw [ln_len, e]
  simp

/-- A text made bytes. -/
theorem conv_run (l : List UInt8) (w : World) : (convert 9 37 (.string (bs l))).run Tryd.prog w = .ok (.slice (some ⟨w.heap.size, 0, none⟩) l.length (grownCap w l.length 0 5)) (Lib.bytesWorld w 5 (bs l)) :=
  Lib.run_convert_string_bytes w 9 37 5 (bs l) Tryd.underlying9 Tryd.underlying37 Tryd.underlying5
theorem conv_below (l : List UInt8) (w : World) : Below w.heap.size w (Lib.bytesWorld w 5 (bs l)) := by
  refine ⟨?_, ?_, ?_, by rw [Lib.bytesWorld_size]; omega, fun k hk => Lib.bytesWorld_at_old w 5 (bs l) k hk⟩
  all_goals
    simp [Lib.bytesWorld, World.freeze]
    try rfl
theorem conv_rb (l : List UInt8) (w : World) (cap : Nat) : Rb (Lib.bytesWorld w 5 (bs l)) (.slice (some ⟨w.heap.size, 0, none⟩) l.length cap) l :=
  ⟨_, cap, rfl, fun _ => ⟨w.heap.size, 0, rfl, by rw [Lib.bytesWorld_size]; omega, fun k hk => by rw [Nat.zero_add]; exact Lib.bytesWorld_cell w 5 (bs l) k hk⟩⟩

theorem line_any (n : List UInt8) (hn : n.length < 4294967200) (a : Addr) (m : Int) (w : World) (hg : Gl w a m) :
    Calls Tryd.prog 36 #[.string (bs n)] w fun e w' => e = .returned (.tuple #[.string (if nmOk n then bs (lnOf n) else ⟨#[]⟩), chk (nmOk n) a]) ∧ Below w.heap.size w w' := by
  have H1 := Lib.hid (named_any n (by omega) a m w hg)
  have s1 : (bs n).size = n.length := rfl
  have s2 : n.length ≤ 4294967200 := by omega
  have c1 : (⟨#[116, 111, 32]⟩ : ByteArray) ++ bs n = bs (word ++ n) := bs_cat2 word n
  have c2 : bs (word ++ n) ++ (⟨#[10]⟩ : ByteArray) = bs (lnOf n) := bs_cat2 (word ++ n) [10]
  have s3 : (bs (word ++ n)).size = n.length + 3 := by rw [bs_size]; simp [word]
  have hk1 := show chk false a = er a from rfl
  have hk2 := show chk true a = .nilIface from rfl
  clear hg
  cases hb : nmOk n
  all_goals
    rw [hb] at H1
    clear hb
    go_enter Tryd.func36, Tryd.ntmps36
    go_wp2_with (go_at_call 18; refine H1.out.mono ?_; rintro e w' ⟨rfl, hB⟩)
    go_ret2
    exact ⟨rfl, hB⟩
theorem rline_any (n : List UInt8) (hn : n.length < 4294967200) (w : World) :
    Calls Tryd.prog 37 #[.string (bs n)] w fun e w' => e = .returned (.tuple #[.string (bs (lnOf n)), .bool (nmOk n)]) ∧ Below w.heap.size w w' := by
  have H1 := Lib.hid (rname_any n (by omega) w)
  have s1 : (bs n).size = n.length := rfl
  have s2 : n.length ≤ 4294967200 := by omega
  have c1 : (⟨#[116, 111, 32]⟩ : ByteArray) ++ bs n = bs (word ++ n) := bs_cat2 word n
  have c2 : bs (word ++ n) ++ (⟨#[10]⟩ : ByteArray) = bs (lnOf n) := bs_cat2 (word ++ n) [10]
  have s3 : (bs (word ++ n)).size = n.length + 3 := by rw [bs_size]; simp [word]
  go_enter Tryd.func37, Tryd.ntmps37
  go_wp2_with (go_at_call 22; refine H1.out.mono ?_; rintro e w' ⟨rfl, hB⟩)
  go_ret2
  exact ⟨rfl, hB⟩
end Go.Proofs.YtfphfljndhideaaDoor
