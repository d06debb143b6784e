/- Under, in plain Lean, and the statements of the chapter about patterns. -/
import Derived.Test.YtfphfljndhideaaDoorJ
set_option linter.unusedVariables false
set_option linter.unusedSimpArgs false
namespace Go.Proofs.YtfphfljndhideaaDoor
open Go.RowKit Jw Lab

/-- Can a name have no label more ahead of it? -/
def full (l : List UInt8) : Bool := decide (8 ≤ l.count 46 + 1)
def undr (a b : List UInt8) : Bool := patOk a && patOk b && (if wld a && full (tl a) then true else if !wld b then a == b else if wld a && (tl a == tl b) then true else (46 :: tl b).isSuffixOf (tl a))

theorem wld_form {p : List UInt8} (h : wld p = true) : p = 42 :: 46 :: tl p := by
  rw [tl, if_pos h]
  have := List.take_append_drop 2 p
  rw [(wld_iff p).1 h] at this
  exact this.symm
theorem nmOk_plain {n : List UInt8} (h : nmOk n = true) : wld n = false := by
  rw [Bool.eq_false_iff]
  intro hw
  rw [wld_form hw] at h
  simp [nmOk, spl] at h
  exact absurd h.2.1 (by decide)
theorem patOk_of_name {n : List UInt8} (h : nmOk n = true) : patOk n = true := by
  rw [patOk, tl, if_neg (by rw [nmOk_plain h]; simp), h]
  simp [nmOk_le h]
theorem fits_wild {p : List UInt8} (n : List UInt8) (h : wld p = true) : fits p n = (patOk p && nmOk n && (46 :: tl p).isSuffixOf n) := by rw [fits, if_pos h]
theorem fits_flat {p : List UInt8} (n : List UInt8) (h : wld p = false) : fits p n = (patOk p && nmOk n && p == n) := by rw [fits, if_neg (by rw [h]; simp)]
theorem fits_self {n : List UInt8} (h : nmOk n = true) : fits n n = true := by
  rw [fits_flat n (nmOk_plain h), patOk_of_name h, h]
  simp
theorem suffix_pair {a b n : List UInt8} (ha : (46 :: a).isSuffixOf n = true) (hb : (46 :: b).isSuffixOf n = true) : (46 :: b).isSuffixOf a = decide (b.length < a.length) := by
  rw [List.isSuffixOf_iff_suffix] at ha hb
  rw [Bool.eq_iff_iff, List.isSuffixOf_iff_suffix, decide_eq_true_eq]
  constructor
  · intro h
    have := h.length_le
    simp at this
    omega
  · intro h
    have h2 := List.suffix_of_suffix_length_le hb ha (by simp; omega)
    rcases List.suffix_cons_iff.1 h2 with e | e
    · have := congrArg List.length e
      simp at this
      omega
    · exact e
theorem full_not {x n : List UInt8} (hn : nmOk n = true) (h : (46 :: x).isSuffixOf n = true) : full x = false := by
  rw [List.isSuffixOf_iff_suffix] at h
  obtain ⟨u, rfl⟩ := h
  rw [nmOk, Bool.and_eq_true, Bool.and_eq_true] at hn
  have := of_decide_eq_true hn.1.2
  rw [spl_length] at this
  simp at this
  rw [full]
  refine decide_eq_false ?_
  omega
theorem fits_wld {p n : List UInt8} (h : fits p n = true) (hne : p ≠ n) : wld p = true ∧ patOk p = true ∧ nmOk n = true ∧ (46 :: tl p).isSuffixOf n = true := by
  cases hw : wld p with
  | false =>
    rw [fits_flat n hw, Bool.and_eq_true] at h
    exact absurd (by simpa using h.2) hne
  | true =>
    rw [fits_wild n hw, Bool.and_eq_true, Bool.and_eq_true] at h
    exact ⟨rfl, h.1.1, h.1.2, h.2⟩
theorem wld_len {p : List UInt8} (h : wld p = true) : p.length = (tl p).length + 2 := by
  have := congrArg List.length (wld_form h)
  simpa using this
theorem undr_fits {a b n : List UInt8} (ha : fits a n = true) (hb : fits b n = true) (h1 : a ≠ n) (h2 : b ≠ n) (hne : a ≠ b) : undr a b = decide (b.length < a.length) := by
  obtain ⟨a1, a2, a3, a4⟩ := fits_wld ha h1
  obtain ⟨b1, b2, _, b4⟩ := fits_wld hb h2
  have hn : (tl a == tl b) = false := by
    rw [beq_eq_false_iff_ne]
    intro e
    exact hne (by rw [wld_form a1, wld_form b1, e])
  rw [undr, a1, b1, a2, b2, full_not a3 a4, hn, suffix_pair a4 b4, wld_len a1, wld_len b1]
  simp
theorem bst_two {a b n : List UInt8} (ha : fits a n = true) (hb : fits b n = true) : bst [a, b] n 2 = if bet b a n then 1 else 0 := by
  have h1 : bst [a, b] n 1 = 0 := by
    show (if fits a n && _ then (0 : Int) else _) = 0
    rw [ha]; rfl
  show (if fits b n && (decide (bst [a, b] n 1 < 0) || bet b ([a, b].getD (bst [a, b] n 1).toNat []) n) then (1 : Int) else bst [a, b] n 1) = _
  rw [h1, hb]
  rfl
theorem order_law {a b n : List UInt8} (ha : fits a n = true) (hb : fits b n = true) (hne : a ≠ b) :
    (a = n → bst [a, b] n 2 = 0) ∧ (b = n → bst [a, b] n 2 = 1) ∧ (a ≠ n → b ≠ n → nmOk n = true ∧ ((bst [a, b] n 2 = 0 ∧ undr a b = true ∧ undr b a = false) ∨ (bst [a, b] n 2 = 1 ∧ undr a b = false ∧ undr b a = true))) := by
  rw [bst_two ha hb]
  refine ⟨fun e => ?_, fun e => ?_, fun h1 h2 => ?_⟩
  · rw [bet, if_pos e.symm]; rfl
  · rw [bet, if_neg (show ¬ n = a from fun e' => hne (e'.symm.trans e.symm)), if_pos e.symm]; rfl
  · rw [undr_fits ha hb h1 h2 hne, undr_fits hb ha h2 h1 hne.symm, bet, if_neg h1.symm, if_neg h2.symm]
    have hl : a.length ≠ b.length := fun e => hne (fits_uniq a b n ha hb h1 h2 e)
    refine ⟨(fits_wld ha h1).2.2.1, ?_⟩
    rcases Nat.lt_or_ge a.length b.length with h | h
    · exact .inr (by simp [h]; omega)
    · exact .inl (by simp; omega)

/-- What Under says of a plain pattern. -/
theorem undr_flat {a : List UInt8} (b : List UInt8) (ha : patOk a = true) (hb : patOk b = true) (hw : wld a = false) : undr a b = fits b a := by
  have hn : nmOk a = true := by
    rw [patOk, tl, if_neg (by rw [hw]; simp), Bool.and_eq_true] at ha
    exact ha.2
  have ht : tl a = a := by rw [tl, if_neg (by rw [hw]; simp)]
  cases hwb : wld b with
  | false =>
    rw [undr, ha, hb, hw, hwb, fits_flat a hwb, hb, hn]
    rw [show (a == b) = (b == a) from Bool.beq_comm]
    simp
  | true =>
    rw [undr, ha, hb, hw, hwb, fits_wild a hwb, hb, hn, ht]
    simp
theorem suffix_self (h x : List UInt8) : (46 :: x).isSuffixOf (h ++ 46 :: x) = true := by
  rw [List.isSuffixOf_iff_suffix]
  exact List.suffix_append _ _
theorem nmOk_front (c : UInt8) (x : List UInt8) (hc : labOk [c] = true) (h46 : c ≠ 46) (hx : nmOk x = true) (hl : x.length ≤ 61) (hf : full x = false) : nmOk (c :: 46 :: x) = true := by
  have e : spl (c :: 46 :: x) = [c] :: spl x := by simp [spl, h46]
  have hf' := of_decide_eq_false hf
  rw [nmOk, Bool.and_eq_true, Bool.and_eq_true] at hx
  rw [nmOk, e, Bool.and_eq_true, Bool.and_eq_true]
  refine ⟨⟨decide_eq_true (by simp; omega), decide_eq_true ?_⟩, ?_⟩
  · rw [List.length_cons, spl_length]; omega
  · rw [List.all_cons, hc, hx.2]; rfl
/-- The names that LabelUnder tries. -/
theorem undr_yes {a b : List UInt8} (hw : wld a = true) (hu : undr a b = true) (h : List UInt8) (hf : fits a (h ++ 46 :: tl a) = true) : fits b (h ++ 46 :: tl a) = true := by
  rw [fits_wild _ hw, Bool.and_eq_true, Bool.and_eq_true] at hf
  rw [undr, Bool.and_eq_true, Bool.and_eq_true, hw, full_not hf.1.2 hf.2] at hu
  obtain ⟨⟨h1, h2⟩, h3⟩ := hu
  cases hwb : wld b with
  | false =>
    rw [hwb] at h3
    have e : a = b := by simpa using h3
    rw [e, hwb] at hw
    exact absurd hw (by simp)
  | true =>
    rw [fits_wild _ hwb, h2, hf.1.2]
    rw [hwb] at h3
    cases ht : tl a == tl b with
    | true =>
      have e : tl a = tl b := by simpa using ht
      rw [e, suffix_self]; rfl
    | false =>
      rw [ht] at h3
      have h4 : (46 :: tl b).isSuffixOf (tl a) = true := by simpa using h3
      rw [Bool.true_and, Bool.true_and]
      rw [List.isSuffixOf_iff_suffix] at h4 ⊢
      exact h4.trans ((List.suffix_cons 46 (tl a)).trans (List.suffix_append _ _))
theorem undr_no {a b : List UInt8} (hw : wld a = true) (ha : patOk a = true) (hb : patOk b = true) (hu : undr a b = false) :
    (∀ c ∈ ([97, 98, 48] : List UInt8), fits a (c :: 46 :: tl a) = true) ∧ ∃ c ∈ ([97, 98, 48] : List UInt8), fits b (c :: 46 :: tl a) = false := by
  have hl := wld_len hw
  have hfull : full (tl a) = false := by
    cases e : full (tl a) with
    | false => rfl
    | true => rw [undr, ha, hb, hw, e] at hu; exact absurd hu (by simp)
  have ha' := ha
  rw [patOk, Bool.and_eq_true, decide_eq_true_eq] at ha'
  have hn : ∀ c ∈ ([97, 98, 48] : List UInt8), nmOk (c :: 46 :: tl a) = true := fun c hc => by
    have h1 : labOk [c] = true ∧ c ≠ 46 := by
      simp only [List.mem_cons, List.not_mem_nil, or_false] at hc
      rcases hc with rfl | rfl | rfl <;> decide
    exact nmOk_front c _ h1.1 h1.2 ha'.2 (by omega) hfull
  refine ⟨fun c hc => ?_, ?_⟩
  · rw [fits_wild _ hw, ha, hn c hc, Bool.true_and, Bool.true_and]
    exact suffix_self [c] (tl a)
  rw [undr, ha, hb, hw, hfull] at hu
  cases hwb : wld b with
  | false =>
    by_cases e : b = 97 :: 46 :: tl a
    · refine ⟨98, by simp, ?_⟩
      rw [fits_flat _ hwb, e]
      simp
    · refine ⟨97, by simp, ?_⟩
      rw [fits_flat _ hwb, Bool.and_eq_false_iff]
      exact .inr (by simpa using e)
  | true =>
    refine ⟨97, by simp, ?_⟩
    rw [hwb] at hu
    rw [fits_wild _ hwb, Bool.and_eq_false_iff]
    refine .inr ?_
    rw [Bool.eq_false_iff]
    intro h
    rw [List.isSuffixOf_iff_suffix] at h
    rcases List.suffix_cons_iff.1 h with e | e
    · exact absurd (List.cons.inj e).1 (by decide)
    rcases List.suffix_cons_iff.1 e with e | e
    · have : tl a = tl b := ((List.cons.inj e).2).symm
      rw [this] at hu
      simp at hu
    · rw [← List.isSuffixOf_iff_suffix] at e
      rw [e] at hu
      simp at hu

/-- What stands ahead of a name. -/
theorem wild_law {n : List UInt8} (hn : nmOk n = true) : fits n n = true ∧ fits (42 :: 46 :: n) n = false ∧ ∀ h, nmOk (h ++ 46 :: n) = true →
    (patOk (42 :: 46 :: n) = true → fits (42 :: 46 :: n) (h ++ 46 :: n) = true) ∧ fits n (h ++ 46 :: n) = false ∧ fits (h ++ 46 :: n) n = false := by
  have hw : wld (42 :: 46 :: n) = true := rfl
  have ht : tl (42 :: 46 :: n) = n := by rw [tl, if_pos hw]; rfl
  refine ⟨fits_self hn, ?_, fun h hh => ⟨fun hp => ?_, ?_, ?_⟩⟩
  · rw [fits_wild _ hw, ht, Bool.and_eq_false_iff]
    refine .inr ?_
    rw [Bool.eq_false_iff]
    intro e
    have := (List.isSuffixOf_iff_suffix.1 e).length_le
    simp at this
    omega
  · rw [fits_wild _ hw, ht, hp, hh, suffix_self]; rfl
  · rw [fits_flat _ (nmOk_plain hn), Bool.and_eq_false_iff]
    refine .inr ?_
    rw [beq_eq_false_iff_ne]
    intro e
    have := congrArg List.length e
    simp at this
    omega
  · rw [fits_flat _ (nmOk_plain hh), Bool.and_eq_false_iff]
    refine .inr ?_
    rw [beq_eq_false_iff_ne]
    intro e
    have := congrArg List.length e
    simp at this
    omega
end Go.Proofs.YtfphfljndhideaaDoor
