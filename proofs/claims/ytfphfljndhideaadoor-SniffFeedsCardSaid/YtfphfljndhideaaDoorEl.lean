/- What can become a first line can by something: the plain law. -/
import Derived.Test.YtfphfljndhideaaDoorS10
set_option linter.unusedVariables false
set_option linter.unusedSimpArgs false
namespace Go.Proofs.YtfphfljndhideaaDoor
open Go.RowKit Jw Lab

/-- The ends that are tried. -/
def ends (b : List UInt8) : List (List UInt8) := [[10], [97, 10], ([116, 111, 32, 97, 10] : List UInt8).drop (min b.length 3)]
theorem ends_form (b : List UInt8) : ∀ e ∈ ends b, ∃ x, e = x ++ [10] ∧ (10 : UInt8) ∉ x ∧ e.length ≤ 5 := by
  intro e he
  simp only [ends, List.mem_cons, List.not_mem_nil, or_false] at he
  rcases he with rfl | rfl | rfl
  · exact ⟨[], rfl, by simp, by simp⟩
  · exact ⟨[97], rfl, by decide, by simp⟩
  · rcases (show min b.length 3 = 0 ∨ min b.length 3 = 1 ∨ min b.length 3 = 2 ∨ min b.length 3 = 3 by omega) with h | h | h | h
    · rw [h]; exact ⟨[116, 111, 32, 97], rfl, by decide, by simp⟩
    · rw [h]; exact ⟨[111, 32, 97], rfl, by decide, by simp⟩
    · rw [h]; exact ⟨[32, 97], rfl, by decide, by simp⟩
    · rw [h]; exact ⟨[97], rfl, by decide, by simp⟩
theorem fd_ends (b e : List UInt8) (h10 : (10 : UInt8) ∉ b) (he : e ∈ ends b) :
    (canB (b ++ e) = true ∧ fd [] (b ++ e) = ((b ++ e).length, 1, b ++ e) ∧ 5 ≤ (b ++ e).length) ∨ (canB (b ++ e) = false ∧ ∃ k, fd [] (b ++ e) = (k, 2, [])) := by
  obtain ⟨x, rfl, hx, _⟩ := ends_form b e he
  have h : (10 : UInt8) ∉ b ++ x := fun hm => by
    rcases List.mem_append.1 hm with e | e
    · exact h10 e
    · exact hx e
  have ea : b ++ (x ++ [10]) = (b ++ x) ++ 10 :: [] := by simp
  have eb : b ++ (x ++ [10]) = (b ++ x) ++ [10] := by simp
  cases hc : canB (b ++ (x ++ [10])) with
  | true =>
    refine .inl ⟨rfl, ?_, ?_⟩
    · have := fd_end (b ++ x) [] h (by rw [← eb]; exact hc)
      rw [ea, this]
      simp
      omega
    · rw [eb, can_end _ h, Bool.and_eq_true, endOk, Bool.and_eq_true, Bool.and_eq_true, decide_eq_true_eq, decide_eq_true_eq] at hc
      have h3 := hc.2.1.1
      have h4 := hc.2.1.2
      rw [eb, List.length_append]
      rcases Nat.lt_or_ge 3 (b ++ x).length with h5 | h5
      · simp at h5 ⊢; omega
      · exfalso
        apply h4
        rw [List.drop_eq_nil_of_le h5]
        rfl
  | false =>
    obtain ⟨k, hk, _⟩ := fd_bad (b ++ x) [] [] h (by rw [List.nil_append, ← eb]; exact hc)
    exact .inr ⟨rfl, k, by rw [ea]; exact hk⟩
theorem ends_some (b : List UInt8) (h10 : (10 : UInt8) ∉ b) (hc : canB b = true) : ∃ e ∈ ends b, canB (b ++ e) = true := by
  have hc' := hc
  rw [can_no b h10] at hc
  by_cases h3 : b.length < 3
  · rw [if_pos h3, List.isPrefixOf_iff_prefix, List.prefix_iff_eq_take] at hc
    refine ⟨_, by simp only [ends, List.mem_cons]; exact .inr (.inr (.inl rfl)), ?_⟩
    rcases (show b.length = 0 ∨ b.length = 1 ∨ b.length = 2 by omega) with h | h | h
    all_goals
      rw [h] at hc ⊢
      rw [hc]
      decide
  · rw [if_neg h3, Bool.and_eq_true] at hc
    have hb := hc.2
    rw [beg, Bool.and_eq_true, Bool.and_eq_true, Bool.and_eq_true, decide_eq_true_eq, decide_eq_true_eq] at hb
    obtain ⟨⟨_, h63⟩, hlab⟩ := hb
    have hlen := ((labOk_def _).1 hlab).2.1
    rw [List.length_append, List.length_replicate] at hlen
    obtain ⟨s, hs⟩ : ∃ s, s = b.drop 3 := ⟨_, rfl⟩
    rw [← hs] at h63 hlen
    by_cases hn : lst s = [] ∨ (lst s).getLastD 0 = 45
    · have hne : need (lst s) = 1 := by rw [need, if_pos hn]
      rw [hne] at h63 hlen
      refine ⟨[97, 10], by simp [ends], ?_⟩
      have e : b ++ [97, 10] = (b ++ [97]) ++ [10] := by simp
      have h10' : (10 : UInt8) ∉ b ++ [97] := fun hm => by
        rcases List.mem_append.1 hm with e | e
        · exact h10 e
        · exact absurd e (by decide)
      have hd : (b ++ [97]).drop 3 = s ++ [97] := by rw [List.drop_append_of_le_length (by omega), hs]
      rw [e, can_end _ h10', can_snoc b 97 h10 (by decide), hc', Bool.true_and, okW, if_neg h3, ← hs, okc, if_neg (by decide), if_pos (by decide), endOk, hd, dsh_snoc s 97 (by decide), lst_snoc, if_neg (by decide)]
      rw [decide_eq_true hlen, decide_eq_true h63]
      have e3 : 3 ≤ (b ++ [97]).length := by simp; omega
      rw [decide_eq_true e3, decide_eq_true (show lst s ++ [97] ≠ [] by simp)]
      rfl
    · refine ⟨[10], by simp [ends], ?_⟩
      have h1 : lst s ≠ [] := fun e => hn (.inl e)
      have h2 : (lst s).getLastD 0 ≠ 45 := fun e => hn (.inr e)
      rw [can_end b h10, hc', endOk, ← hs, decide_eq_true h1, decide_eq_true (show 3 ≤ b.length by omega), dsh, decide_eq_false h2]
      simp
/-- Where the line is ended. -/
theorem can_ten (b : List UInt8) (i : Nat) (hi : i < b.length) (h : b.getD i 0 = 10) (hall : ∀ j, j < i → b.getD j 0 ≠ 10) (hc : canB b = true) : 4 ≤ i ∧ nmOk ((b.take i).drop 3) = true := by
  have hb : b = (b.take i ++ [10]) ++ b.drop (i + 1) := by
    have e := List.take_append_drop i b
    rw [List.drop_eq_getElem_cons hi] at e
    have e2 : b[i] = 10 := by rw [List.getD_eq_getElem?_getD, List.getElem?_eq_getElem hi] at h; exact h
    rw [e2] at e
    rw [List.append_assoc]
    exact e.symm
  have h10 : (10 : UInt8) ∉ b.take i := fun hm => by
    obtain ⟨j, hj, e⟩ := List.getElem_of_mem hm
    have hj2 : j < i := by simp at hj; omega
    refine hall j hj2 ?_
    rw [List.getElem_take] at e
    rw [List.getD_eq_getElem?_getD, List.getElem?_eq_getElem (by omega)]
    exact e
  rw [hb, can_more _ _ (by simp), can_end _ h10, Bool.and_eq_true] at hc
  obtain ⟨hc1, hc2⟩ := hc
  have hc3 := hc2
  rw [endOk, Bool.and_eq_true, Bool.and_eq_true, decide_eq_true_eq, decide_eq_true_eq] at hc2
  have hl : (b.take i).length = i := by simp; omega
  rw [hl] at hc2
  rw [can_no _ h10, hl, if_neg (by omega), Bool.and_eq_true] at hc1
  have h4 : i ≠ 3 := fun e => hc2.1.2 (by rw [List.drop_eq_nil_of_le (by omega)]; rfl)
  refine ⟨by omega, ?_⟩
  rw [nm_beg, hc1.2, decide_eq_true hc2.1.2, hc2.2]
  rfl
end Go.Proofs.YtfphfljndhideaaDoor
