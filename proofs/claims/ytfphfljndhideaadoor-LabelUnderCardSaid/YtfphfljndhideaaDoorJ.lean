/- The best pattern, by the document; a list turned round. -/
import Derived.Test.YtfphfljndhideaaDoorG
set_option linter.unusedVariables false
set_option linter.unusedSimpArgs false
namespace Go.Proofs.YtfphfljndhideaaDoor
open Go.RowKit Jw Lab

/-- The place of the best of the first k, by its length alone. -/
def lb (L : List (List UInt8)) (n : List UInt8) : Nat → Int
  | 0 => -1
  | k + 1 => if fits (L.getD k []) n && (decide (lb L n k < 0) || decide ((L.getD (lb L n k).toNat []).length < (L.getD k []).length)) then (k : Int) else lb L n k
theorem lb_range (L : List (List UInt8)) (n : List UInt8) (k : Nat) : lb L n k = -1 ∨ ∃ j, j < k ∧ lb L n k = (j : Int) := by
  induction k with
  | zero => exact .inl rfl
  | succ k ih =>
    rw [lb]
    split
    · exact .inr ⟨k, by omega, rfl⟩
    · rcases ih with h | ⟨j, hj, h⟩
      · exact .inl h
      · exact .inr ⟨j, by omega, h⟩
theorem bst_good (L : List (List UInt8)) (n : List UInt8) (k : Nat) : (bst L n k = -1 ∧ ∀ i, i < k → fits (L.getD i []) n = false) ∨ ∃ j, j < k ∧ bst L n k = (j : Int) ∧ fits (L.getD j []) n = true ∧
    ∀ i, i < k → fits (L.getD i []) n = true → L.getD j [] = n ∨ (L.getD i [] ≠ n ∧ (L.getD i []).length ≤ (L.getD j []).length) := by
  induction k with
  | zero => exact .inl ⟨rfl, fun i h => by omega⟩
  | succ k ih =>
    cases hf : fits (L.getD k []) n with
    | false =>
      have hb : bst L n (k + 1) = bst L n k := by rw [bst, hf]; simp
      rw [hb]
      rcases ih with ⟨h1, h2⟩ | ⟨j, hj, h1, h2, h3⟩
      · refine .inl ⟨h1, fun i hi => ?_⟩
        rcases Nat.lt_or_ge i k with h | h
        · exact h2 i h
        · rw [show i = k by omega]; exact hf
      · refine .inr ⟨j, by omega, h1, h2, fun i hi hfi => ?_⟩
        rcases Nat.lt_or_ge i k with h | h
        · exact h3 i h hfi
        · rw [show i = k by omega, hf] at hfi; exact absurd hfi (by simp)
    | true =>
      rcases ih with ⟨h1, h2⟩ | ⟨j, hj, h1, h2, h3⟩
      · have hb : bst L n (k + 1) = (k : Int) := by rw [bst, hf, h1]; simp
        refine .inr ⟨k, by omega, hb, hf, fun i hi hfi => ?_⟩
        rcases Nat.lt_or_ge i k with h | h
        · rw [h2 i h] at hfi; exact absurd hfi (by simp)
        · obtain rfl : i = k := by omega
          by_cases e : L.getD i [] = n
          · exact .inl e
          · exact .inr ⟨e, Nat.le_refl _⟩
      · have dn : decide ((j : Int) < 0) = false := by simp
        have hb : bst L n (k + 1) = if bet (L.getD k []) (L.getD j []) n = true then (k : Int) else (j : Int) := by rw [bst, hf, h1, dn]; simp
        rw [hb]
        by_cases e1 : n = L.getD j []
        · have hbt : bet (L.getD k []) (L.getD j []) n = false := by rw [bet, if_pos e1]
          rw [hbt]
          exact .inr ⟨j, by omega, by simp, h2, fun i hi hfi => .inl e1.symm⟩
        · by_cases e2 : n = L.getD k []
          · have hbt : bet (L.getD k []) (L.getD j []) n = true := by rw [bet, if_neg e1, if_pos e2]
            rw [hbt]
            exact .inr ⟨k, by omega, by simp, hf, fun i hi hfi => .inl e2.symm⟩
          · by_cases e3 : (L.getD j []).length < (L.getD k []).length
            · have hbt : bet (L.getD k []) (L.getD j []) n = true := by rw [bet, if_neg e1, if_neg e2]; exact decide_eq_true e3
              rw [hbt]
              refine .inr ⟨k, by omega, by simp, hf, fun i hi hfi => .inr ?_⟩
              rcases Nat.lt_or_ge i k with h | h
              · rcases h3 i h hfi with h' | ⟨h', h''⟩
                · exact absurd h'.symm e1
                · exact ⟨h', by omega⟩
              · obtain rfl : i = k := by omega
                exact ⟨fun e => e2 e.symm, Nat.le_refl _⟩
            · have hbt : bet (L.getD k []) (L.getD j []) n = false := by rw [bet, if_neg e1, if_neg e2]; exact decide_eq_false e3
              rw [hbt]
              refine .inr ⟨j, by omega, by simp, h2, fun i hi hfi => ?_⟩
              rcases Nat.lt_or_ge i k with h | h
              · exact h3 i h hfi
              · obtain rfl : i = k := by omega
                exact .inr ⟨fun e => e2 e.symm, by omega⟩
theorem bst_exact (L : List (List UInt8)) (n : List UInt8) (i : Nat) (h1 : L.getD i [] = n) (h2 : fits n n = true) (h3 : ∀ j, j < i → L.getD j [] ≠ n) (k : Nat) (hk : i < k) : bst L n k = (i : Int) := by
  induction k with
  | zero => omega
  | succ k ih =>
    rcases Nat.lt_or_ge i k with h | h
    · have e := ih h
      have dn : decide ((i : Int) < 0) = false := by simp
      have hbt : bet (L.getD k []) (L.getD i []) n = false := by rw [bet, if_pos h1.symm]
      rw [bst, e, dn, Int.toNat_natCast, hbt]
      simp
    · obtain rfl : i = k := by omega
      rcases bst_good L n i with ⟨e, _⟩ | ⟨j, hj, e, _⟩
      · rw [bst, h1, h2, e]; simp
      · have dn : decide ((j : Int) < 0) = false := by simp
        have hbt : bet (L.getD i []) (L.getD j []) n = true := by rw [bet, if_neg (fun e => h3 j hj e.symm), if_pos h1.symm]
        rw [bst, e, dn, Int.toNat_natCast, hbt, h1, h2]
        simp
theorem bst_lb (L : List (List UInt8)) (n : List UInt8) (k : Nat) (h : ∀ j, j < k → L.getD j [] = n → fits n n = false) : bst L n k = lb L n k := by
  induction k with
  | zero => rfl
  | succ k ih =>
    have e := ih (fun j hj => h j (by omega))
    rw [bst, lb, ← e]
    cases hf : fits (L.getD k []) n with
    | false => rfl
    | true =>
      have e2 : ¬ n = L.getD k [] := fun e => by
        have := h k (by omega) e.symm
        rw [← e] at hf
        rw [hf] at this
        exact absurd this (by simp)
      rcases bst_good L n k with ⟨e', _⟩ | ⟨j, hj, e', hfj, _⟩
      · rw [e']; simp
      · have e1 : ¬ n = L.getD j [] := fun e => by
          have := h j (by omega) e.symm
          rw [← e] at hfj
          rw [hfj] at this
          exact absurd this (by simp)
        rw [e', Int.toNat_natCast, bet, if_neg e1, if_neg e2]
theorem fits_uniq (p q n : List UInt8) (hp : fits p n = true) (hq : fits q n = true) (h1 : p ≠ n) (h2 : q ≠ n) (hl : p.length = q.length) : p = q := by
  have key : ∀ x : List UInt8, fits x n = true → x ≠ n → x.take 2 = [42, 46] ∧ (46 :: x.drop 2) <:+ n := fun x hx hne => by
    rw [fits, Bool.and_eq_true] at hx
    cases hw : wld x with
    | false => rw [hw] at hx; exact absurd (by simpa using hx.2) hne
    | true =>
      rw [hw, if_pos rfl, tl, if_pos hw] at hx
      exact ⟨(wld_iff x).1 hw, List.isSuffixOf_iff_suffix.1 hx.2⟩
  obtain ⟨a1, b1⟩ := key p hp h1
  obtain ⟨a2, b2⟩ := key q hq h2
  have e : 46 :: p.drop 2 = 46 :: q.drop 2 := by
    obtain ⟨u, hu⟩ := b1
    obtain ⟨v, hv⟩ := b2
    exact (List.append_inj' (hu.trans hv.symm) (by simp [hl])).2
  have e2 : p.drop 2 = q.drop 2 := (List.cons.inj e).2
  rw [← List.take_append_drop 2 p, ← List.take_append_drop 2 q, a1, a2, e2]
theorem bst_mem (L : List (List UInt8)) (n : List UInt8) : (bst L n L.length = -1 ∧ ∀ p ∈ L, fits p n = false) ∨ ∃ j, j < L.length ∧ bst L n L.length = (j : Int) ∧ fits (L.getD j []) n = true ∧
    ∀ p ∈ L, fits p n = true → L.getD j [] = n ∨ (p ≠ n ∧ p.length ≤ (L.getD j []).length) := by
  have hx : ∀ p ∈ L, ∃ i, i < L.length ∧ p = L.getD i [] := fun p hp => by
    obtain ⟨i, hi, e⟩ := List.getElem_of_mem hp
    exact ⟨i, hi, by rw [List.getD_eq_getElem?_getD, List.getElem?_eq_getElem hi]; exact e.symm⟩
  rcases bst_good L n L.length with ⟨h1, h2⟩ | ⟨j, hj, h1, h2, h3⟩
  · exact .inl ⟨h1, fun p hp => by obtain ⟨i, hi, rfl⟩ := hx p hp; exact h2 i hi⟩
  · exact .inr ⟨j, hj, h1, h2, fun p hp => by obtain ⟨i, hi, rfl⟩ := hx p hp; exact h3 i hi⟩
/-- A list turned round has the same best. -/
theorem bst_turn (L : List (List UInt8)) (n : List UInt8) : (bst L n L.length = -1 ∧ bst L.reverse n L.length = -1) ∨ ∃ i j, i < L.length ∧ j < L.length ∧ bst L n L.length = (i : Int) ∧ bst L.reverse n L.length = (j : Int) ∧ L.reverse.getD j [] = L.getD i [] := by
  have hr := bst_mem L.reverse n
  rw [List.length_reverse] at hr
  rcases bst_mem L n with ⟨h1, h2⟩ | ⟨i, hi, h1, h2, h3⟩
  · rcases hr with ⟨g1, g2⟩ | ⟨j, hj, g1, g2, g3⟩
    · exact .inl ⟨h1, g1⟩
    · have := h2 _ (List.mem_reverse.1 (getD_mem L.reverse j [] (by simpa using hj)))
      rw [g2] at this
      exact absurd this (by simp)
  · rcases hr with ⟨g1, g2⟩ | ⟨j, hj, g1, g2, g3⟩
    · have := g2 _ (List.mem_reverse.2 (getD_mem L i [] hi))
      rw [h2] at this
      exact absurd this (by simp)
    · refine .inr ⟨i, j, hi, hj, h1, g1, ?_⟩
      have a := g3 _ (List.mem_reverse.2 (getD_mem L i [] hi)) h2
      have b := h3 _ (List.mem_reverse.1 (getD_mem L.reverse j [] (by simpa using hj))) g2
      generalize L.reverse.getD j [] = y at *
      generalize L.getD i [] = x at *
      by_cases ex : x = n
      · rcases a with a | a
        · rw [a, ex]
        · exact absurd ex a.1
      · by_cases ey : y = n
        · rcases b with b | b
          · exact absurd b ex
          · exact absurd ey b.1
        · rcases a with a | a
          · exact absurd a ey
          · rcases b with b | b
            · exact absurd b ex
            · exact fits_uniq y x n g2 h2 ey ex (by omega)
end Go.Proofs.YtfphfljndhideaaDoor
