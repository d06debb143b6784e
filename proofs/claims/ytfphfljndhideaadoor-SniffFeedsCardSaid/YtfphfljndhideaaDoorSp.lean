/- First lines, in plain Lean: what can become one; byte by byte. -/
import Derived.Test.YtfphfljndhideaaDoorPl
import Derived.Lib.IndexBytes
namespace Lab
open Go.Lib

/-- The last label so far. -/
def lst (s : List UInt8) : List UInt8 := (spl s).getLastD []
def need (l : List UInt8) : Nat := if l = [] ∨ l.getLastD 0 = 45 then 1 else 0
/-- Can a text become a name? -/
def beg (s : List UInt8) : Bool := decide ((spl s).length ≤ 8) && (spl s).dropLast.all labOk && decide (s.length + need (lst s) ≤ 63) && labOk (lst s ++ List.replicate (need (lst s)) 97)
theorem spl_split (s : List UInt8) : spl s = (spl s).dropLast ++ [lst s] := by
  have hne := spl_ne s
  have h1 : lst s = (spl s).getLast hne := by rw [lst, List.getLastD_eq_getLast?, List.getLast?_eq_some_getLast hne]; rfl
  rw [h1]
  exact (List.dropLast_concat_getLast hne).symm

/-- What a label is, said at length. -/
theorem labOk_def (l : List UInt8) : labOk l = true ↔ 1 ≤ l.length ∧ l.length ≤ 16 ∧ l.headD 0 ≠ 45 ∧ l.getLastD 0 ≠ 45 ∧ ∀ x ∈ l, byOk x = true := by
  simp [labOk, and_assoc]
theorem labOk_ne {l : List UInt8} (h : labOk l = true) : l ≠ [] ∧ l.getLastD 0 ≠ 45 ∧ need l = 0 := by
  obtain ⟨h1, _, _, h4, _⟩ := (labOk_def l).1 h
  have hn : l ≠ [] := by intro e; rw [e] at h1; simp at h1
  refine ⟨hn, h4, ?_⟩
  rw [need, if_neg (fun e => by rcases e with e | e; exact hn e; exact h4 e)]
theorem need_le (l : List UInt8) : need l ≤ 1 := by unfold need; split <;> omega
theorem need_nil : need [] = 1 := by simp [need]
theorem need_snoc (l : List UInt8) (c : UInt8) : need (l ++ [c]) = if c = 45 then 1 else 0 := by
  unfold need
  simp
theorem headD_append (l m : List UInt8) (h : l ≠ []) : (l ++ m).headD 0 = l.headD 0 := by
  cases l with
  | nil => exact absurd rfl h
  | cons a r => rfl
theorem byOk_97 : byOk 97 = true := by decide
theorem byOk_45 : byOk 45 = true := by decide
/-- What one byte more does to a label to be. -/
theorem lab_plain (l : List UInt8) (c : UInt8) (hc : byOk c = true) (h45 : c ≠ 45) : labOk (l ++ [c]) = (labOk (l ++ List.replicate (need l) 97) && decide (l.length + 1 ≤ 16)) := by
  rw [Bool.eq_iff_iff, Bool.and_eq_true, labOk_def, labOk_def, decide_eq_true_eq]
  by_cases hl : l = []
  · subst hl
    simp [need_nil, hc, h45, byOk_97]
  · rw [headD_append _ _ hl, headD_append _ _ hl]
    have e1 : (l ++ [c]).getLastD 0 = c := by simp
    have e2 : (l ++ List.replicate (need l) 97).getLastD 0 ≠ 45 := by
      by_cases h : l.getLastD 0 = 45
      · rw [need, if_pos (.inr h)]; simp
      · rw [need, if_neg (fun e => by rcases e with e | e; exact hl e; exact h e)]; simpa using h
    rw [e1]
    have hn := need_le l
    simp only [List.length_append, List.length_replicate, List.length_cons, List.length_nil, List.mem_append, List.mem_singleton, List.mem_replicate]
    constructor
    · rintro ⟨_, h2, h3, _, h5⟩
      exact ⟨⟨by have := List.length_pos_iff.2 hl; omega, by omega, h3, e2, fun x hx => by
        rcases hx with hx | ⟨_, rfl⟩
        · exact h5 x (.inl hx)
        · exact byOk_97⟩, by omega⟩
    · rintro ⟨⟨_, _, h3, _, h5⟩, h6⟩
      exact ⟨by omega, by omega, h3, h45, fun x hx => by
        rcases hx with hx | rfl
        · exact h5 x (.inl hx)
        · exact hc⟩
theorem lab_dash (l : List UInt8) : labOk (l ++ [45] ++ [97]) = (labOk (l ++ List.replicate (need l) 97) && decide (l ≠ []) && decide (l.length + 2 ≤ 16)) := by
  rw [Bool.eq_iff_iff, Bool.and_eq_true, Bool.and_eq_true, labOk_def, labOk_def, decide_eq_true_eq, decide_eq_true_eq]
  by_cases hl : l = []
  · subst hl
    simp
  · rw [List.append_assoc, headD_append _ _ hl, headD_append _ _ hl]
    have e1 : (l ++ ([45] ++ [97])).getLastD 0 = 97 := by rw [← List.append_assoc]; simp
    have e2 : (l ++ List.replicate (need l) 97).getLastD 0 ≠ 45 := by
      by_cases h : l.getLastD 0 = 45
      · rw [need, if_pos (.inr h)]; simp
      · rw [need, if_neg (fun e => by rcases e with e | e; exact hl e; exact h e)]; simpa using h
    rw [e1]
    have hn := need_le l
    have h0 := List.length_pos_iff.2 hl
    simp only [List.length_append, List.length_replicate, List.length_cons, List.length_nil, List.mem_append, List.mem_singleton, List.mem_replicate]
    constructor
    · rintro ⟨_, h2, h3, _, h5⟩
      exact ⟨⟨⟨by omega, by omega, h3, e2, fun x hx => by
        rcases hx with hx | ⟨_, rfl⟩
        · exact h5 x (.inl hx)
        · exact byOk_97⟩, hl⟩, by omega⟩
    · rintro ⟨⟨⟨_, _, h3, _, h5⟩, _⟩, h6⟩
      exact ⟨by omega, by omega, h3, by decide, fun x hx => by
        rcases hx with hx | rfl | rfl
        · exact h5 x (.inl hx)
        · exact byOk_45
        · exact byOk_97⟩
theorem lab_bad (l m : List UInt8) (c : UInt8) (hc : byOk c = false) : labOk (l ++ [c] ++ m) = false := by
  rw [Bool.eq_false_iff]
  intro h
  obtain ⟨_, _, _, _, h5⟩ := (labOk_def _).1 h
  have := h5 c (by simp)
  rw [hc] at this
  exact absurd this (by simp)

/-- Does the last label end with a dash? -/
def dsh (s : List UInt8) : Bool := decide (lst s ≠ []) && decide ((lst s).getLastD 0 = 45)
def pln (c : UInt8) : Bool := (decide (97 ≤ c.toNat) && decide (c.toNat ≤ 122)) || (decide (48 ≤ c.toNat) && decide (c.toNat ≤ 57))
theorem pln_byOk (c : UInt8) : byOk c = (pln c || decide (c = 45)) := by
  rw [byOk, pln]
  congr 1
  rw [decide_eq_decide, ← UInt8.toNat_inj]
  rfl
theorem pln_45 : pln 45 = false := by decide
theorem pln_46 : pln 46 = false := by decide
theorem pln_10 : pln 10 = false := by decide
/-- May a byte stand behind a text that can become a name? -/
def okc (s : List UInt8) (c : UInt8) : Bool :=
  if c = 46 then decide (lst s ≠ []) && !dsh s && decide ((spl s).length ≠ 8) && decide (s.length + 2 ≤ 63)
  else if pln c then decide ((lst s).length + 1 ≤ 16) && decide (s.length + 1 ≤ 63)
  else decide (c = 45) && decide (lst s ≠ []) && decide ((lst s).length + 2 ≤ 16) && decide (s.length + 2 ≤ 63)
theorem beg_nil : beg [] = true := by decide
theorem lst_snoc (s : List UInt8) (c : UInt8) : lst (s ++ [c]) = if c = 46 then [] else lst s ++ [c] := by
  rw [lst, spl_snoc]
  split
  · simp
  · simp [lst]
theorem init_snoc (s : List UInt8) (c : UInt8) : (spl (s ++ [c])).dropLast = if c = 46 then spl s else (spl s).dropLast := by
  rw [spl_snoc]
  split <;> simp
theorem len_snoc (s : List UInt8) (c : UInt8) : (spl (s ++ [c])).length = if c = 46 then (spl s).length + 1 else (spl s).length := by
  have := List.length_pos_iff.2 (spl_ne s)
  rw [spl_snoc]
  split
  · simp
  · simp; omega
theorem need_zero {l : List UInt8} (h1 : l ≠ []) (h2 : l.getLastD 0 ≠ 45) : need l = 0 := by
  rw [need, if_neg (fun e => by rcases e with e | e; exact h1 e; exact h2 e)]
theorem beg_snoc (s : List UInt8) (c : UInt8) : beg (s ++ [c]) = (beg s && okc s c) := by
  have hsp := spl_split s
  have hlen : (s ++ [c]).length = s.length + 1 := by simp
  rw [beg, beg, okc, init_snoc, len_snoc, lst_snoc, hlen]
  generalize (spl s).length = n at *
  by_cases h46 : c = 46
  · simp only [if_pos h46]
    have hall : (spl s).all labOk = ((spl s).dropLast.all labOk && labOk (lst s)) := by
      conv => lhs; rw [hsp]
      rw [List.all_append]
      simp
    rw [hall, need_nil, dsh]
    generalize (spl s).dropLast.all labOk = I
    generalize lst s = l
    have h97 : labOk ([] ++ List.replicate 1 97) = true := by decide
    rw [h97]
    cases hlb : labOk l with
    | true =>
      obtain ⟨a, b, d⟩ := labOk_ne hlb
      rw [d]
      simp only [List.replicate_zero, List.append_nil, hlb]
      have e1 : decide (l ≠ []) = true := decide_eq_true a
      have e2 : decide (l.getLastD 0 = 45) = false := decide_eq_false b
      rw [e1, e2]
      cases I
      · simp
      · rw [Bool.eq_iff_iff]; simp only [Bool.and_eq_true, decide_eq_true_eq, Bool.not_eq_true', Bool.and_true, Bool.true_and, Bool.not_false]
        omega
    | false =>
      rw [Bool.and_false, Bool.and_false, Bool.false_and, Bool.false_and]
      symm
      rw [Bool.and_eq_false_iff]
      by_cases h1 : l = []
      · refine .inr ?_
        rw [h1]; simp
      · by_cases h2 : l.getLastD 0 = 45
        · refine .inr ?_
          rw [decide_eq_true h1, decide_eq_true h2]; simp
        · refine .inl ?_
          rw [need_zero h1 h2]
          simp [hlb]
  · simp only [if_neg h46]
    generalize (spl s).dropLast.all labOk = I
    generalize lst s = l
    rw [need_snoc]
    cases hp : pln c with
    | true =>
      have h45 : c ≠ 45 := by rintro rfl; exact absurd hp (by decide)
      have hb : byOk c = true := by rw [pln_byOk, hp]; rfl
      rw [if_neg h45, List.replicate_zero, List.append_nil, lab_plain l c hb h45, if_pos rfl]
      have := need_le l
      generalize labOk (l ++ List.replicate (need l) 97) = B
      cases I
      · simp
      · cases B
        · simp
        · rw [Bool.eq_iff_iff]; simp only [Bool.and_eq_true, decide_eq_true_eq, Bool.and_true, Bool.true_and]
          omega
    | false =>
      simp only [Bool.false_eq_true, if_false]
      by_cases h45 : c = 45
      · rw [if_pos h45, h45]
        have e : List.replicate 1 (97 : UInt8) = [97] := rfl
        rw [e, lab_dash l]
        have := need_le l
        generalize labOk (l ++ List.replicate (need l) 97) = B
        generalize hN : decide (l ≠ []) = N
        cases I
        · simp
        · cases B
          · simp
          · cases N
            · simp
            · rw [Bool.eq_iff_iff]; simp only [Bool.and_eq_true, decide_eq_true_eq, Bool.and_true, Bool.true_and, true_and]
              omega
      · have hb : byOk c = false := by rw [pln_byOk, hp]; simpa using h45
        rw [lab_bad l _ c hb, Bool.and_false, decide_eq_false h45]
        simp
theorem nm_beg (s : List UInt8) : nmOk s = (beg s && decide (lst s ≠ []) && !dsh s) := by
  have hsp := spl_split s
  have hall : (spl s).all labOk = ((spl s).dropLast.all labOk && labOk (lst s)) := by
    conv => lhs; rw [hsp]
    rw [List.all_append]
    simp
  rw [nmOk, hall, beg, dsh]
  generalize (spl s).dropLast.all labOk = I
  generalize lst s = l
  generalize (spl s).length = n
  cases hlb : labOk l with
  | true =>
    obtain ⟨a, b, d⟩ := labOk_ne hlb
    rw [d, decide_eq_true a, decide_eq_false b]
    simp only [List.replicate_zero, List.append_nil, hlb]
    cases I
    · simp
    · rw [Bool.eq_iff_iff]; simp only [Bool.and_eq_true, decide_eq_true_eq, Bool.and_true, Bool.true_and, Bool.not_false]
      omega
  | false =>
    rw [Bool.and_false, Bool.and_false]
    symm
    rw [Bool.and_eq_false_iff]
    by_cases h1 : l = []
    · refine .inl ?_
      rw [h1]; simp
    · by_cases h2 : l.getLastD 0 = 45
      · refine .inr ?_
        rw [decide_eq_true h1, decide_eq_true h2]; simp
      · refine .inl ?_
        rw [need_zero h1 h2]
        simp [hlb]
end Lab
