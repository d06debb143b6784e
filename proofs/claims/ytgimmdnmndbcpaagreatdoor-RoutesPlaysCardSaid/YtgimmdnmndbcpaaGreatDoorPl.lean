/- Texts cut at a byte; labels and names, in plain Lean. -/
import Derived.Lib.SplitLaws
set_option linter.unusedVariables false
set_option linter.unusedSimpArgs false
namespace Lab
open Go.Lib

/-- A text cut at '.'. -/
def spl : List UInt8 → List (List UInt8)
  | [] => [[]]
  | c :: t => if c = 46 then [] :: spl t else (c :: (spl t).headD []) :: (spl t).tail
theorem spl_ne (l : List UInt8) : spl l ≠ [] := by
  cases l with
  | nil => simp [spl]
  | cons c t => unfold spl; split <;> simp
theorem spl_form (l : List UInt8) : ∃ h r, spl l = h :: r := by
  cases e : spl l with
  | nil => exact absurd e (spl_ne l)
  | cons h r => exact ⟨h, r, rfl⟩
theorem spl_length (l : List UInt8) : (spl l).length = l.count 46 + 1 := by
  induction l with
  | nil => rfl
  | cons c t ih =>
    unfold spl
    split
    · rename_i h; subst h; simp [ih]
    · rename_i h
      obtain ⟨a, r, e⟩ := spl_form t
      rw [List.count_cons_of_ne (by simpa using h), ← ih, e]
      simp
theorem spl_le (l : List UInt8) : ∀ p ∈ spl l, p.length ≤ l.length := by
  induction l with
  | nil => intro p hp; simp [spl] at hp; simp [hp]
  | cons c t ih =>
    intro p hp
    unfold spl at hp
    split at hp
    · rcases List.mem_cons.1 hp with rfl | h
      · simp
      · have := ih p h; simp; omega
    · obtain ⟨a, r, e⟩ := spl_form t
      rw [e] at hp ih
      simp only [List.headD_cons, List.tail_cons] at hp
      rcases List.mem_cons.1 hp with rfl | h
      · have := ih a (by simp); simp; omega
      · have := ih p (by simp [h]); simp; omega
theorem index_cons (c d : UInt8) (t : List UInt8) (h : c ≠ d) : index (c :: t) [d] = if index t [d] == -1 then -1 else index t [d] + 1 := by
  have hp : ([d] : List UInt8).isPrefixOf (c :: t) = false := by simp [List.isPrefixOf, Ne.symm h]
  rw [index, hp]; simp
theorem splitK_spl (l : List UInt8) : splitK [46] 0 (l.count 46) l = spl l := by
  induction l with
  | nil => rfl
  | cons c t ih =>
    by_cases h : c = 46
    · subst h
      have hix : index (46 :: t) [46] = 0 := by rw [index]; simp [List.isPrefixOf]
      rw [List.count_cons_self, splitK, hix, spl, if_pos rfl, ← ih]
      simp
    · rw [List.count_cons_of_ne (by simpa using h), spl, if_neg h, ← ih]
      cases hk : t.count 46 with
      | zero => simp [splitK]
      | succ k =>
        have hne : index t [46] ≠ -1 := by
          intro e
          have := count_miss e
          rw [count_one] at this
          omega
        have hge := index_ge t [46]
        obtain ⟨j, hj⟩ : ∃ j : Nat, index t [46] = j := ⟨(index t [46]).toNat, by omega⟩
        rw [splitK, splitK, index_cons c 46 t h, hj]
        have e1 : ((j : Int) == -1) = false := by simp
        rw [e1]
        have e2 : (((j : Int) + 1) == -1) = false := by simp; omega
        simp only [Bool.false_eq_true, if_false, e2]
        have e3 : ((j : Int) + 1).toNat = j + 1 := by omega
        rw [e3]
        simp [Nat.add_right_comm]

/-- One byte more. -/
theorem spl_snoc (l : List UInt8) (c : UInt8) : spl (l ++ [c]) = if c = 46 then spl l ++ [[]] else (spl l).dropLast ++ [(spl l).getLastD [] ++ [c]] := by
  induction l with
  | nil => by_cases h : c = 46 <;> simp [spl, h]
  | cons d t ih =>
    obtain ⟨a, r, e⟩ := spl_form t
    rw [List.cons_append, spl, ih, spl, e]
    by_cases hd : d = 46
    · by_cases h : c = 46
      · simp [hd, h]
      · simp [hd, h]
    · by_cases h : c = 46
      · simp [hd, h]
      · cases r with
        | nil => simp [hd, h]
        | cons b r => simp [hd, h]
theorem spl_snoc_set (l : List UInt8) (c : UInt8) (h : c ≠ 46) : spl (l ++ [c]) = (spl l).set ((spl l).length - 1) ((spl l).getD ((spl l).length - 1) [] ++ [c]) := by
  have hne := spl_ne l
  rw [spl_snoc, if_neg h]
  generalize spl l = L at *
  have hl : L.length - 1 = L.dropLast.length := by simp
  have h1 : L.getLastD [] = L.getLast hne := by rw [List.getLastD_eq_getLast?, List.getLast?_eq_some_getLast hne]; rfl
  have h2 : L.getD (L.length - 1) [] = L.getLast hne := by
    rw [List.getD_eq_getElem?_getD, ← List.getLast?_eq_getElem?, List.getLast?_eq_some_getLast hne]; rfl
  rw [h1, h2]
  generalize hx : L.getLast hne = x
  have e : L = L.dropLast ++ [x] := by rw [← hx]; exact (List.dropLast_concat_getLast hne).symm
  generalize L.dropLast = D at *
  subst e
  simp

def byOk (c : UInt8) : Bool := (decide (97 ≤ c.toNat) && decide (c.toNat ≤ 122)) || (decide (48 ≤ c.toNat) && decide (c.toNat ≤ 57)) || decide (c.toNat = 45)
/-- A label. -/
def labOk (l : List UInt8) : Bool := decide (1 ≤ l.length) && decide (l.length ≤ 16) && !decide (l.headD 0 = 45) && !decide (l.getLastD 0 = 45) && l.all byOk
/-- A name. -/
def nmOk (l : List UInt8) : Bool := decide (l.length ≤ 63) && decide ((spl l).length ≤ 8) && (spl l).all labOk
/-- Is a pattern a wild one? Its name. -/
def wld (l : List UInt8) : Bool := ([42, 46] : List UInt8).isPrefixOf l
def tl (l : List UInt8) : List UInt8 := if wld l then l.drop 2 else l
theorem tl_le (l : List UInt8) : (tl l).length ≤ l.length := by unfold tl; split <;> simp
def patOk (l : List UInt8) : Bool := decide (l.length ≤ 63) && nmOk (tl l)
theorem nmOk_le {l : List UInt8} (h : nmOk l = true) : l.length ≤ 63 := by
  simp [nmOk] at h
  exact h.1.1
theorem nmOk_nil : nmOk [] = false := by decide
theorem nmOk_star : nmOk [42, 46] = false := by decide
theorem wld_iff (l : List UInt8) : wld l = true ↔ l.take 2 = [42, 46] := by
  unfold wld
  rw [List.isPrefixOf_iff_prefix, List.prefix_iff_eq_take]
  exact eq_comm
theorem patOk_wild {l : List UInt8} (h : wld l = true) : patOk l = (nmOk (l.drop 2) && decide (l.length ≤ 63)) := by
  rw [patOk, tl, if_pos h, Bool.and_comm]
theorem patOk_plain {l : List UInt8} (h : ¬ (2 < l.length ∧ wld l = true)) : patOk l = nmOk l := by
  by_cases hw : wld l = true
  · have hl : l.length ≤ 2 := by
      rcases Nat.lt_or_ge 2 l.length with h' | h'
      · exact absurd ⟨h', hw⟩ h
      · exact h'
    have e := (wld_iff l).1 hw
    have e2 : l = [42, 46] := by rw [← e, List.take_of_length_le hl]
    rw [e2]
    decide
  · rw [patOk, tl, if_neg hw]
    cases hn : nmOk l with
    | false => simp
    | true => have := nmOk_le hn; simp [this]
def fits (p n : List UInt8) : Bool := patOk p && nmOk n && (if wld p then (46 :: tl p).isSuffixOf n else p == n)
/-- Pieces with '.' between. -/
def jn : List (List UInt8) → List UInt8
  | [] => []
  | x :: r => if r = [] then x else x ++ 46 :: jn r
theorem jn_one (x : List UInt8) : jn [x] = x := by simp [jn]
theorem jn_cons (x : List UInt8) (r : List (List UInt8)) (h : r ≠ []) : jn (x :: r) = x ++ 46 :: jn r := by rw [jn, if_neg h]
theorem jn_spl (l : List UInt8) : jn (spl l) = l := by
  induction l with
  | nil => simp [spl, jn]
  | cons c t ih =>
    unfold spl
    split
    · rename_i h
      subst h
      rw [jn_cons _ _ (spl_ne t), ih]
      rfl
    · obtain ⟨a, r, e⟩ := spl_form t
      rw [e] at ih ⊢
      simp only [List.headD_cons, List.tail_cons]
      by_cases hr : r = []
      · subst hr
        rw [jn_one] at ih ⊢
        rw [ih]
      · rw [jn_cons _ _ hr] at ih ⊢
        rw [List.cons_append, ih]
theorem jn_append (X Y : List (List UInt8)) (hX : X ≠ []) (hY : Y ≠ []) : jn (X ++ Y) = jn X ++ 46 :: jn Y := by
  induction X with
  | nil => exact absurd rfl hX
  | cons x r ih =>
    by_cases hr : r = []
    · subst hr
      rw [jn_one]
      exact jn_cons x Y hY
    · rw [List.cons_append, jn_cons _ _ (by simp [hr]), ih hr, jn_cons _ _ hr, List.append_assoc]
      rfl
theorem spl_append (u t : List UInt8) : spl (u ++ 46 :: t) = spl u ++ spl t := by
  induction u with
  | nil => simp [spl]
  | cons c u ih =>
    obtain ⟨a, r, e⟩ := spl_form u
    rw [List.cons_append, spl, ih, spl, e]
    by_cases h : c = 46
    · simp [h]
    · simp [h]
theorem suffix_spl (t n : List UInt8) : (46 :: t).isSuffixOf n = true ↔ (spl t).length < (spl n).length ∧ ∀ j, j < (spl t).length → (spl t).getD j [] = (spl n).getD ((spl n).length - (spl t).length + j) [] := by
  rw [List.isSuffixOf_iff_suffix]
  constructor
  · rintro ⟨u, rfl⟩
    rw [spl_append]
    have hu : 0 < (spl u).length := List.length_pos_iff.2 (spl_ne u)
    refine ⟨by simp; omega, fun j hj => ?_⟩
    rw [List.getD_eq_getElem?_getD, List.getD_eq_getElem?_getD, List.getElem?_append_right (by simp)]
    congr 2
    simp
  · rintro ⟨h1, h2⟩
    have e : spl n = (spl n).take ((spl n).length - (spl t).length) ++ spl t := by
      refine List.ext_getElem? fun j => ?_
      rcases Nat.lt_or_ge j ((spl n).length - (spl t).length) with h | h
      · rw [List.getElem?_append_left (by simp; omega), List.getElem?_take_of_lt h]
      · rw [List.getElem?_append_right (by simp; omega)]
        rcases Nat.lt_or_ge j (spl n).length with h' | h'
        · have := h2 (j - ((spl n).length - (spl t).length)) (by omega)
          rw [show (spl n).length - (spl t).length + (j - ((spl n).length - (spl t).length)) = j by omega, List.getD_eq_getElem?_getD, List.getD_eq_getElem?_getD, List.getElem?_eq_getElem h', List.getElem?_eq_getElem (by omega)] at this
          rw [List.getElem?_eq_getElem h', List.getElem?_eq_getElem (by simp; omega)]
          simp only [Option.getD_some] at this
          rw [← this]
          congr 1
          simp
        · rw [List.getElem?_eq_none h', List.getElem?_eq_none (by simp; omega)]
    refine ⟨jn ((spl n).take ((spl n).length - (spl t).length)), ?_⟩
    have := congrArg jn e
    rw [jn_spl, jn_append _ _ (by intro e2; have := congrArg List.length e2; simp at this; omega) (spl_ne t), jn_spl] at this
    exact this.symm
end Lab
