/- First lines, in plain Lean: begins as the program asks it; Can; the reference's Walk; Feed. -/
import Derived.Test.YtfphfljndhideaaDoorSp
namespace Lab
open Go.Lib

theorem spl_no46 (s : List UInt8) : ∀ p ∈ spl s, (46 : UInt8) ∉ p := by
  induction s with
  | nil => intro p hp; simp [spl] at hp; simp [hp]
  | cons c t ih =>
    intro p hp
    unfold spl at hp
    split at hp
    · rcases List.mem_cons.1 hp with rfl | h
      · simp
      · exact ih p h
    · rename_i h46
      obtain ⟨a, r, e⟩ := spl_form t
      rw [e] at hp ih
      simp only [List.headD_cons, List.tail_cons] at hp
      rcases List.mem_cons.1 hp with rfl | h
      · have := ih a (by simp)
        intro hm
        rcases List.mem_cons.1 hm with e | e
        · exact h46 e.symm
        · exact this e
      · exact ih p (by simp [h])
theorem spl_flat (p : List UInt8) (h : (46 : UInt8) ∉ p) : spl p = [p] := by
  induction p with
  | nil => rfl
  | cons c t ih =>
    have h1 : c ≠ 46 := fun e => h (by rw [e]; simp)
    have h2 : (46 : UInt8) ∉ t := fun e => h (by simp [e])
    rw [spl, if_neg h1, ih h2]
    rfl
theorem spl_jn (X : List (List UInt8)) (hX : X ≠ []) (h : ∀ p ∈ X, (46 : UInt8) ∉ p) : spl (jn X) = X := by
  induction X with
  | nil => exact absurd rfl hX
  | cons x r ih =>
    by_cases hr : r = []
    · subst hr
      rw [jn_one]
      exact spl_flat x (h x (by simp))
    · rw [jn_cons x r hr, spl_append, ih hr (fun p hp => h p (by simp [hp])), spl_flat x (h x (by simp))]
      rfl
theorem nm_flat (p : List UInt8) (h : (46 : UInt8) ∉ p) : nmOk p = labOk p := by
  rw [nmOk, spl_flat p h]
  cases hl : labOk p with
  | false => simp [hl]
  | true =>
    have := ((labOk_def p).1 hl).2.1
    simp [hl]
    omega
theorem nm_jn (X : List (List UInt8)) (hX : X ≠ []) (h : ∀ p ∈ X, (46 : UInt8) ∉ p) : nmOk (jn X) = (decide ((jn X).length ≤ 63) && decide (X.length ≤ 8) && X.all labOk) := by
  rw [nmOk, spl_jn X hX h]
/-- What stands ahead of the last label. -/
def ahd (s : List UInt8) : List UInt8 := s.take (s.length - (lst s).length)
theorem ahd_form (s : List UInt8) : ((spl s).dropLast = [] ∧ ahd s = []) ∨ ((spl s).dropLast ≠ [] ∧ ahd s = jn (spl s).dropLast ++ [46] ∧ s.length = (jn (spl s).dropLast).length + 1 + (lst s).length) := by
  have hsp := spl_split s
  have hj := jn_spl s
  by_cases h : (spl s).dropLast = []
  · refine .inl ⟨h, ?_⟩
    rw [h] at hsp
    rw [hsp, List.nil_append, jn_one] at hj
    rw [ahd, hj]
    simp
  · refine .inr ⟨h, ?_⟩
    rw [hsp, jn_append _ _ h (by simp), jn_one] at hj
    have hl : s.length = (jn (spl s).dropLast).length + 1 + (lst s).length := by
      rw [← congrArg List.length hj]
      simp
      omega
    refine ⟨?_, hl⟩
    have e : s = (jn (spl s).dropLast ++ [46]) ++ lst s := by rw [List.append_assoc]; exact hj.symm
    have hl2 : s.length - (lst s).length = (jn (spl s).dropLast ++ [46]).length := by simp; omega
    rw [ahd, hl2]
    exact (congrArg (List.take (jn (spl s).dropLast ++ [46]).length) e).trans List.take_left
theorem trim_dot (x : List UInt8) : trimSuffix (x ++ [46]) [46] = x := by
  rw [trimSuffix, hasSuffix, if_pos (by rw [List.isSuffixOf_iff_suffix]; exact List.suffix_append _ _)]
  simp
theorem lst_no46 (s : List UInt8) : (46 : UInt8) ∉ lst s := by
  refine spl_no46 s _ ?_
  rw [spl_split s]
  simp
theorem lst_len (s : List UInt8) : (lst s).length ≤ s.length := by
  refine spl_le s _ ?_
  rw [spl_split s]
  simp
theorem init_len (s : List UInt8) : (spl s).dropLast.length + 1 = (spl s).length := by
  have := List.length_pos_iff.2 (spl_ne s)
  simp
  omega
/-- How the program asks it. -/
theorem beg_many (s : List UInt8) (h : 8 < (spl s).length) : beg s = false := by
  rw [beg, decide_eq_false (by omega)]
  rfl
theorem nm_ahd (s : List UInt8) (h : ahd s ≠ []) : (spl s).dropLast ≠ [] ∧ nmOk (trimSuffix (ahd s) [46]) = (decide ((jn (spl s).dropLast).length ≤ 63) && decide ((spl s).dropLast.length ≤ 8) && (spl s).dropLast.all labOk) ∧ s.length = (jn (spl s).dropLast).length + 1 + (lst s).length := by
  rcases ahd_form s with ⟨_, e⟩ | ⟨hne, e, hl⟩
  · exact absurd e h
  · refine ⟨hne, ?_, hl⟩
    rw [e, trim_dot]
    exact nm_jn _ hne (fun p hp => spl_no46 s p (List.dropLast_subset _ hp))
theorem beg_ahead (s : List UInt8) (h : ahd s ≠ []) (hn : nmOk (trimSuffix (ahd s) [46]) = false) : beg s = false := by
  obtain ⟨_, e, hl⟩ := nm_ahd s h
  rw [e] at hn
  rw [Bool.eq_false_iff]
  intro hb
  rw [beg, Bool.and_eq_true, Bool.and_eq_true, Bool.and_eq_true, decide_eq_true_eq, decide_eq_true_eq] at hb
  obtain ⟨⟨⟨h1, h2⟩, h3⟩, _⟩ := hb
  have hi := init_len s
  rw [h2, decide_eq_true (by omega), decide_eq_true (by omega)] at hn
  exact absurd hn (by simp)
theorem rep_take (l : List UInt8) : List.replicate (need l) (97 : UInt8) = ([97] : List UInt8).take (need l) := by
  unfold need; split <;> rfl
theorem beg_size (s : List UInt8) (h : 16 < (lst s).length + need (lst s) ∨ 63 < s.length + need (lst s)) : beg s = false := by
  rw [Bool.eq_false_iff]
  intro hb
  rw [beg, Bool.and_eq_true, Bool.and_eq_true, Bool.and_eq_true, decide_eq_true_eq, decide_eq_true_eq] at hb
  obtain ⟨⟨_, h3⟩, h4⟩ := hb
  have := ((labOk_def _).1 h4).2.1
  rw [List.length_append, List.length_replicate] at this
  omega
theorem beg_last (s : List UInt8) (h1 : (spl s).length ≤ 8) (h2 : ahd s ≠ [] → nmOk (trimSuffix (ahd s) [46]) = true) (h3 : s.length + need (lst s) ≤ 63) : beg s = nmOk (lst s ++ ([97] : List UInt8).take (need (lst s))) := by
  have hall : (spl s).dropLast.all labOk = true := by
    by_cases h : ahd s = []
    · rcases ahd_form s with ⟨e, _⟩ | ⟨_, e, _⟩
      · rw [e]; rfl
      · rw [h] at e
        exact absurd e.symm (by simp)
    · obtain ⟨_, e, _⟩ := nm_ahd s h
      have := h2 h
      rw [e, Bool.and_eq_true] at this
      exact this.2
  rw [beg, hall, decide_eq_true h1, decide_eq_true h3, ← rep_take]
  rw [nm_flat _ (fun hm => by
    rcases List.mem_append.1 hm with h | h
    · exact lst_no46 s h
    · rw [List.mem_replicate] at h
      exact absurd h.2 (by decide))]
  rfl

/-- The line, and whether it is ended. -/
def lin (b : List UInt8) : List UInt8 := b.takeWhile fun c => decide (c ≠ 10)
def fin (b : List UInt8) : Bool := decide ((10 : UInt8) ∈ b)
def word : List UInt8 := [116, 111, 32]
theorem cut_fin (b : List UInt8) : (cut b [10]).1 = lin b ∧ (cut b [10]).2.2 = fin b := by
  have key : (0 ≤ index b [10] ∧ b.take (index b [10]).toNat = lin b ∧ fin b = true) ∨ (index b [10] = -1 ∧ b = lin b ∧ fin b = false) := by
    induction b with
    | nil => exact .inr ⟨by rw [index]; rfl, rfl, rfl⟩
    | cons c t ih =>
      by_cases h : c = 10
      · refine .inl ?_
        subst h
        have hix : index (10 :: t) [10] = 0 := by rw [index]; simp [List.isPrefixOf]
        rw [hix]
        exact ⟨by omega, by simp [lin], by simp [fin]⟩
      · rw [index_cons c 10 t h]
        have hl : lin (c :: t) = c :: lin t := by rw [lin, List.takeWhile_cons_of_pos (by simpa using h)]; rfl
        have hf : fin (c :: t) = fin t := by
          rw [fin, fin, decide_eq_decide]
          constructor
          · intro hm
            rcases List.mem_cons.1 hm with e | e
            · exact absurd e.symm h
            · exact e
          · intro hm; simp [hm]
        rw [hl, hf]
        rcases ih with ⟨h1, h2, h3⟩ | ⟨h1, h2, h3⟩
        · refine .inl ?_
          have : ¬ (index t [10] == -1) = true := by simp; omega
          rw [if_neg this]
          refine ⟨by omega, ?_, h3⟩
          rw [show (index t [10] + 1).toNat = (index t [10]).toNat + 1 by omega, List.take_succ_cons, h2]
        · refine .inr ?_
          rw [if_pos (by simp [h1])]
          exact ⟨rfl, by rw [← h2], h3⟩
  rw [cut]
  rcases key with ⟨h1, h2, h3⟩ | ⟨h1, h2, h3⟩
  · rw [if_pos h1]; exact ⟨h2, h3.symm⟩
  · rw [if_neg (by omega)]; exact ⟨h2, h3.symm⟩
/-- Can bytes become a first line? -/
def canB (b : List UInt8) : Bool :=
  if (lin b).length < 3 then !fin b && (lin b).isPrefixOf word
  else if word.isPrefixOf (lin b) then (if fin b then nmOk ((lin b).drop 3) else beg ((lin b).drop 3)) else false
theorem tw_self (p : UInt8 → Bool) (l : List UInt8) : l.takeWhile p = l ↔ ∀ x ∈ l, p x = true := by
  induction l with
  | nil => simp
  | cons a r ih =>
    rw [List.takeWhile_cons]
    cases h : p a with
    | true => simp [ih, h]
    | false => simp [h]
theorem lin_no (b : List UInt8) (h : (10 : UInt8) ∉ b) : lin b = b ∧ fin b = false := by
  refine ⟨?_, by rw [fin]; exact decide_eq_false h⟩
  rw [lin, tw_self]
  intro x hx
  simp
  rintro rfl
  exact h hx
theorem lin_more (b x : List UInt8) (h : (10 : UInt8) ∈ b) : lin (b ++ x) = lin b ∧ fin (b ++ x) = true ∧ fin b = true := by
  refine ⟨?_, by simp [fin, h], by simp [fin, h]⟩
  rw [lin, lin, List.takeWhile_append, if_neg]
  intro e
  have := (tw_self _ _).1 (List.Sublist.eq_of_length (List.takeWhile_sublist _) e) 10 h
  simp at this
theorem can_more (b x : List UInt8) (h : (10 : UInt8) ∈ b) : canB (b ++ x) = canB b := by
  obtain ⟨h1, h2, h3⟩ := lin_more b x h
  rw [canB, canB, h1, h2, h3]
theorem lin_end (b : List UInt8) (h : (10 : UInt8) ∉ b) : lin (b ++ [10]) = b ∧ fin (b ++ [10]) = true := by
  refine ⟨?_, by simp [fin]⟩
  rw [lin, List.takeWhile_append, if_pos (by have := (lin_no b h).1; rw [lin] at this; rw [this])]
  simp
theorem can_no (b : List UInt8) (h : (10 : UInt8) ∉ b) : canB b = if b.length < 3 then b.isPrefixOf word else word.isPrefixOf b && beg (b.drop 3) := by
  obtain ⟨h1, h2⟩ := lin_no b h
  rw [canB, h1, h2]
  by_cases h3 : b.length < 3
  · rw [if_pos h3, if_pos h3]; rfl
  · rw [if_neg h3, if_neg h3]
    cases word.isPrefixOf b <;> simp
def endOk (b : List UInt8) : Bool := decide (3 ≤ b.length) && decide (lst (b.drop 3) ≠ []) && !dsh (b.drop 3)
theorem can_end (b : List UInt8) (h : (10 : UInt8) ∉ b) : canB (b ++ [10]) = (canB b && endOk b) := by
  obtain ⟨h1, h2⟩ := lin_end b h
  rw [can_no b h, canB, h1, h2, endOk]
  by_cases h3 : b.length < 3
  · rw [if_pos h3, decide_eq_false (show ¬ 3 ≤ b.length by omega)]
    simp
  · rw [if_neg h3, if_neg h3, decide_eq_true (show 3 ≤ b.length by omega), if_pos rfl, nm_beg]
    cases word.isPrefixOf b
    · simp
    · simp [Bool.and_assoc]
def okW (b : List UInt8) (c : UInt8) : Bool := if b.length < 3 then decide (c = word.getD b.length 0) else okc (b.drop 3) c
theorem can_snoc (b : List UInt8) (c : UInt8) (h : (10 : UInt8) ∉ b) (hc : c ≠ 10) : canB (b ++ [c]) = (canB b && okW b c) := by
  have h' : (10 : UInt8) ∉ b ++ [c] := fun hm => by
    rcases List.mem_append.1 hm with e | e
    · exact h e
    · simp at e; exact hc e.symm
  rw [can_no b h, can_no _ h', okW]
  rcases (show b.length < 2 ∨ b.length = 2 ∨ 3 ≤ b.length by omega) with h2 | h2 | h2
  · rw [if_pos (show b.length < 3 by omega), if_pos (show (b ++ [c]).length < 3 by simp; omega), if_pos (show b.length < 3 by omega)]
    match b, h2 with
    | [], _ => simp [word, List.isPrefixOf, Bool.beq_eq_decide_eq]
    | [x], _ => simp [word, List.isPrefixOf, Bool.beq_eq_decide_eq]
  · match b, h2 with
    | [x, y], _ =>
      rw [if_pos (show ([x, y] : List UInt8).length < 3 by simp), if_neg (by simp), if_pos (show ([x, y] : List UInt8).length < 3 by simp)]
      have : beg (([x, y] ++ [c]).drop 3) = true := beg_nil
      rw [this, Bool.and_true]
      simp only [word, List.cons_append, List.nil_append, List.isPrefixOf, Bool.and_true, List.length_cons, List.length_nil, List.getD_cons_succ, List.getD_cons_zero]
      rw [Bool.eq_iff_iff]
      simp only [Bool.and_eq_true, beq_iff_eq, decide_eq_true_eq]
      constructor
      · rintro ⟨rfl, rfl, rfl⟩; exact ⟨⟨rfl, rfl⟩, rfl⟩
      · rintro ⟨⟨rfl, rfl⟩, rfl⟩; exact ⟨rfl, rfl, rfl⟩
  · rw [if_neg (show ¬ b.length < 3 by omega), if_neg (show ¬ (b ++ [c]).length < 3 by simp; omega), if_neg (show ¬ b.length < 3 by omega)]
    have e1 : (b ++ [c]).drop 3 = b.drop 3 ++ [c] := by rw [List.drop_append_of_le_length h2]
    have e2 : word.isPrefixOf (b ++ [c]) = word.isPrefixOf b := by
      rw [Bool.eq_iff_iff, List.isPrefixOf_iff_prefix, List.isPrefixOf_iff_prefix]
      constructor
      · intro hp
        exact List.prefix_of_prefix_length_le hp (List.prefix_append _ _) (by simpa [word] using h2)
      · intro hp
        exact hp.trans (List.prefix_append _ _)
    rw [e1, e2, beg_snoc, Bool.and_assoc]
theorem can_step (b : List UInt8) (c : UInt8) (h : canB (b ++ [c]) = true) : canB b = true := by
  by_cases h10 : (10 : UInt8) ∈ b
  · rw [can_more b [c] h10] at h; exact h
  · by_cases hc : c = 10
    · subst hc
      rw [can_end b h10, Bool.and_eq_true] at h
      exact h.1
    · rw [can_snoc b c h10 hc, Bool.and_eq_true] at h
      exact h.1
theorem can_pre (x y : List UInt8) (h : canB (x ++ y) = true) : canB x = true := by
  induction y generalizing x with
  | nil => rw [List.append_nil] at h; exact h
  | cons c r ih =>
    have := ih (x ++ [c]) (by rw [List.append_assoc]; exact h)
    exact can_step x c this
/-- The reference's Walk: how many bytes are right, and whether the line is ended by the last of these. -/
def wlk : List UInt8 → List UInt8 → Nat × Bool
  | pre, [] => (pre.length, false)
  | pre, c :: r => if c = 10 then (if endOk pre then (pre.length + 1, true) else (pre.length, false)) else if okW pre c then wlk (pre ++ [c]) r else (pre.length, false)
theorem wlk_law (r : List UInt8) : ∀ pre : List UInt8, (10 : UInt8) ∉ pre → canB pre = true → canB (pre ++ r) = ((wlk pre r).2 || decide ((wlk pre r).1 = pre.length + r.length)) := by
  induction r with
  | nil => intro pre h1 h2; rw [List.append_nil, h2, wlk]; simp
  | cons c r ih =>
    intro pre h1 h2
    have e : pre ++ c :: r = (pre ++ [c]) ++ r := by simp
    rw [wlk]
    by_cases hc : c = 10
    · rw [if_pos hc]
      subst hc
      rw [e, can_more _ r (by simp), can_end pre h1, h2]
      cases he : endOk pre
      · simp
      · simp
    · rw [if_neg hc]
      have hs := can_snoc pre c h1 hc
      rw [h2, Bool.true_and] at hs
      cases ho : okW pre c with
      | true =>
        rw [if_pos rfl, e, ih (pre ++ [c]) (fun hm => by
          rcases List.mem_append.1 hm with e | e
          · exact h1 e
          · simp at e; exact hc e.symm) (hs.trans ho)]
        simp only [List.length_append, List.length_cons, List.length_nil]
        rw [show pre.length + (0 + 1) + r.length = pre.length + (r.length + 1) by omega]
      | false =>
        have : canB (pre ++ c :: r) = false := by
          rw [Bool.eq_false_iff]
          intro h
          rw [e] at h
          have := can_pre _ _ h
          rw [hs, ho] at this
          exact absurd this (by simp)
        rw [this]
        simp
theorem can_nil : canB [] = true := by decide
theorem wlk_can (b : List UInt8) : canB b = ((wlk [] b).2 || decide ((wlk [] b).1 = b.length)) := by
  have := wlk_law b [] (by simp) can_nil
  simpa using this
end Lab
