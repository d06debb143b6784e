/- Sharing a total: rounds of several units at once give what rounds of one unit give. Plain lists and numbers. -/
namespace Jf

/-- One step of a round in which each place that wants more is given e (or what is left). -/
def stepI (e : Int) (ls : List Int) (s : List Int × Int) (i : Nat) : List Int × Int :=
  if s.1.getD i 0 < ls.getD i 0 ∧ 0 < s.2 then (s.1.set i (s.1.getD i 0 + min e s.2), s.2 - min e s.2) else s
def runI (e : Int) (ls : List Int) (s : List Int × Int) : Nat → List Int × Int
  | 0 => s
  | i + 1 => stepI e ls (runI e ls s i) i
/-- A round of ones. -/
def pass (ls : List Int) (s : List Int × Int) : List Int × Int := runI 1 ls s ls.length
def it (ls : List Int) : Nat → List Int × Int → List Int × Int
  | 0, s => s
  | n + 1, s => it ls n (pass ls s)

theorem it_add (ls : List Int) (a b : Nat) (s : List Int × Int) : it ls (a + b) s = it ls b (it ls a s) := by
  induction a generalizing s with
  | zero => simp [it]
  | succ a ih => rw [show a + 1 + b = (a + b) + 1 from by omega]; simp only [it]; exact ih _

theorem it_stable {ls : List Int} {s : List Int × Int} (h : pass ls s = s) (n : Nat) : it ls n s = s := by
  induction n with
  | zero => rfl
  | succ n ih => simp only [it, h, ih]

/-- What ends, ends at one place. -/
theorem it_unique {ls : List Int} {s : List Int × Int} {a b : Nat} (ha : pass ls (it ls a s) = it ls a s) (hb : pass ls (it ls b s) = it ls b s) : it ls a s = it ls b s := by
  rcases Nat.le_total a b with h | h
  · obtain ⟨d, rfl⟩ : ∃ d, b = a + d := ⟨b - a, by omega⟩
    rw [it_add, it_stable ha]
  · obtain ⟨d, rfl⟩ : ∃ d, a = b + d := ⟨a - b, by omega⟩
    rw [it_add, it_stable hb]

theorem stepI_length (e : Int) (ls : List Int) (s : List Int × Int) (i : Nat) : (stepI e ls s i).1.length = s.1.length := by
  unfold stepI; split <;> simp
theorem runI_length (e : Int) (ls : List Int) (s : List Int × Int) (i : Nat) : (runI e ls s i).1.length = s.1.length := by
  induction i with
  | zero => rfl
  | succ i ih => simp only [runI, stepI_length, ih]
theorem pass_length (ls : List Int) (s : List Int × Int) : (pass ls s).1.length = s.1.length := runI_length ..
theorem it_length (ls : List Int) (n : Nat) (s : List Int × Int) : (it ls n s).1.length = s.1.length := by
  induction n generalizing s with
  | zero => rfl
  | succ n ih => simp only [it]; rw [ih, pass_length]

/-- How many of the first n want more. -/
def wantN (ls os : List Int) : Nat → Nat
  | 0 => 0
  | n + 1 => wantN ls os n + if os.getD n 0 < ls.getD n 0 then 1 else 0

theorem wantN_le (ls os : List Int) (n : Nat) : wantN ls os n ≤ n := by
  induction n with
  | zero => exact Nat.le_refl _
  | succ n ih => simp only [wantN]; split <;> omega
theorem wantN_mono (ls os : List Int) {m n : Nat} (h : m ≤ n) : wantN ls os m ≤ wantN ls os n := by
  induction n with
  | zero => have : m = 0 := by omega
            subst this; exact Nat.le_refl _
  | succ n ih =>
    rcases Nat.lt_or_ge n m with h' | h'
    · have : m = n + 1 := by omega
      subst this; exact Nat.le_refl _
    · simp only [wantN]; have := ih h'; omega
theorem wantN_zero {ls os : List Int} {n : Nat} (h : wantN ls os n = 0) : ∀ i, i < n → ¬ os.getD i 0 < ls.getD i 0 := by
  induction n with
  | zero => intro i hi; omega
  | succ n ih =>
    simp only [wantN] at h
    intro i hi
    by_cases e : i = n
    · subst e; intro h'; rw [if_pos h'] at h; omega
    · exact ih (by omega) i (by omega)
theorem wantN_congr {ls os os' : List Int} {n : Nat} (h : ∀ i, i < n → (os.getD i 0 < ls.getD i 0 ↔ os'.getD i 0 < ls.getD i 0)) : wantN ls os n = wantN ls os' n := by
  induction n with
  | zero => rfl
  | succ n ih =>
    simp only [wantN]; rw [ih (fun i hi => h i (by omega))]
    have := h n (by omega)
    by_cases h' : os.getD n 0 < ls.getD n 0
    · rw [if_pos h', if_pos (this.1 h')]
    · rw [if_neg h', if_neg (fun x => h' (this.2 x))]

/-- Who wants more among the first n has e more. -/
def addI (e : Int) (ls os : List Int) (n : Nat) : List Int := (List.range os.length).map fun j => if j < n ∧ os.getD j 0 < ls.getD j 0 then os.getD j 0 + e else os.getD j 0

theorem addI_length (e : Int) (ls os : List Int) (n : Nat) : (addI e ls os n).length = os.length := by simp [addI]
theorem addI_getD (e : Int) (ls os : List Int) (n j : Nat) : (addI e ls os n).getD j 0 = if j < os.length then (if j < n ∧ os.getD j 0 < ls.getD j 0 then os.getD j 0 + e else os.getD j 0) else 0 := by
  unfold addI
  rw [List.getD_eq_getElem?_getD, List.getElem?_map]
  by_cases h : j < os.length
  · rw [List.getElem?_range h, if_pos h]; rfl
  · rw [if_neg h, List.getElem?_eq_none (by simpa using h)]; rfl

theorem ext_getD {a b : List Int} (hl : a.length = b.length) (h : ∀ j, j < a.length → a.getD j 0 = b.getD j 0) : a = b := by
  apply List.ext_getElem hl
  intro j h1 h2
  have := h j h1
  rw [List.getD_eq_getElem?_getD, List.getD_eq_getElem?_getD, List.getElem?_eq_getElem h1, List.getElem?_eq_getElem h2] at this
  exact this

theorem getD_set (l : List Int) (i j : Nat) (v : Int) (hi : i < l.length) : (l.set i v).getD j 0 = if j = i then v else l.getD j 0 := by
  rw [List.getD_eq_getElem?_getD, List.getElem?_set, List.getD_eq_getElem?_getD]
  by_cases h : i = j
  · subst h; simp [hi]
  · rw [if_neg h, if_neg (fun e => h e.symm)]

/-- A round in which all that is given is there. -/
theorem runI_closed {e : Int} {ls os : List Int} {t : Int} (he : 0 < e) (hl : ls.length = os.length) (n : Nat) (hn : n ≤ ls.length) (ht : e * wantN ls os n ≤ t) :
    runI e ls (os, t) n = (addI e ls os n, t - e * wantN ls os n) := by
  induction n with
  | zero =>
    have : addI e ls os 0 = os := ext_getD (addI_length ..) (fun j hj => by rw [addI_length] at hj; rw [addI_getD, if_pos hj, if_neg (by omega)])
    simp [runI, wantN, this]
  | succ n ih =>
    have hw : ((wantN ls os (n + 1) : Nat) : Int) = wantN ls os n + if os.getD n 0 < ls.getD n 0 then 1 else 0 := by
      simp only [wantN]; split <;> omega
    rw [hw, Int.mul_add] at ht
    have hnn : 0 ≤ e * (wantN ls os n : Int) := Int.mul_nonneg (by omega) (by omega)
    have hst : 0 ≤ e * (if os.getD n 0 < ls.getD n 0 then 1 else 0 : Int) := by split <;> omega
    have h1 : e * wantN ls os n ≤ t := by omega
    simp only [runI]
    rw [ih (by omega) h1, hw, Int.mul_add]
    unfold stepI
    have hgn : (addI e ls os n).getD n 0 = os.getD n 0 := by rw [addI_getD, if_pos (by omega), if_neg (by omega)]
    simp only [hgn]
    by_cases h : os.getD n 0 < ls.getD n 0
    · rw [if_pos h] at ht ⊢
      rw [if_pos ⟨h, by omega⟩, Int.min_eq_left (by omega)]
      refine Prod.ext ?_ (by simp only; omega)
      refine ext_getD (by simp [addI_length]) (fun j hj => ?_)
      rw [List.length_set, addI_length] at hj
      rw [getD_set _ _ _ _ (by rw [addI_length]; omega), addI_getD, addI_getD, if_pos hj, if_pos hj]
      by_cases e' : j = n
      · subst e'; rw [if_pos rfl, if_pos ⟨by omega, h⟩]
      · rw [if_neg e']
        by_cases hj' : j < n ∧ os.getD j 0 < ls.getD j 0
        · rw [if_pos hj', if_pos ⟨by omega, hj'.2⟩]
        · rw [if_neg hj', if_neg (fun x => hj' ⟨by omega, x.2⟩)]
    · rw [if_neg h, if_neg (fun x => h x.1)]
      refine Prod.ext ?_ (by simp only; omega)
      refine ext_getD (by simp [addI_length]) (fun j hj => ?_)
      rw [addI_length] at hj
      rw [addI_getD, addI_getD, if_pos hj, if_pos hj]
      by_cases hj' : j < n ∧ os.getD j 0 < ls.getD j 0
      · rw [if_pos hj', if_pos ⟨by omega, hj'.2⟩]
      · rw [if_neg hj', if_neg (fun x => hj' ⟨by
          rcases Nat.lt_or_ge j n with y | y
          · exact y
          · have : j = n := by omega
            subst this; exact absurd x.2 h, x.2⟩)]

/-- So many rounds of ones. -/
theorem it_closed {ls os : List Int} {t : Int} (hl : ls.length = os.length) (k : Nat) (ht : (k : Int) * wantN ls os ls.length ≤ t)
    (hle : ∀ i, i < ls.length → os.getD i 0 < ls.getD i 0 → os.getD i 0 + k ≤ ls.getD i 0) :
    it ls k (os, t) = (addI k ls os ls.length, t - k * wantN ls os ls.length) := by
  induction k generalizing os t with
  | zero =>
    have : addI (0 : Nat) ls os ls.length = os := ext_getD (addI_length ..) (fun j hj => by rw [addI_length] at hj; rw [addI_getD, if_pos hj]; split <;> simp)
    simp only [it]; rw [this]; simp
  | succ k ih =>
    have hk : (((k + 1 : Nat) : Int)) = (k : Int) + 1 := by omega
    rw [hk, Int.add_mul] at ht
    have hnn : 0 ≤ (k : Int) * (wantN ls os ls.length : Int) := Int.mul_nonneg (by omega) (by omega)
    have hp : pass ls (os, t) = (addI 1 ls os ls.length, t - 1 * wantN ls os ls.length) := runI_closed (by decide) hl _ (Nat.le_refl _) (by omega)
    simp only [it]
    rw [hp]
    by_cases hk0 : k = 0
    · subst hk0
      simp [it]
    · have hsame : wantN ls (addI 1 ls os ls.length) ls.length = wantN ls os ls.length := wantN_congr (fun i hi => by
        rw [addI_getD, if_pos (by omega)]
        by_cases h : os.getD i 0 < ls.getD i 0
        · rw [if_pos ⟨hi, h⟩]; have := hle i hi h; constructor <;> intro _ <;> omega
        · rw [if_neg (fun x => h x.2)])
      rw [ih (by rw [addI_length]; exact hl) (by rw [hsame]; omega) (fun i hi h => by
        rw [addI_getD, if_pos (by omega)] at h ⊢
        by_cases h' : os.getD i 0 < ls.getD i 0
        · rw [if_pos ⟨hi, h'⟩]; have := hle i hi h'; omega
        · rw [if_neg (fun x => h' x.2)] at h; exact absurd h h'), hsame]
      refine Prod.ext ?_ (by simp only; rw [hk, Int.add_mul]; omega)
      refine ext_getD (by simp [addI_length]) (fun j hj => ?_)
      rw [addI_length, addI_length] at hj
      rw [addI_getD, addI_getD, addI_getD, addI_length, if_pos hj, if_pos hj, if_pos hj]
      have hj2 : j < ls.length := by omega
      by_cases h : os.getD j 0 < ls.getD j 0
      · have := hle j hj2 h
        have e1 : (if j < ls.length ∧ os.getD j 0 < ls.getD j 0 then os.getD j 0 + 1 else os.getD j 0) = os.getD j 0 + 1 := if_pos ⟨hj2, h⟩
        rw [e1, if_pos ⟨hj2, by omega⟩, if_pos ⟨hj2, h⟩]; omega
      · have e1 : (if j < ls.length ∧ os.getD j 0 < ls.getD j 0 then os.getD j 0 + 1 else os.getD j 0) = os.getD j 0 := if_neg (fun x => h x.2)
        rw [e1, if_neg (fun x => h x.2), if_neg (fun x => h x.2)]

/-- What a round of ones leaves of the total: no more than there was; just as much only if nothing turned. -/
theorem runI_le (ls : List Int) (s : List Int × Int) (n : Nat) : (runI 1 ls s n).2 ≤ s.2 ∧ ((runI 1 ls s n).2 = s.2 → runI 1 ls s n = s) := by
  induction n with
  | zero => exact ⟨Int.le_refl _, fun _ => rfl⟩
  | succ n ih =>
    simp only [runI]
    generalize runI 1 ls s n = r at *
    unfold stepI
    split
    · rename_i h
      have : min 1 r.2 = 1 := by omega
      simp only [this]
      exact ⟨by omega, fun h' => by omega⟩
    · exact ih

/-- Nothing is left, or nobody wants more: nothing turns. -/
theorem pass_nothing {ls os : List Int} {t : Int} (h : t ≤ 0 ∨ wantN ls os ls.length = 0) : pass ls (os, t) = (os, t) := by
  unfold pass
  have : ∀ n, n ≤ ls.length → runI 1 ls (os, t) n = (os, t) := by
    intro n
    induction n with
    | zero => intro _; rfl
    | succ n ih =>
      intro hn
      simp only [runI, ih (by omega)]
      unfold stepI
      rw [if_neg]
      rintro ⟨h1, h2⟩
      rcases h with h | h
      · simp only at h2; omega
      · exact wantN_zero h n (by omega) h1
  exact this _ (Nat.le_refl _)

/-- A round of the program: several units at once. -/
theorem round_is {ls os : List Int} {t e least : Int} (hl : ls.length = os.length) (hw : 0 < wantN ls os ls.length)
    (hleast : ∀ i, i < ls.length → os.getD i 0 < ls.getD i 0 → os.getD i 0 + least ≤ ls.getD i 0) (h1 : 1 ≤ least)
    (he : e = max (min least (t / wantN ls os ls.length)) 1) :
    ∃ j, runI e ls (os, t) ls.length = it ls j (os, t) := by
  have hw' : (0 : Int) < (wantN ls os ls.length : Int) := by omega
  by_cases hq : 1 ≤ t / (wantN ls os ls.length : Int)
  · have e1 : e = min least (t / (wantN ls os ls.length : Int)) := by omega
    have hle : e * wantN ls os ls.length ≤ t := by
      have h2 : e ≤ t / (wantN ls os ls.length : Int) := by omega
      exact Int.le_trans (Int.mul_le_mul_of_nonneg_right h2 (by omega)) (Int.ediv_mul_le _ (by omega))
    obtain ⟨k, rfl⟩ := Int.eq_ofNat_of_zero_le (show 0 ≤ e by omega)
    refine ⟨k, ?_⟩
    rw [runI_closed (by omega) hl _ (Nat.le_refl _) hle, it_closed hl k hle (fun i hi h => by have := hleast i hi h; omega)]
  · have e1 : e = 1 := by omega
    subst e1
    exact ⟨1, rfl⟩

/-- It takes something. -/
theorem round_less {ls os : List Int} {t e : Int} (ht : 0 < t) (hw : 0 < wantN ls os ls.length) (he : 1 ≤ e) :
    (runI e ls (os, t) ls.length).2 < t := by
  -- up to the first that wants more nothing turns; it is given something; then no more comes back
  have hle : ∀ (s : List Int × Int) i, (stepI e ls s i).2 ≤ s.2 := by
    intro s i; unfold stepI; split
    · rename_i h; have : 0 ≤ min e s.2 := by omega
      simp only; omega
    · exact Int.le_refl _
  have key : ∀ n, n ≤ ls.length → (wantN ls os n = 0 → runI e ls (os, t) n = (os, t)) ∧ (0 < wantN ls os n → (runI e ls (os, t) n).2 < t) := by
    intro n
    induction n with
    | zero => intro _; exact ⟨fun _ => rfl, fun h => by simp [wantN] at h⟩
    | succ n ih =>
      intro hn
      obtain ⟨h0, h1⟩ := ih (by omega)
      simp only [runI, wantN]
      by_cases h : os.getD n 0 < ls.getD n 0
      · rw [if_pos h]
        refine ⟨fun h' => by omega, fun _ => ?_⟩
        by_cases hz : wantN ls os n = 0
        · rw [h0 hz]
          unfold stepI
          rw [if_pos ⟨h, ht⟩]
          have : 1 ≤ min e t := by omega
          simp only; omega
        · have := h1 (by omega)
          have := hle (runI e ls (os, t) n) n
          omega
      · rw [if_neg h]
        refine ⟨fun h' => ?_, fun h' => ?_⟩
        · rw [h0 (by omega)]
          unfold stepI
          rw [if_neg (fun x => h x.1)]
        · have := h1 (by omega)
          have := hle (runI e ls (os, t) n) n
          omega
  exact (key _ (Nat.le_refl _)).2 hw

/-- What a round does to each place, and to the total. -/
theorem runI_range {e : Int} {ls os : List Int} {t : Int} (he : 1 ≤ e) (ht : 0 ≤ t) (hl : ls.length = os.length) (n : Nat) (hn : n ≤ ls.length) :
    0 ≤ (runI e ls (os, t) n).2 ∧ (runI e ls (os, t) n).2 ≤ t ∧ ∀ j, (n ≤ j → (runI e ls (os, t) n).1.getD j 0 = os.getD j 0) ∧ os.getD j 0 ≤ (runI e ls (os, t) n).1.getD j 0 ∧
      (runI e ls (os, t) n).1.getD j 0 ≤ os.getD j 0 + e ∧ (¬ os.getD j 0 < ls.getD j 0 → (runI e ls (os, t) n).1.getD j 0 = os.getD j 0) := by
  induction n with
  | zero => exact ⟨ht, Int.le_refl _, fun j => ⟨fun _ => rfl, Int.le_refl _, by simp only [runI]; omega, fun _ => rfl⟩⟩
  | succ n ih =>
    obtain ⟨h1, h2, h3⟩ := ih (by omega)
    have hlen := runI_length e ls (os, t) n
    simp only [runI]
    generalize runI e ls (os, t) n = r at *
    unfold stepI
    split
    · rename_i h
      have hm : 0 ≤ min e r.2 ∧ min e r.2 ≤ e ∧ min e r.2 ≤ r.2 := by omega
      refine ⟨by simp only; omega, by simp only; omega, fun j => ?_⟩
      simp only
      rw [getD_set _ _ _ _ (by rw [hlen]; simp only; omega)]
      obtain ⟨k1, k2, k3, k4⟩ := h3 j
      by_cases e' : j = n
      · subst e'
        have := k1 (Nat.le_refl _)
        rw [if_pos rfl]
        exact ⟨fun h => by omega, by omega, by omega, fun hh => by omega⟩
      · rw [if_neg e']
        exact ⟨fun h => k1 (by omega), k2, k3, k4⟩
    · refine ⟨h1, h2, fun j => ?_⟩
      obtain ⟨k1, k2, k3, k4⟩ := h3 j
      exact ⟨fun h => k1 (by omega), k2, k3, k4⟩

end Jf
