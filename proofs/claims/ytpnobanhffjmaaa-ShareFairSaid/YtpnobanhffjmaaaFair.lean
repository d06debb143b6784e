/- Turns by whole weights: whoever has the greatest turn is picked and pays the total: how often each one is picked. Plain arithmetic. -/
namespace Jf

/-- The sum of f below k. -/
def sm : Nat → (Nat → Int) → Int
  | 0, _ => 0
  | k + 1, f => sm k f + f k

theorem sm_congr {k : Nat} {f g : Nat → Int} (h : ∀ i, i < k → f i = g i) : sm k f = sm k g := by
  induction k with
  | zero => rfl
  | succ k ih => simp only [sm]; rw [ih (fun i hi => h i (by omega)), h k (by omega)]

theorem sm_add (k : Nat) (f g : Nat → Int) : sm k (fun i => f i + g i) = sm k f + sm k g := by
  induction k with
  | zero => rfl
  | succ k ih => simp only [sm]; rw [ih]; omega

theorem sm_mul (k : Nat) (c : Int) (f : Nat → Int) : sm k (fun i => c * f i) = c * sm k f := by
  induction k with
  | zero => simp [sm]
  | succ k ih => simp only [sm]; rw [ih, Int.mul_add]

theorem sm_le {k : Nat} {f g : Nat → Int} (h : ∀ i, i < k → f i ≤ g i) : sm k f ≤ sm k g := by
  induction k with
  | zero => exact Int.le_refl _
  | succ k ih => simp only [sm]; have := ih (fun i hi => h i (by omega)); have := h k (by omega); omega

theorem sm_zero (k : Nat) : sm k (fun _ => 0) = 0 := by
  induction k with
  | zero => rfl
  | succ k ih => simp only [sm]; rw [ih]; rfl

theorem sm_const (k : Nat) (c : Int) : sm k (fun _ => c) = k * c := by
  induction k with
  | zero => simp [sm]
  | succ k ih => simp only [sm]; rw [ih, show ((k + 1 : Nat) : Int) = (k : Int) + 1 from by omega, Int.add_mul]; omega

/-- One place more. -/
theorem sm_one (k b : Nat) (hb : b < k) (c : Int) : sm k (fun i => if i = b then c else 0) = c := by
  induction k with
  | zero => omega
  | succ k ih =>
    simp only [sm]
    by_cases h : b = k
    · subst h
      rw [sm_congr (g := fun _ => 0) (fun i hi => by rw [if_neg (by omega)]), sm_zero, if_pos rfl]; omega
    · rw [ih (by omega), if_neg (by omega)]; omega

/-- How often i was picked. -/
def cnt (ps : List Nat) (i : Nat) : Int := (ps.count i : Nat)

theorem cnt_snoc (ps : List Nat) (b i : Nat) : cnt (ps ++ [b]) i = cnt ps i + if i = b then 1 else 0 := by
  unfold cnt
  rw [List.count_append, List.count_singleton]
  by_cases h : i = b
  · subst h; simp
  · have h' : (b == i) = false := by simp; omega
    simp [h, h']

/-- The turn of i behind these picks. -/
def tn (w : Nat → Int) (W : Int) (ps : List Nat) (i : Nat) : Int := ps.length * w i - cnt ps i * W

theorem tn_snoc (w : Nat → Int) (W : Int) (ps : List Nat) (b i : Nat) : tn w W (ps ++ [b]) i = tn w W ps i + w i - if i = b then W else 0 := by
  unfold tn
  rw [cnt_snoc, List.length_append, List.length_singleton, show ((ps.length + 1 : Nat) : Int) = (ps.length : Int) + 1 from by omega, Int.add_mul, Int.add_mul]
  by_cases h : i = b <;> simp [h] <;> omega

/-- Each pick was one of the greatest. -/
inductive Good (k : Nat) (w : Nat → Int) : List Nat → Prop
  | nil : Good k w []
  | snoc {ps : List Nat} {b : Nat} : Good k w ps → b < k → (∀ i, i < k → tn w (sm k w) ps i + w i ≤ tn w (sm k w) ps b + w b) → Good k w (ps ++ [b])

section
variable {k : Nat} {w : Nat → Int}

theorem Good.sum {ps : List Nat} (h : Good k w ps) : sm k (tn w (sm k w) ps) = 0 := by
  induction h with
  | nil => rw [sm_congr (g := fun _ => 0) (fun i _ => by simp [tn, cnt]), sm_zero]
  | @snoc ps b _ hb _ ih =>
    rw [sm_congr (g := fun i => (tn w (sm k w) ps i + w i) + (if i = b then -(sm k w) else 0)) (fun i _ => by rw [tn_snoc]; split <;> omega), sm_add, sm_add, ih, sm_one k b hb]
    omega

theorem Good.count {ps : List Nat} (h : Good k w ps) : sm k (cnt ps) = ps.length := by
  induction h with
  | nil => rw [sm_congr (g := fun _ => 0) (fun i _ => by simp [cnt]), sm_zero]; rfl
  | @snoc ps b _ hb _ ih =>
    rw [sm_congr (g := fun i => cnt ps i + if i = b then 1 else 0) (fun i _ => cnt_snoc ps b i), sm_add, ih, sm_one k b hb]
    simp

theorem Good.low {ps : List Nat} (h : Good k w ps) (hw : ∀ i, i < k → 0 < w i) : ∀ i, i < k → -(sm k w) < tn w (sm k w) ps i := by
  induction h with
  | nil =>
    intro i hi
    have h1 : 0 < sm k w := by
      have h2 : sm k (fun j => if j = i then w i else 0) ≤ sm k w := sm_le (fun j hj => by have := hw j hj; split <;> (try subst j) <;> omega)
      rw [sm_one k i hi] at h2
      have := hw i hi
      omega
    simp [tn, cnt]; omega
  | @snoc ps b hg hb hmax ih =>
    intro i hi
    rw [tn_snoc]
    by_cases hib : i = b
    · subst hib
      rw [if_pos rfl]
      -- the greatest is above nothing
      have hs : sm k (fun j => tn w (sm k w) ps j + w j) = sm k w := by rw [sm_add, hg.sum]; omega
      have hle : sm k (fun j => tn w (sm k w) ps j + w j) ≤ sm k (fun _ => tn w (sm k w) ps i + w i) := sm_le hmax
      rw [sm_const, hs] at hle
      have hpos : 0 < sm k w := by
        have h2 : sm k (fun j => if j = i then w i else 0) ≤ sm k w := sm_le (fun j hj => by have := hw j hj; split <;> (try subst j) <;> omega)
        rw [sm_one k i hi] at h2
        have := hw i hi
        omega
      have : 0 < tn w (sm k w) ps i + w i := by
        rcases Int.lt_or_le 0 (tn w (sm k w) ps i + w i) with h | h
        · exact h
        · have := Int.mul_nonpos_of_nonneg_of_nonpos (a := (k : Int)) (by omega) h
          omega
      omega
    · rw [if_neg hib]
      have := ih i hi
      have := hw i hi
      omega

/-- Eight hundred and forty times the sum of 1/i, for i above j, up to 8; times j. -/
def Bd : Nat → Int
  | 1 => 1443 | 2 => 2046 | 3 => 2229 | 4 => 2132 | 5 => 1825 | 6 => 1350 | 7 => 735 | _ => 0

theorem Bd_step (j : Nat) (h : j < 8) : (j : Int) * (Bd (j + 1) + 840) = (j + 1) * Bd j := by
  match j, h with
  | 0, _ => rfl | 1, _ => rfl | 2, _ => rfl | 3, _ => rfl | 4, _ => rfl | 5, _ => rfl | 6, _ => rfl | 7, _ => rfl

theorem Bd_nonneg (j : Nat) : 0 ≤ Bd j := by
  unfold Bd; split <;> decide

def on (S : Nat → Bool) (f : Nat → Int) (i : Nat) : Int := if S i then f i else 0
def many (S : Nat → Bool) : Nat → Nat
  | 0 => 0
  | k + 1 => many S k + if S k then 1 else 0

theorem many_le (S : Nat → Bool) (k : Nat) : many S k ≤ k := by
  induction k with
  | zero => exact Nat.le_refl _
  | succ k ih => simp only [many]; split <;> omega

theorem many_eq (S : Nat → Bool) (k : Nat) : ((many S k : Nat) : Int) = sm k (on S fun _ => 1) := by
  induction k with
  | zero => rfl
  | succ k ih => simp only [many, sm, ← ih, on]; split <;> simp_all

theorem many_full {S : Nat → Bool} {k : Nat} (h : many S k = k) : ∀ i, i < k → S i = true := by
  induction k with
  | zero => intro i hi; omega
  | succ k ih =>
    have := many_le S k
    simp only [many] at h
    intro i hi
    by_cases hk : S k = true
    · rw [if_pos hk] at h
      by_cases e : i = k
      · subst e; exact hk
      · exact ih (by omega) i (by omega)
    · rw [if_neg hk] at h; omega

theorem Good.high {ps : List Nat} (h : Good k w ps) (hw : ∀ i, i < k → 0 < w i) (hk : k ≤ 8) :
    ∀ S : Nat → Bool, 840 * sm k (on S (tn w (sm k w) ps)) ≤ Bd (many S k) * sm k w := by
  induction h with
  | nil =>
    intro S
    have hp : 0 ≤ sm k w := by have := sm_le (k := k) (f := fun _ => 0) (g := w) (fun i hi => Int.le_of_lt (hw i hi)); rw [sm_zero] at this; exact this
    rw [sm_congr (g := fun _ => 0) (fun i _ => by simp [on, tn, cnt]), sm_zero]
    have := Int.mul_nonneg (Bd_nonneg (many S k)) hp
    omega
  | @snoc ps b hg hb hmax ih =>
    intro S
    have hp : 0 ≤ sm k w := by have := sm_le (k := k) (f := fun _ => 0) (g := w) (fun i hi => Int.le_of_lt (hw i hi)); rw [sm_zero] at this; exact this
    have hwS : ∀ S : Nat → Bool, sm k (on S w) ≤ sm k w := fun S => sm_le (fun i hi => by unfold on; have := hw i hi; split <;> omega)
    by_cases hS : S b = true
    · -- who was picked is among them
      have e : sm k (on S (tn w (sm k w) (ps ++ [b]))) = sm k (on S (tn w (sm k w) ps)) + sm k (on S w) - sm k w := by
        rw [sm_congr (g := fun i => (on S (tn w (sm k w) ps) i + on S w i) + (if i = b then -(sm k w) else 0)) (fun i _ => by
          unfold on; rw [tn_snoc]
          by_cases hi : i = b
          · subst hi; simp [hS]; omega
          · simp [hi]; split <;> omega), sm_add, sm_add, sm_one k b hb]
        omega
      have := ih S
      have := hwS S
      omega
    · -- who was picked is none of them: with him they are one more
      have hSb : S b = false := by simpa using hS
      let S' : Nat → Bool := fun i => S i || decide (i = b)
      have hS'i : ∀ i, S' i = (S i || decide (i = b)) := fun _ => rfl
      have hcnt : ((many S' k : Nat) : Int) = many S k + 1 := by
        rw [many_eq, many_eq, sm_congr (g := fun i => on S (fun _ => 1) i + (if i = b then 1 else 0)) (fun i _ => by
          unfold on; rw [hS'i]
          by_cases hi : i = b
          · subst hi; simp [hSb]
          · simp [hi]), sm_add, sm_one k b hb]
      have hcn : many S' k = many S k + 1 := by omega
      have hj : many S k < 8 := by have := many_le S' k; omega
      generalize hu : tn w (sm k w) ps b + w b = u at *
      -- of those each is at most as great
      have h1 : sm k (on S fun i => tn w (sm k w) ps i + w i) ≤ (many S k : Int) * u := by
        have : sm k (on S fun i => tn w (sm k w) ps i + w i) ≤ sm k (fun i => u * on S (fun _ => 1) i) := sm_le (fun i hi => by
          unfold on; have := hmax i hi; split
          · rw [Int.mul_one]; exact this
          · rw [Int.mul_zero]; exact Int.le_refl _)
        rw [sm_mul, ← many_eq] at this
        rw [Int.mul_comm]; exact this
      have h2 : sm k (on S' fun i => tn w (sm k w) ps i + w i) = sm k (on S fun i => tn w (sm k w) ps i + w i) + u := by
        rw [sm_congr (g := fun i => on S (fun i => tn w (sm k w) ps i + w i) i + (if i = b then u else 0)) (fun i _ => by
          unfold on; rw [hS'i]
          by_cases hi : i = b
          · subst hi; simp [hSb, hu]
          · simp [hi]), sm_add, sm_one k b hb]
      have h3 : sm k (on S' fun i => tn w (sm k w) ps i + w i) = sm k (on S' (tn w (sm k w) ps)) + sm k (on S' w) := by
        have e : ∀ i, i < k → on S' (fun i => tn w (sm k w) ps i + w i) i = on S' (tn w (sm k w) ps) i + on S' w i := by
          intro i _
          unfold on
          split
          · rfl
          · rfl
        rw [sm_congr e, sm_add]
      have h4 := ih S'
      have h5 := hwS S'
      have e : sm k (on S (tn w (sm k w) (ps ++ [b]))) = sm k (on S fun i => tn w (sm k w) ps i + w i) := sm_congr (fun i _ => by
        unfold on; rw [tn_snoc]
        by_cases hi : i = b
        · subst hi; simp [hSb]
        · simp [hi])
      rw [e]
      rw [hcn] at h4
      generalize sm k (on S fun i => tn w (sm k w) ps i + w i) = x at *
      generalize sm k (on S' (tn w (sm k w) ps)) = y at *
      generalize sm k (on S' w) = z at *
      generalize sm k w = W at *
      have hst := Bd_step (many S k) hj
      generalize many S k = j at *
      -- (j + 1) x ≤ j (x + u)
      have k1 : ((j : Int) + 1) * x ≤ j * (y + z) := by
        rw [← h3, h2, Int.add_mul, Int.mul_add]; omega
      have k2 : 840 * ((j : Int) * (y + z)) ≤ j * ((Bd (j + 1) + 840) * W) := by
        have : 840 * (y + z) ≤ (Bd (j + 1) + 840) * W := by rw [Int.add_mul]; omega
        have := Int.mul_le_mul_of_nonneg_left this (show (0 : Int) ≤ (j : Int) by omega)
        rw [← Int.mul_assoc, Int.mul_comm 840, Int.mul_assoc]
        rw [Int.mul_comm 840] at this
        rw [Int.mul_comm 840]
        exact this
      have k3 : ((j : Int) + 1) * (840 * x) ≤ ((j : Int) + 1) * (Bd j * W) := by
        rw [← Int.mul_assoc ((j : Int) + 1) (Bd j), ← hst, Int.mul_assoc]
        have : ((j : Int) + 1) * (840 * x) = 840 * (((j : Int) + 1) * x) := by rw [← Int.mul_assoc, Int.mul_comm _ 840, Int.mul_assoc]
        omega
      exact Int.le_of_mul_le_mul_left k3 (by omega)

/-- One of them alone. -/
theorem Good.high_one {ps : List Nat} (h : Good k w ps) (hw : ∀ i, i < k → 0 < w i) (hk : k ≤ 8) (i : Nat) (hi : i < k) : 840 * tn w (sm k w) ps i ≤ 1443 * sm k w := by
  have := h.high hw hk (fun j => decide (j = i))
  rw [sm_congr (g := fun j => if j = i then tn w (sm k w) ps i else 0) (fun j _ => by unfold on; by_cases e : j = i <;> simp [e]), sm_one k i hi] at this
  have hm : ((many (fun j => decide (j = i)) k : Nat) : Int) = 1 := by
    rw [many_eq, sm_congr (g := fun j => if j = i then 1 else 0) (fun j _ => by unfold on; by_cases e : j = i <;> simp [e]), sm_one k i hi]
  rw [show many (fun j => decide (j = i)) k = 1 from by omega] at this
  exact this

/-- Behind as many picks as the total each one has just its weight of them. -/
theorem Good.whole {ps : List Nat} (h : Good k w ps) (hw : ∀ i, i < k → 0 < w i) (hn : (ps.length : Int) = sm k w) : ∀ i, i < k → cnt ps i = w i := by
  have hle : ∀ i, i < k → cnt ps i ≤ w i := by
    intro i hi
    have h1 := h.low hw i hi
    unfold tn at h1
    rw [hn, Int.mul_comm (cnt ps i), ← Int.mul_sub] at h1
    rcases Int.lt_or_le (w i) (cnt ps i) with h2 | h2
    · have hp : 0 ≤ sm k w := by omega
      have := Int.mul_le_mul_of_nonneg_left (show w i - cnt ps i ≤ -1 by omega) hp
      omega
    · exact h2
  intro i hi
  have hs := h.count
  rw [hn] at hs
  rcases Int.lt_or_le (cnt ps i) (w i) with h1 | h1
  · have : sm k (fun j => cnt ps j + (if j = i then 1 else 0)) ≤ sm k w := sm_le (fun j hj => by
      by_cases e : j = i
      · subst e; simp; omega
      · simp [e]; exact hle j hj)
    rw [sm_add, sm_one k i hi] at this
    omega
  · have := hle i hi; omega

end
end Jf
