/- Shares whose weights and turns are whole numbers of one unit: what the picks come to. -/
import Derived.Test.YtpnobanhffjmaaaZ
import Derived.Test.YtpnobanhffjmaaaFair
set_option linter.unusedVariables false
set_option linter.unusedSimpArgs false
namespace Go.Proofs.Ytpnobanhffjmaaa
open Go.RowKit Jw Jf Ieee

/-- The first place of a greatest one. -/
def First (c : Nat → Int) (k b : Nat) : Prop := b < k ∧ (∀ j, j < k → c j ≤ c b) ∧ ∀ j, j < b → c j < c b
theorem First.unique {c : Nat → Int} {k b b' : Nat} (h : First c k b) (h' : First c k b') : b = b' := by
  rcases Nat.lt_trichotomy b b' with hl | hl | hl
  · have := h'.2.2 b hl
    have := h.2.1 b' h'.1
    omega
  · exact hl
  · have := h.2.2 b' hl
    have := h'.2.1 b h.1
    omega
theorem First.congr {c d : Nat → Int} {k b : Nat} (h : First c k b) (e : ∀ i, i < k → c i = d i) : First d k b :=
  ⟨h.1, fun j hj => by rw [← e j hj, ← e b h.1]; exact h.2.1 j hj, fun j hj => by rw [← e j (by have := h.1; omega), ← e b h.1]; exact h.2.2 j hj⟩
def topI (c : Nat → Int) : Nat → Nat
  | 0 => 0
  | k + 1 => if k ≠ 0 ∧ c k ≤ c (topI c k) then topI c k else k
theorem topI_first (c : Nat → Int) (k : Nat) (hk : 1 ≤ k) : First c k (topI c k) := by
  induction k with
  | zero => omega
  | succ k ih =>
    simp only [topI]
    by_cases h0 : k = 0
    · subst h0
      rw [if_neg (by simp)]
      exact ⟨by omega, fun j hj => by obtain rfl : j = 0 := by omega
                                      exact Int.le_refl _, fun j hj => by omega⟩
    · obtain ⟨h1, h2, h3⟩ := ih (by omega)
      by_cases h : c k ≤ c (topI c k)
      · rw [if_pos ⟨h0, h⟩]
        refine ⟨by omega, fun j hj => ?_, h3⟩
        by_cases e : j = k
        · subst e; exact h
        · exact h2 j (by omega)
      · rw [if_neg (fun hh => h hh.2)]
        refine ⟨by omega, fun j hj => ?_, fun j hj => ?_⟩
        · by_cases e : j = k
          · subst e; exact Int.le_refl _
          · have := h2 j (by omega); omega
        · have := h2 j hj; omega

/-- The turns behind n picks of whole weights, the total being W. -/
def turnsI (k : Nat) (w : Nat → Int) (W : Int) : Nat → Nat → Int
  | 0 => fun _ => 0
  | n + 1 => fun i => turnsI k w W n i + w i - if i = topI (fun j => turnsI k w W n j + w j) k then W else 0
def pickI (k : Nat) (w : Nat → Int) (W : Int) (n : Nat) : Nat := topI (fun j => turnsI k w W n j + w j) k
def playI (k : Nat) (w : Nat → Int) (W : Int) : Nat → List Nat
  | 0 => []
  | n + 1 => playI k w W n ++ [pickI k w W n]
theorem playI_length (k : Nat) (w : Nat → Int) (W : Int) (n : Nat) : (playI k w W n).length = n := by
  induction n with
  | zero => rfl
  | succ n ih => simp [playI, ih]
theorem playI_at (k : Nat) (w : Nat → Int) (W : Int) (n : Nat) : ∀ j, j < n → (playI k w W n).getD j 0 = pickI k w W j := by
  induction n with
  | zero => intro j hj; omega
  | succ n ih =>
    intro j hj
    simp only [playI]
    by_cases e : j = n
    · subst e
      rw [List.getD_eq_getElem?_getD, List.getElem?_append_right (by rw [playI_length]; exact Nat.le_refl _), playI_length, Nat.sub_self]
      rfl
    · rw [List.getD_eq_getElem?_getD, List.getElem?_append_left (by rw [playI_length]; omega), ← List.getD_eq_getElem?_getD]
      exact ih j (by omega)
theorem turnsI_bound {k : Nat} {w : Nat → Int} {W : Int} (hw : ∀ i, 0 ≤ w i ∧ w i ≤ W) (n : Nat) : ∀ i, -(n * W) ≤ turnsI k w W n i ∧ turnsI k w W n i ≤ n * W := by
  induction n with
  | zero => intro i; simp [turnsI]
  | succ n ih =>
    intro i
    have h1 := ih i
    have h2 := hw i
    simp only [turnsI]
    rw [show ((n + 1 : Nat) : Int) = (n : Int) + 1 from by omega, Int.add_mul, Int.one_mul]
    split <;> omega
theorem turnsI_tn (k : Nat) (w : Nat → Int) (n : Nat) (hk : 1 ≤ k) : Jf.Good k w (playI k w (sm k w) n) ∧ ∀ i, turnsI k w (sm k w) n i = tn w (sm k w) (playI k w (sm k w) n) i := by
  induction n with
  | zero => exact ⟨.nil, fun i => by simp [turnsI, playI, tn, cnt]⟩
  | succ n ih =>
    obtain ⟨h1, h2⟩ := ih
    have hf := topI_first (fun j => turnsI k w (sm k w) n j + w j) k hk
    refine ⟨.snoc h1 hf.1 (fun i hi => ?_), fun i => ?_⟩
    · have := hf.2.1 i hi
      simp only [h2] at this
      simp only [pickI, h2]
      exact this
    · simp only [playI, tn_snoc, turnsI, pickI]
      rw [h2 i]

theorem newL_fst (l : List (Nat × Nat)) : (newL l).map Prod.fst = l.map Prod.fst := by
  apply List.ext_getElem
  · simp [newL_length]
  · intro i h1 h2
    simp [newL]
theorem getD_fst (l : List (Nat × Nat)) (b : Nat) : (l.getD b (0, 0)).1 = (l.map Prod.fst).getD b 0 := by
  rw [List.getD_eq_getElem?_getD, List.getD_eq_getElem?_getD, List.getElem?_map]
  cases l[b]? <;> rfl
theorem set_same (l : List Nat) (b : Nat) : l.set b (l.getD b 0) = l := by
  apply List.ext_getElem
  · simp
  · intro i h1 h2
    rw [List.getElem_set]
    split
    · rename_i e
      subst e
      rw [List.getD_eq_getElem?_getD, List.getElem?_eq_getElem h2]; rfl
    · rfl
theorem pickW_fst (l : List (Nat × Nat)) : (pickW l).2.map Prod.fst = l.map Prod.fst := by
  simp only [pickW, List.map_set, getD_fst, newL_fst]
  exact set_same _ _
theorem picksW_fst (l : List (Nat × Nat)) (n : Nat) : (picksW l n).2.map Prod.fst = l.map Prod.fst := by
  induction n with
  | zero => rfl
  | succ n ih => simp only [picksW, pickW_fst, ih]
theorem rawW_fst (l : List (Nat × Nat)) : rawW l = (l.map Prod.fst).map weightW := by simp [rawW]
theorem wts_fst {l l' : List (Nat × Nat)} (h : l'.map Prod.fst = l.map Prod.fst) : wtsW l' = wtsW l ∧ totW l' = totW l := by
  have h1 : rawW l' = rawW l := by rw [rawW_fst, rawW_fst, h]
  have h2 : l'.length = l.length := by have := congrArg List.length h; simpa using this
  unfold wtsW totW noneW
  rw [h1, h2]
  exact ⟨rfl, rfl⟩

theorem rep_small (c : Int) (u : Nat) (hc : c.natAbs < 2 ^ 53) (hu : u ≤ 2045) : Rep (c * 2 ^ u) := ⟨c, u, rfl, hc, hu⟩

theorem newL_snd (l : List (Nat × Nat)) (i : Nat) (h : i < l.length) : ((newL l).getD i (0, 0)).2 = (trnW l).getD i 0 := by
  rw [newL, List.getD_eq_getElem?_getD, List.getElem?_zipWith, List.getElem?_eq_getElem h, List.getElem?_eq_getElem (show i < (trnW l).length by rw [trnW_length]; omega), List.getD_eq_getElem?_getD, List.getElem?_eq_getElem (show i < (trnW l).length by rw [trnW_length]; omega)]
  rfl

/-- One pick. -/
theorem pick_step (l : List (Nat × Nat)) (k u : Nat) (w c : Nat → Int) (W : Int) (hk : l.length = k) (h1 : 1 ≤ k) (hu : u ≤ 2045)
    (hw : ∀ i, i < k → Fl ((wtsW l).getD i 0) (w i * 2 ^ u)) (hW : Fl (totW l) (W * 2 ^ u)) (ht : ∀ i, i < k → Fl (l.getD i (0, 0)).2 (c i * 2 ^ u))
    (hb : ∀ i, i < k → (c i + w i).natAbs < 2 ^ 53 ∧ (c i + w i - W).natAbs < 2 ^ 53) :
    ∃ b : Nat, First (fun j => c j + w j) k b ∧ (pickW l).1 = b ∧ ∀ i, i < k → Fl ((pickW l).2.getD i (0, 0)).2 ((c i + w i - if i = b then W else 0) * 2 ^ u) := by
  have hpu := pow_pos u
  have htr : ∀ i, i < k → Fl ((trnW l).getD i 0) ((c i + w i) * 2 ^ u) := by
    intro i hi
    have hat := (trnW_at l i (by omega)).1
    rw [turnW_fl (ht i hi)] at hat
    obtain ⟨r, hr, hf⟩ := add_fl (ht i hi) (hw i hi) (by rw [← Int.add_mul]; exact rep_small _ u (hb i hi).1 hu)
    rw [hr] at hat
    rw [← Option.some.inj hat, Int.add_mul]
    exact hf
  obtain ⟨b, e1, e2, e3, e4⟩ := best_fl (ts := trnW l) (c := fun i => (c i + w i) * 2 ^ u) k htr k (Nat.le_refl _) h1
  have e5 : First (fun j => c j + w j) k b := ⟨e2, fun j hj => Int.le_of_mul_le_mul_right (e3 j hj) hpu, fun j hj => Int.lt_of_mul_lt_mul_right (e4 j hj) (Int.le_of_lt hpu)⟩
  refine ⟨b, e5, by simp only [pickW]; rw [hk]; exact e1, fun i hi => ?_⟩
  have eb : (bestTo (trnW l) l.length).toNat = b := by rw [hk, e1]; rfl
  simp only [pickW]
  rw [eb, List.getD_eq_getElem?_getD, List.getElem?_set, newL_length]
  by_cases e : b = i
  · subst e
    rw [if_pos rfl, if_pos (by omega), if_pos rfl]
    obtain ⟨r, hr, hf⟩ := sub_fl (htr b e2) hW (by rw [← Int.sub_mul]; exact rep_small _ u (hb b e2).2 hu)
    have : subW ((trnW l).getD b 0) (totW l) = r := by unfold subW; rw [hr]; rfl
    simp only [Option.getD_some]
    rw [this, Int.sub_mul]
    exact hf
  · rw [if_neg e, if_neg (fun h => e h.symm), ← List.getD_eq_getElem?_getD, newL_snd l i (by omega), Int.sub_zero]
    exact htr i hi

/-- PICKS OF WHOLE WEIGHTS: those of the whole numbers. -/
theorem play (l : List (Nat × Nat)) (k u : Nat) (w : Nat → Int) (W : Int) (hk : l.length = k) (h1 : 1 ≤ k) (hu : u ≤ 2045)
    (hw : ∀ i, i < k → Fl ((wtsW l).getD i 0) (w i * 2 ^ u)) (hW : Fl (totW l) (W * 2 ^ u)) (ht : ∀ i, i < k → Fl (l.getD i (0, 0)).2 0) (hb : ∀ i, 0 ≤ w i ∧ w i ≤ W) :
    ∀ n : Nat, (n : Int) * W < 2 ^ 53 → (picksW l n).1 = (playI k w W n).map (fun b : Nat => (b : Int)) ∧ ∀ i, i < k → Fl ((picksW l n).2.getD i (0, 0)).2 (turnsI k w W n i * 2 ^ u) := by
  intro n
  induction n with
  | zero => intro _; exact ⟨rfl, fun i hi => by rw [show turnsI k w W 0 i * 2 ^ u = 0 from by simp [turnsI]]; exact ht i hi⟩
  | succ n ih =>
    intro hn
    have hW0 : 0 ≤ W := by have := hb 0; omega
    rw [show ((n + 1 : Nat) : Int) = (n : Int) + 1 from by omega, Int.add_mul, Int.one_mul] at hn
    obtain ⟨i1, i2⟩ := ih (by omega)
    obtain ⟨f1, f2⟩ := wts_fst (picksW_fst l n)
    have hbd := turnsI_bound (k := k) hb n
    obtain ⟨b, e1, e2, e3⟩ := pick_step (picksW l n).2 k u w (turnsI k w W n) W (by rw [picksW_length, hk]) h1 hu (by rw [f1]; exact hw) (by rw [f2]; exact hW) i2 (fun i hi => by
      have := hbd i
      have := hb i
      constructor <;> omega)
    have hbt : b = pickI k w W n := e1.unique (topI_first _ k h1)
    refine ⟨?_, fun i hi => ?_⟩
    · simp only [picksW, playI, List.map_append, List.map_cons, List.map_nil]
      rw [e2, i1, hbt]
    · have := e3 i hi
      rw [hbt] at this
      exact this

theorem sm_mono {w : Nat → Int} (hw : ∀ i, 0 ≤ w i) {j k : Nat} (h : j ≤ k) : sm j w ≤ sm k w := by
  induction k with
  | zero => obtain rfl : j = 0 := by omega
            exact Int.le_refl _
  | succ k ih =>
    by_cases e : j = k + 1
    · subst e; exact Int.le_refl _
    · have := ih (by omega)
      have := hw k
      simp only [sm]; omega

/-- A sum that can be held is held. -/
theorem sum_exact (xs : List Nat) (u : Nat) (w : Nat → Int) (hu : u ≤ 2045) (hw : ∀ i, 0 ≤ w i) (hx : ∀ i, i < xs.length → Fl (xs.getD i 0) (w i * 2 ^ u)) (hs : sm xs.length w < 2 ^ 53) :
    Fl (sumW xs) (sm xs.length w * 2 ^ u) := by
  have key : ∀ j, j ≤ xs.length → Fl (sumW (xs.take j)) (sm j w * 2 ^ u) := by
    intro j
    induction j with
    | zero => intro _; simp only [sm, Int.zero_mul]; exact fl_zero
    | succ j ih =>
      intro hj
      have e : xs.take (j + 1) = xs.take j ++ [xs.getD j 0] := by
        rw [List.take_add_one, List.getD_eq_getElem?_getD, List.getElem?_eq_getElem (by omega)]; rfl
      have hm := sm_mono hw hj
      have h0 : 0 ≤ sm (j + 1) w := by have := sm_mono hw (Nat.zero_le (j + 1)); simpa [sm] using this
      simp only [sm] at hm h0
      obtain ⟨r, hr, hf⟩ := add_fl (ih (by omega)) (hx j (by omega)) (by rw [← Int.add_mul]; exact rep_small _ u (by omega) hu)
      rw [e, sumW_snoc]
      have : addW (sumW (xs.take j)) (xs.getD j 0) = r := by unfold addW; rw [hr]; rfl
      rw [this, sm, Int.add_mul]
      exact hf
  have := key xs.length (Nat.le_refl _)
  rwa [List.take_length] at this

theorem rawW_at (l : List (Nat × Nat)) (i : Nat) (h : i < l.length) : (rawW l).getD i 0 = weightW (l.getD i (0, 0)).1 := by
  rw [rawW, List.getD_eq_getElem?_getD, List.getElem?_map, List.getElem?_eq_getElem h, List.getD_eq_getElem?_getD, List.getElem?_eq_getElem h]
  rfl

/-- Weights of which one counts. -/
theorem some_counts (l : List (Nat × Nat)) (k u : Nat) (w : Nat → Int) (hk : l.length = k) (hu : u ≤ 2045) (hw : ∀ i, 0 ≤ w i) (hx : ∀ i, i < k → Fl (weightW (l.getD i (0, 0)).1) (w i * 2 ^ u))
    (hs : sm k w < 2 ^ 53) (hp : 0 < sm k w) : noneW l = false ∧ (∀ i, i < k → Fl ((wtsW l).getD i 0) (w i * 2 ^ u)) ∧ Fl (totW l) (sm k w * 2 ^ u) := by
  have hl : (rawW l).length = k := by simp [rawW, hk]
  have hr : ∀ i, i < k → Fl ((rawW l).getD i 0) (w i * 2 ^ u) := fun i hi => by rw [rawW_at l i (by omega)]; exact hx i hi
  have hsum := sum_exact (rawW l) u w hu hw (by rw [hl]; exact hr) (by rw [hl]; exact hs)
  rw [hl] at hsum
  have hn : noneW l = false := by
    unfold noneW
    rw [ord_fl hsum fl_zero]
    have : 0 < sm k w * 2 ^ u := Int.mul_pos hp (pow_pos u)
    rcases cmp_cases (sm k w * 2 ^ u) 0 with ⟨e, _⟩ | ⟨e, _⟩ | ⟨e, _⟩
    · omega
    · omega
    · rw [e]; rfl
  unfold wtsW totW
  rw [hn]
  exact ⟨rfl, hr, hsum⟩

theorem fl_one : Fl 4607182418800017408 (1 * 2 ^ Jf.One) := by
  have h := int_fl 1 (by decide)
  have e : double.write (.number (decide ((1 : Int) < 0)) (Int.natAbs 1) 0) = 4607182418800017408 := by decide +kernel
  revert h
  generalize Jf.One = o
  intro h
  rw [e] at h
  exact h

/-- Weights of which none counts: ones. -/
theorem none_counts (l : List (Nat × Nat)) (k : Nat) (hk : l.length = k) (hk8 : k ≤ 800) (hx : ∀ i, i < k → Fl (weightW (l.getD i (0, 0)).1) 0) :
    noneW l = true ∧ (∀ i, i < k → Fl ((wtsW l).getD i 0) (1 * 2 ^ Jf.One)) ∧ Fl (totW l) ((k : Int) * 2 ^ Jf.One) := by
  have hl : (rawW l).length = k := by simp [rawW, hk]
  have hr : ∀ i, i < k → Fl ((rawW l).getD i 0) ((fun _ => (0 : Int)) i * 2 ^ 0) := fun i hi => by rw [rawW_at l i (by omega)]; simpa using hx i hi
  have hsum := sum_exact (rawW l) 0 (fun _ => 0) (by decide) (fun _ => Int.le_refl _) (by rw [hl]; exact hr) (by rw [hl, sm_zero]; decide)
  rw [hl, sm_zero, Int.zero_mul] at hsum
  have hn : noneW l = true := by
    unfold noneW
    rw [ord_fl hsum fl_zero]
    rfl
  unfold wtsW totW
  rw [hn]
  refine ⟨rfl, fun i hi => ?_, ?_⟩
  · rw [if_pos rfl, List.getD_eq_getElem?_getD, List.getElem?_replicate, if_pos (by omega)]
    exact fl_one
  · rw [if_pos rfl, hk]
    exact int_fl (k : Int) (by rw [Int.natAbs_natCast]; exact Nat.lt_of_le_of_lt hk8 (by decide))

/-- What counts, where it lies between nothing and a million. -/
theorem weightW_same {x : Nat} {v : Int} (hx : Fl x v) (h0 : 0 ≤ v) (hM : v ≤ Mil) : Fl (weightW x) v := by
  unfold weightW
  rw [nanW_fl hx]
  simp only [Bool.false_eq_true, if_false]
  by_cases hz : v = 0
  · subst hz
    have : ord x 0 = some .eq := by rw [ord_fl hx fl_zero]; rfl
    rw [this]
    exact fl_zero
  · have : ord x 0 = some .gt := by
      rw [ord_fl hx fl_zero]
      rcases cmp_cases v 0 with ⟨e, _⟩ | ⟨e, _⟩ | ⟨e, _⟩
      · omega
      · omega
      · rw [e]
    rw [this]
    have h2 : (ord x 4696837146684686336 == some .gt) = false := by
      rw [ord_gt hx fl_mil]
      simp; omega
    rw [h2]
    exact hx

/-- OF EQUAL WEIGHTS ALL IN TURN. -/
theorem rounds_law (k : Nat) (hk : 1 ≤ k) (n : Nat) : pickI k (fun _ => 1) k n = n % k ∧ ∀ i, i < k → turnsI k (fun _ => 1) k n i = (n % k : Nat) - if i < n % k then (k : Int) else 0 := by
  suffices h : ∀ n, ∀ i, i < k → turnsI k (fun _ => 1) k n i = (n % k : Nat) - if i < n % k then (k : Int) else 0 by
    have hp : ∀ n, pickI k (fun _ => 1) k n = n % k := by
      intro n
      have hlt := Nat.mod_lt n (show 0 < k by omega)
      refine (topI_first _ k hk).unique ⟨hlt, fun j hj => ?_, fun j hj => ?_⟩
      · dsimp only; rw [h n j hj, h n _ hlt]
        split <;> split <;> omega
      · dsimp only; rw [h n j (by omega), h n _ hlt, if_pos hj, if_neg (by omega)]; omega
    exact ⟨hp n, h n⟩
  intro n
  induction n with
  | zero => intro i hi; simp [turnsI]
  | succ n ih =>
    intro i hi
    have hlt := Nat.mod_lt n (show 0 < k by omega)
    have hp : topI (fun j => turnsI k (fun _ => 1) k n j + 1) k = n % k := by
      refine (topI_first _ k hk).unique ⟨hlt, fun j hj => ?_, fun j hj => ?_⟩
      · dsimp only; rw [ih j hj, ih _ hlt]
        split <;> split <;> omega
      · dsimp only; rw [ih j (by omega), ih _ hlt, if_pos hj, if_neg (by omega)]; omega
    simp only [turnsI]
    rw [hp, ih i hi]
    have hm : (n + 1) % k = if n % k + 1 = k then 0 else n % k + 1 := by
      have := Nat.div_add_mod n k
      split
      · rename_i e
        have : n + 1 = k * (n / k + 1) := by rw [Nat.mul_add]; omega
        rw [this, Nat.mul_mod_right]
      · rename_i e
        have : n + 1 = k * (n / k) + (n % k + 1) := by omega
        rw [this, Nat.mul_add_mod, Nat.mod_eq_of_lt (by omega)]
    rw [hm]
    split <;> split <;> split <;> (try split) <;> omega
end Go.Proofs.Ytpnobanhffjmaaa
