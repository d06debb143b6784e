/- Whole weights: how many picks each one has: the law. -/
import Derived.Test.YtpnobanhffjmaaaW
set_option linter.unusedVariables false
set_option linter.unusedSimpArgs false
namespace Go.Proofs.Ytpnobanhffjmaaa
open Go.RowKit Jw Jf Ieee

theorem rem_range (x m : Int) (h : 1 ≤ m) (h2 : m ≤ 100000) : 0 ≤ (wrap64 (x.tmod m + m)).tmod m ∧ (wrap64 (x.tmod m + m)).tmod m < m := by
  have h1 := Int.tmod_lt_of_pos x (show 0 < m by omega)
  have h3 := Int.lt_tmod_of_pos x (show 0 < m by omega)
  rw [IntWalk.wrap64_in (x.tmod m + m) ⟨by omega, by omega⟩, Int.tmod_eq_emod_of_nonneg (by omega)]
  exact ⟨Int.emod_nonneg _ (by omega), Int.emod_lt_of_pos _ (by omega)⟩

def fv (x : Int) : Int := wrap64 (1 + (wrap64 (x.tmod 1000 + 1000)).tmod 1000)
theorem fv_range (x : Int) : 1 ≤ fv x ∧ fv x ≤ 1000 := by
  have := rem_range x 1000 (by decide) (by decide)
  unfold fv
  rw [IntWalk.wrap64_in (1 + (wrap64 (x.tmod 1000 + 1000)).tmod 1000) ⟨by omega, by omega⟩]
  omega
def faL (l : List Int) (k : Nat) : List (Nat × Nat) := (l.take k).map fun x => (floatOfInt .f64 (fv x), 0)
def fI (l : List Int) (i : Nat) : Int := if i < l.length then fv (l.getD i 0) else 0
def fT (l : List Int) (k : Nat) : Int := sm k (fI l)
theorem faL_succ (l : List Int) (k : Nat) (h : k < l.length) : faL l (k + 1) = faL l k ++ [(floatOfInt .f64 (fv (l.getD k 0)), 0)] := by
  unfold faL; rw [takeI_snoc l k h, List.map_append]; rfl
theorem fT_succ (l : List Int) (k : Nat) (h : k < l.length) : fT l (k + 1) = fT l k + fv (l.getD k 0) := by
  unfold fT; simp only [sm]; unfold fI; rw [if_pos h]
theorem faL_length (l : List Int) (k : Nat) (h : k ≤ l.length) : (faL l k).length = k := by unfold faL; rw [List.length_map, List.length_take]; omega
theorem faL_at (l : List Int) (i : Nat) (h : i < l.length) : (faL l l.length).getD i (0, 0) = (floatOfInt .f64 (fv (l.getD i 0)), 0) := by
  unfold faL
  rw [List.take_length, List.getD_eq_getElem?_getD, List.getElem?_map, List.getElem?_eq_getElem h, List.getD_eq_getElem?_getD, List.getElem?_eq_getElem h]; rfl
theorem fI_range (l : List Int) (i : Nat) : 0 ≤ fI l i ∧ fI l i ≤ 1000 := by
  unfold fI
  have := fv_range (l.getD i 0)
  split <;> omega
theorem fI_at (l : List Int) (i : Nat) (h : i < l.length) : fI l i = fv (l.getD i 0) := by unfold fI; rw [if_pos h]
theorem fT_range (l : List Int) (k : Nat) : 0 ≤ fT l k ∧ fT l k ≤ k * 1000 := by
  have h1 := sm_mono (fun j => (fI_range l j).1) (Nat.zero_le k)
  have h2 := sm_high (fun i => (fI_range l i).2) k
  simp only [sm] at h1
  exact ⟨h1, h2⟩
theorem fI_le (l : List Int) (i : Nat) : fI l i ≤ fT l l.length := by
  by_cases hi : i < l.length
  · have h2 : sm l.length (fun j => if j = i then fI l i else 0) ≤ sm l.length (fI l) := sm_le (fun j hj => by
      have := fI_range l j
      split
      · rename_i e; subst e; exact Int.le_refl _
      · omega)
    rw [sm_one _ i hi] at h2
    exact h2
  · have h0 : fI l i = 0 := by unfold fI; rw [if_neg hi]
    have := fT_range l l.length
    omega

theorem count_cast (ps : List Nat) (i : Nat) : (ps.map (fun b : Nat => (b : Int))).count (i : Int) = ps.count i := by
  induction ps with
  | nil => rfl
  | cons p ps ih =>
    rw [List.map_cons, List.count_cons, List.count_cons, ih]
    by_cases h : p = i
    · subst h; simp
    · have h1 : (p == i) = false := by simp; omega
      have h2 : ((p : Int) == (i : Int)) = false := by simp; omega
      rw [h1, h2]

/-- What n picks give. -/
structure Fair (l : List Int) (n : Nat) (c : List Int) : Prop where
  high : ∀ i, i < l.length → c.getD i 0 * fT l l.length ≤ fv (l.getD i 0) * n + fT l l.length - 1
  low : ∀ i, i < l.length → 840 * (fv (l.getD i 0) * n - c.getD i 0 * fT l l.length) ≤ 1443 * fT l l.length
  whole : (n : Int) = fT l l.length → ∀ i, i < l.length → c.getD i 0 = fv (l.getD i 0)
  sum : sm l.length (fun i => c.getD i 0) = n
  range : ∀ i, i < l.length → 0 ≤ c.getD i 0 ∧ c.getD i 0 ≤ n

theorem fair_law (l : List Int) (n : Nat) (h1 : 1 ≤ l.length) (h8 : l.length ≤ 8) (hn : (n : Int) ≤ fT l l.length) :
    (ord (totW (faL l l.length)) (floatOfInt .f64 (fT l l.length)) == some .eq) = true ∧ faL l l.length ≠ [] ∧ Fair l n (cts l.length (picksW (faL l l.length) n).1) := by
  have hla := faL_length l l.length (Nat.le_refl _)
  have hw0 : ∀ i, 0 ≤ fI l i := fun i => (fI_range l i).1
  have hwa : ∀ i, i < l.length → Fl (weightW ((faL l l.length).getD i (0, 0)).1) (fI l i * 2 ^ Jf.One) := by
    intro i hi
    rw [faL_at l i hi, fI_at l i hi]
    have hr := fv_range (l.getD i 0)
    exact weightW_same (fl_int _ (by omega)) (int_pos _ (by omega)) (int_mil (by omega))
  have hTr := fT_range l l.length
  have hpos : 0 < sm l.length (fI l) := by
    have := fI_le l 0
    rw [fI_at l 0 (by omega)] at this
    have := fv_range (l.getD 0 0)
    show 0 < fT l l.length
    omega
  have hhi : fT l l.length ≤ 8000 := by omega
  have hTs : fT l l.length = sm l.length (fI l) := rfl
  obtain ⟨_, a2, a3⟩ := some_counts (faL l l.length) l.length Jf.One (fI l) hla (by decide) hw0 hwa (by omega) hpos
  have hnW : (n : Int) * sm l.length (fI l) ≤ 8000 * 8000 := Int.mul_le_mul (by omega) (by omega) (by omega) (by omega)
  have pa := (play (faL l l.length) l.length Jf.One (fI l) _ hla h1 (by decide) a2 a3 (fun i hi => by rw [faL_at l i hi]; exact fl_zero) (fun i => ⟨hw0 i, fI_le l i⟩) n (by omega)).1
  have hg := (turnsI_tn l.length (fI l) n h1).1
  have hgl := playI_length l.length (fI l) (sm l.length (fI l)) n
  have hwp : ∀ i, i < l.length → 0 < fI l i := fun i hi => by rw [fI_at l i hi]; have := fv_range (l.getD i 0); omega
  have hct : ∀ i, i < l.length → (cts l.length (picksW (faL l l.length) n).1).getD i 0 = cnt (playI l.length (fI l) (sm l.length (fI l)) n) i := by
    intro i hi
    rw [cts_at _ _ _ hi, pa, count_cast]
    rfl
  refine ⟨ord_same a3 (fl_int _ (by omega)), fun h => by rw [h] at hla; simp at hla; omega, ⟨fun i hi => ?_, fun i hi => ?_, fun hN i hi => ?_, ?_, fun i hi => ?_⟩⟩
  · have := hg.low hwp i hi
    rw [tn, hgl] at this
    rw [hct i hi, ← fI_at l i hi, hTs, Int.mul_comm (fI l i)]
    omega
  · have := hg.high_one hwp h8 i hi
    rw [tn, hgl] at this
    rw [hct i hi, ← fI_at l i hi, hTs, Int.mul_comm (fI l i)]
    exact this
  · rw [hct i hi, ← fI_at l i hi]
    exact hg.whole hwp (by rw [hgl]; exact hN) i hi
  · rw [sm_congr hct]
    have := hg.count
    rw [hgl] at this
    exact this
  · rw [hct i hi]
    have h2 := List.count_le_length (l := playI l.length (fI l) (sm l.length (fI l)) n) (a := i)
    rw [hgl] at h2
    unfold cnt
    omega

/-- The tests of the statement, by whole numbers. -/
theorem fair_tests {V N T C : Int} (hV : 1 ≤ V) (hV2 : V ≤ 1000) (hN : 0 ≤ N) (hNT : N ≤ T) (hT : 1 ≤ T) (hT2 : T ≤ 8000) (hC : 0 ≤ C) (hC2 : C ≤ N)
    (h1 : C * T ≤ V * N + T - 1) (h2 : 840 * (V * N - C * T) ≤ 1443 * T) :
    (0 ≤ V * N ∧ V * N ≤ 8000000) ∧ (0 ≤ (V * N + T - 1).tdiv T ∧ (V * N + T - 1).tdiv T ≤ 8010000) ∧ (0 ≤ (V * N).tdiv T ∧ (V * N).tdiv T ≤ 8000000) ∧ C ≤ (V * N + T - 1).tdiv T + 1 ∧ (V * N).tdiv T - 3 ≤ C := by
  have hp0 : 0 ≤ V * N := Int.mul_nonneg (by omega) hN
  have hp1 : V * N ≤ 1000 * 8000 := Int.mul_le_mul hV2 (by omega) hN (by omega)
  rw [Int.tdiv_eq_ediv_of_nonneg (by omega), Int.tdiv_eq_ediv_of_nonneg hp0]
  have d1 : (V * N) / T ≤ V * N := Int.ediv_le_self _ hp0
  have d2 : (V * N + T - 1) / T ≤ V * N + T - 1 := Int.ediv_le_self _ (by omega)
  have d3 : 0 ≤ (V * N) / T := Int.ediv_nonneg hp0 (by omega)
  have d4 : 0 ≤ (V * N + T - 1) / T := Int.ediv_nonneg (by omega) (by omega)
  refine ⟨⟨hp0, by omega⟩, ⟨d4, by omega⟩, ⟨d3, by omega⟩, ?_, ?_⟩
  · have : C ≤ (V * N + T - 1) / T := (Int.le_ediv_iff_mul_le (by omega)).2 h1
    omega
  · have hq : (V * N) / T * T ≤ V * N := Int.ediv_mul_le _ (by omega)
    generalize (V * N) / T = Q at *
    rcases Int.lt_or_le C (Q - 3) with h | h
    · exfalso
      have h3 : (C + 4) * T ≤ Q * T := Int.mul_le_mul_of_nonneg_right (by omega) (by omega)
      rw [Int.add_mul] at h3
      generalize C * T = X at *
      generalize Q * T = Y at *
      omega
    · exact h

theorem back_int : ∀ n : Nat, n < 1001 → floatToIntVal .f64 (floatOfInt .f64 (n : Int)) .i64 = some (n : Int) := by decide +kernel
end Go.Proofs.Ytpnobanhffjmaaa
