/- Weights doubled or halved give the same picks: the law. -/
import Derived.Test.YtpnobanhffjmaaaAlone
set_option linter.unusedVariables false
set_option linter.unusedSimpArgs false
namespace Go.Proofs.Ytpnobanhffjmaaa
open Go.RowKit Jw Jf Ieee

theorem read_small {x : Nat} {s : Bool} {m : Nat} {p : Int} (h : double.read x = .number s m p) : m < 2 ^ 53 := by
  unfold Ieee.Format.read at h
  simp only [lp_double, bin_double, inf_double, sw_double] at h
  split at h
  · injection h with _ h1 h2; omega
  · split at h
    · injection h with _ h1 h2; omega
    · split at h <;> cases h

def Half : Nat := 1022
/-- A product with a power of two. -/
theorem mul_pow {x y : Nat} {a v : Int} (hx : Fl x a) (j : Nat) (hy : double.read y = .number false (2 ^ 52) (-1074 + (j : Int))) (hv : v * 2 ^ Half = a * 2 ^ j)
    (hi : ∀ s m (i : Nat), double.read x = .number s m (-1074 + (i : Int)) → m ≠ 0 → 1074 ≤ i + j) (hR : Rep v) : ∃ r, double.mul x y = some r ∧ Fl r v := by
  obtain ⟨s, m, i, hr, rfl⟩ := hx
  have hp : double.mul x y = some (double.write (.number (s ^^ false) (m * 2 ^ 52) (-1074 + (i : Int) + (-1074 + (j : Int))))) := by
    unfold Format.mul
    rw [hr, hy]
    rfl
  refine ⟨_, hp, ?_⟩
  have hs : (s ^^ false) = s := by cases s <;> rfl
  rw [hs]
  unfold Format.write
  by_cases hm : m = 0
  · subst hm
    have h0 : v = 0 := by
      have e : signed s 0 i = 0 := by rw [signed_eq]; simp
      rw [e, Int.zero_mul] at hv
      rcases Int.mul_eq_zero.1 hv with h | h
      · exact h
      · have := pow_pos Half; omega
    subst h0
    refine ⟨s, 0, 0, ?_, by rw [signed_eq]; simp⟩
    unfold Format.nearest
    dsimp only
    rw [if_pos (by decide), read_word s 0 (by decide)]
    simp
  · have hij := hi s m i hr hm
    obtain ⟨q, hq⟩ : ∃ q, i + j = 1074 + q := ⟨i + j - 1074, by omega⟩
    rw [show -1074 + (i : Int) + (-1074 + (j : Int)) = -1074 + (q : Int) from by omega]
    refine nearest_fl s (m * 2 ^ 52) q v ?_ hR
    have e1 : v * 2 ^ Half = signed s (m * 2 ^ 52) q * 2 ^ Half := by
      rw [hv, signed_eq, signed_eq]
      have e2 : (2 : Int) ^ i * 2 ^ j = 2 ^ 52 * 2 ^ q * 2 ^ Half := by
        rw [← Int.pow_add, ← Int.pow_add, ← Int.pow_add]
        congr 1
        unfold Half
        omega
      rw [Int.natCast_mul, Int.natCast_pow]
      generalize (2 : Int) ^ Half = H at *
      have e3 : ((2 : Nat) : Int) ^ 52 = (2 : Int) ^ 52 := rfl
      rw [e3]
      generalize (2 : Int) ^ 52 = c at *
      generalize (2 : Int) ^ i = pi at *
      generalize (2 : Int) ^ j = pj at *
      generalize (2 : Int) ^ q = pq at *
      generalize (if s = true then (-1 : Int) else 1) = g at *
      rw [Int.mul_assoc, Int.mul_assoc, e2]
      simp only [Int.mul_assoc]
    exact (mul_eq_iff (pow_pos Half)).1 e1

/-- The double of two to the (e - 9). -/
def Fw (e : Nat) : Nat := 4566650022153682944 + e * 4503599627370496
theorem fw_nine : Fw 9 = 4607182418800017408 := rfl
theorem fw_up : ∀ e, e < 18 → double.mul (Fw e) 4611686018427387904 = some (Fw (e + 1)) := by decide +kernel
theorem fw_down : ∀ e, e < 18 → double.div (Fw (e + 1)) 4611686018427387904 = some (Fw e) := by decide +kernel
theorem fw_read : ∀ e, e < 18 → double.read (Fw e) = .number false (2 ^ 52) (-1074 + ((1013 + e : Nat) : Int)) := by decide +kernel

def mulW (x y : Nat) : Nat := (double.mul x y).getD 0
def Lw (e : Nat) : Nat := 1065 + e
theorem mul_fw (n : Int) (h0 : 0 ≤ n) (h1 : n ≤ 1000) (e : Nat) (he : e < 18) :
    double.mul (floatOfInt .f64 n) (Fw e) = some (mulW (floatOfInt .f64 n) (Fw e)) ∧ Fl (mulW (floatOfInt .f64 n) (Fw e)) (n * 2 ^ Lw e) := by
  have hx := fl_int n (by omega)
  obtain ⟨r, hr, hf⟩ := mul_pow (v := n * 2 ^ Lw e) hx (1013 + e) (fw_read e he) (by
    rw [Int.mul_assoc, Int.mul_assoc, ← Int.pow_add, ← Int.pow_add]
    congr 2
    unfold Lw Half Jf.One
    omega) (fun s m i hr hm => by
    obtain ⟨s', m', i', hr', hv⟩ := hx
    rw [hr] at hr'
    injection hr' with g1 g2 g3
    obtain rfl : i = i' := by omega
    subst g1 g2
    have hm53 := read_small hr
    have hn : n ≠ 0 := by
      intro hn
      rw [hn, Int.zero_mul, signed_eq] at hv
      have hp := pow_pos i
      have hmp : 0 < (m : Int) * 2 ^ i := Int.mul_pos (by omega) hp
      cases s
      · simp only [Bool.false_eq_true, if_false, Int.one_mul] at hv; omega
      · simp only [if_true] at hv; omega
    have hab : m * 2 ^ i = n.natAbs * 2 ^ Jf.One := by
      clear hn
      revert hv
      generalize Jf.One = o
      intro hv
      have h1 := congrArg Int.natAbs hv
      rw [Int.natAbs_mul, Int.natAbs_pow] at h1
      have h2 : (signed s m i).natAbs = m * 2 ^ i := by
        unfold signed; rw [Nat.shiftLeft_eq]
        cases s <;> simp only [Bool.false_eq_true, if_true, if_false, Int.natAbs_neg, Int.natAbs_natCast]
      rw [h2, show Int.natAbs 2 = 2 from rfl] at h1
      exact h1.symm
    have hn0 : 0 < n.natAbs := by clear hab hv hr hm53; omega
    have h3 := Nat.le_mul_of_pos_left (2 ^ Jf.One) hn0
    rw [← hab] at h3
    have h4 : m * 2 ^ i < 2 ^ (53 + i) := by rw [Nat.pow_add]; exact Nat.mul_lt_mul_of_pos_right hm53 (Nat.two_pow_pos _)
    have h5 := pow_le_cancel (Nat.lt_of_le_of_lt h3 h4)
    unfold Jf.One at h5
    omega) ⟨n, Lw e, rfl, by clear hx; omega, by unfold Lw; omega⟩
  have : mulW (floatOfInt .f64 n) (Fw e) = r := by unfold mulW; rw [hr]; rfl
  rw [this]
  exact ⟨hr, hf⟩

/-- What an int gives as a weight. -/
def wv (x : Int) : Int := wrap64 ((IntKind.u64.wrap x).tmod 1001)
theorem wv_range (x : Int) : 0 ≤ wv x ∧ wv x ≤ 1000 := by
  have := umod_range x 1001 (by decide) (by decide)
  unfold wv
  omega
def laL (l : List Int) (k : Nat) : List (Nat × Nat) := (l.take k).map fun x => (floatOfInt .f64 (wv x), 0)
def lbL (l : List Int) (e k : Nat) : List (Nat × Nat) := (l.take k).map fun x => (mulW (floatOfInt .f64 (wv x)) (Fw e), 0)
theorem takeI_snoc (ws : List Int) (k : Nat) (h : k < ws.length) : ws.take (k + 1) = ws.take k ++ [ws.getD k 0] := by
  rw [List.take_add_one, List.getD_eq_getElem?_getD, List.getElem?_eq_getElem h]; rfl
theorem laL_succ (l : List Int) (k : Nat) (h : k < l.length) : laL l (k + 1) = laL l k ++ [(floatOfInt .f64 (wv (l.getD k 0)), 0)] := by
  unfold laL; rw [takeI_snoc l k h, List.map_append]; rfl
theorem lbL_succ (l : List Int) (e k : Nat) (h : k < l.length) : lbL l e (k + 1) = lbL l e k ++ [(mulW (floatOfInt .f64 (wv (l.getD k 0))) (Fw e), 0)] := by
  unfold lbL; rw [takeI_snoc l k h, List.map_append]; rfl
theorem laL_length (l : List Int) (k : Nat) (h : k ≤ l.length) : (laL l k).length = k := by unfold laL; rw [List.length_map, List.length_take]; omega
theorem lbL_length (l : List Int) (e k : Nat) (h : k ≤ l.length) : (lbL l e k).length = k := by unfold lbL; rw [List.length_map, List.length_take]; omega

def wI (l : List Int) (i : Nat) : Int := if i < l.length then wv (l.getD i 0) else 0
theorem wI_range (l : List Int) (i : Nat) : 0 ≤ wI l i ∧ wI l i ≤ 1000 := by
  unfold wI
  have := wv_range (l.getD i 0)
  split <;> omega
theorem sm_high {w : Nat → Int} {c : Int} (h : ∀ i, w i ≤ c) (k : Nat) : sm k w ≤ k * c := by
  have := sm_le (k := k) (f := w) (g := fun _ => c) (fun i _ => h i)
  rwa [sm_const] at this
theorem wI_le (l : List Int) (i : Nat) : wI l i ≤ sm l.length (wI l) := by
  by_cases hi : i < l.length
  · have h2 : sm l.length (fun j => if j = i then wI l i else 0) ≤ sm l.length (wI l) := sm_le (fun j hj => by
      have := wI_range l j
      split
      · rename_i e; subst e; exact Int.le_refl _
      · omega)
    rw [sm_one _ i hi] at h2
    exact h2
  · have h0 : wI l i = 0 := by unfold wI; rw [if_neg hi]
    have := sm_mono (fun j => (wI_range l j).1) (Nat.zero_le l.length)
    simp only [sm] at this
    omega

theorem laL_at (l : List Int) (i : Nat) (h : i < l.length) : (laL l l.length).getD i (0, 0) = (floatOfInt .f64 (wv (l.getD i 0)), 0) := by
  unfold laL
  rw [List.take_length, List.getD_eq_getElem?_getD, List.getElem?_map, List.getElem?_eq_getElem h, List.getD_eq_getElem?_getD, List.getElem?_eq_getElem h]; rfl
theorem lbL_at (l : List Int) (e i : Nat) (h : i < l.length) : (lbL l e l.length).getD i (0, 0) = (mulW (floatOfInt .f64 (wv (l.getD i 0))) (Fw e), 0) := by
  unfold lbL
  rw [List.take_length, List.getD_eq_getElem?_getD, List.getElem?_map, List.getElem?_eq_getElem h, List.getD_eq_getElem?_getD, List.getElem?_eq_getElem h]; rfl

theorem lw_mil {n : Int} (h0 : 0 ≤ n) (h1 : n ≤ 1000) (e : Nat) (he : e < 18) : n * 2 ^ Lw e ≤ Mil := by
  have h2 : (2 : Int) ^ Lw e ≤ 2 ^ (Jf.One + 8) := by
    have : (2 : Nat) ^ Lw e ≤ 2 ^ (Jf.One + 8) := Nat.pow_le_pow_right (by decide) (by unfold Lw Jf.One; omega)
    revert this
    generalize Lw e = p
    generalize Jf.One + 8 = q
    intro this
    exact_mod_cast this
  have h3 : n * 2 ^ Lw e ≤ n * 2 ^ (Jf.One + 8) := Int.mul_le_mul_of_nonneg_left h2 h0
  have h4 : n * 2 ^ (Jf.One + 8) = (n * 2 ^ 8) * 2 ^ Jf.One := by
    rw [Nat.add_comm, Int.pow_add, ← Int.mul_assoc]
  rw [h4] at h3
  exact Int.le_trans h3 (int_mil (by omega))

/-- WEIGHTS DOUBLED, OR HALVED, GIVE THE SAME PICKS, where the total isn't just their number. -/
theorem scales_law (l : List Int) (e n : Nat) (hk : l.length ≤ 8) (he : e < 18) (hn : n ≤ 100)
    (ht : (ord (totW (laL l l.length)) (floatOfInt .f64 l.length) == some .eq) = false) :
    laL l l.length ≠ [] ∧ lbL l e l.length ≠ [] ∧ (picksW (lbL l e l.length) n).1 = (picksW (laL l l.length) n).1 := by
  have hla := laL_length l l.length (Nat.le_refl _)
  have hlb := lbL_length l e l.length (Nat.le_refl _)
  have hw0 : ∀ i, 0 ≤ wI l i := fun i => (wI_range l i).1
  have hwa : ∀ i, i < l.length → Fl (weightW ((laL l l.length).getD i (0, 0)).1) (wI l i * 2 ^ Jf.One) := by
    intro i hi
    rw [laL_at l i hi]
    have hr := wv_range (l.getD i 0)
    have : wI l i = wv (l.getD i 0) := by unfold wI; rw [if_pos hi]
    rw [this]
    exact weightW_same (fl_int _ (by omega)) (int_pos _ hr.1) (int_mil (by omega))
  have hwb : ∀ i, i < l.length → Fl (weightW ((lbL l e l.length).getD i (0, 0)).1) (wI l i * 2 ^ Lw e) := by
    intro i hi
    rw [lbL_at l e i hi]
    have hr := wv_range (l.getD i 0)
    have : wI l i = wv (l.getD i 0) := by unfold wI; rw [if_pos hi]
    rw [this]
    exact weightW_same (mul_fw _ hr.1 hr.2 e he).2 (int_pos _ hr.1) (lw_mil hr.1 hr.2 e he)
  have hpos : 0 < sm l.length (wI l) := by
    rcases Int.lt_or_le 0 (sm l.length (wI l)) with h | h
    · exact h
    · exfalso
      have hz : ∀ i, i < l.length → wI l i = 0 := fun i _ => by have := wI_le l i; have := hw0 i; omega
      obtain ⟨hn, _, hT⟩ := none_counts (laL l l.length) l.length hla (by omega) (fun i hi => by
        have := hwa i hi
        rwa [hz i hi, Int.zero_mul] at this)
      rw [ord_same hT (fl_int (l.length : Int) (by omega))] at ht
      cases ht
  have hne : l.length ≠ 0 := by
    intro h
    rw [h] at hpos
    simp [sm] at hpos
  have hhi : sm l.length (wI l) ≤ 8000 := by
    have h1 := sm_high (fun i => (wI_range l i).2) l.length
    omega
  obtain ⟨_, a2, a3⟩ := some_counts (laL l l.length) l.length Jf.One (wI l) hla (by decide) hw0 hwa (by omega) hpos
  obtain ⟨_, b2, b3⟩ := some_counts (lbL l e l.length) l.length (Lw e) (wI l) hlb (by unfold Lw; omega) hw0 hwb (by omega) hpos
  have hnW : (n : Int) * sm l.length (wI l) ≤ 100 * 8000 := Int.mul_le_mul (by omega) hhi (by omega) (by omega)
  have pa := (play (laL l l.length) l.length Jf.One (wI l) _ hla (by omega) (by decide) a2 a3 (fun i hi => by rw [laL_at l i hi]; exact fl_zero) (fun i => ⟨hw0 i, wI_le l i⟩) n (by omega)).1
  have pb := (play (lbL l e l.length) l.length (Lw e) (wI l) _ hlb (by omega) (by unfold Lw; omega) b2 b3 (fun i hi => by rw [lbL_at l e i hi]; exact fl_zero) (fun i => ⟨hw0 i, wI_le l i⟩) n (by omega)).1
  refine ⟨fun h => hne ?_, fun h => hne ?_, by rw [pa, pb]⟩
  · rw [h] at hla; exact hla.symm
  · rw [h] at hlb; exact hlb.symm
end Go.Proofs.Ytpnobanhffjmaaa
