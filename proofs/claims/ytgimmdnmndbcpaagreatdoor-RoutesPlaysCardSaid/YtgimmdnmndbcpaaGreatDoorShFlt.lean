/- Doubles that stand for a whole number of least units: what a sum, a difference and a comparison of such give. -/
import Ieee.Arith
set_option linter.unusedVariables false
set_option linter.unusedSimpArgs false
namespace Jf
open Ieee

theorem lp_double : double.leastPlace = -1074 := by decide
theorem fb_double : double.fractionBits = 52 := rfl
theorem bin_double : double.binade = 2 ^ 52 := rfl
theorem inf_double : double.infRung = 2047 * 2 ^ 52 := by decide
theorem sw_double : double.signWeight = 2 ^ 63 := by decide

/-- The word w stands for the finite number 'v * 2 ^ -1074'. -/
def Fl (w : Nat) (v : Int) : Prop := ∃ (s : Bool) (m k : Nat), double.read w = .number s m (-1074 + (k : Int)) ∧ v = signed s m k

theorem signed_eq (s : Bool) (m k : Nat) : signed s m k = (if s then -1 else 1) * ((m : Int) * 2 ^ k) := by
  unfold signed
  rw [Nat.shiftLeft_eq]
  cases s <;> simp

theorem signed_shift (s : Bool) (m i b : Nat) (h : b ≤ i) : signed s m i = signed s m (i - b) * 2 ^ b := by
  rw [signed_eq, signed_eq]
  have : (2 : Int) ^ i = 2 ^ (i - b) * 2 ^ b := by rw [← Int.pow_add]; congr 1; omega
  rw [this]
  simp only [Int.mul_assoc]

theorem pow_pos (b : Nat) : (0 : Int) < 2 ^ b := Int.pow_pos (by decide)

theorem mul_lt_iff {a b c : Int} (hc : 0 < c) : a * c < b * c ↔ a < b :=
  ⟨fun h => Int.lt_of_mul_lt_mul_right h (Int.le_of_lt hc), fun h => Int.mul_lt_mul_of_pos_right h hc⟩

theorem mul_eq_iff {a b c : Int} (hc : 0 < c) : a * c = b * c ↔ a = b :=
  ⟨fun h => Int.eq_of_mul_eq_mul_right (by omega) h, fun h => by rw [h]⟩

theorem cmp_cases (a b : Int) : (compare a b = .lt ∧ a < b) ∨ (compare a b = .eq ∧ a = b) ∨ (compare a b = .gt ∧ b < a) := by
  simp only [compare, compareOfLessAndEq]
  by_cases h : a < b
  · simp [h]
  · by_cases e : a = b
    · subst e; simp
    · have : b < a := by omega
      simp [h, e, this]

theorem cmp_mul (a b : Int) {c : Int} (hc : 0 < c) : compare (a * c) (b * c) = compare a b := by
  rcases cmp_cases a b with ⟨h, h'⟩ | ⟨h, h'⟩ | ⟨h, h'⟩ <;> rcases cmp_cases (a * c) (b * c) with ⟨g, g'⟩ | ⟨g, g'⟩ | ⟨g, g'⟩ <;> rw [h, g]
  all_goals exfalso
  · rw [mul_eq_iff hc] at g'; omega
  · rw [mul_lt_iff hc] at g'; omega
  · rw [mul_lt_iff hc] at g'; omega
  · rw [mul_lt_iff hc] at g'; omega
  · rw [mul_lt_iff hc] at g'; omega
  · rw [mul_eq_iff hc] at g'; omega

theorem cmp_lt (a b : Int) : (compare a b == Ordering.lt) = decide (a < b) := by
  rcases cmp_cases a b with ⟨h, h'⟩ | ⟨h, h'⟩ | ⟨h, h'⟩ <;> rw [h] <;> simp <;> omega
theorem cmp_gt (a b : Int) : (compare a b == Ordering.gt) = decide (b < a) := by
  rcases cmp_cases a b with ⟨h, h'⟩ | ⟨h, h'⟩ | ⟨h, h'⟩ <;> rw [h] <;> simp <;> omega
theorem cmp_eq (a b : Int) : (compare a b == Ordering.eq) = decide (a = b) := by
  rcases cmp_cases a b with ⟨h, h'⟩ | ⟨h, h'⟩ | ⟨h, h'⟩ <;> rw [h] <;> simp <;> omega

theorem at_min (i j : Nat) : min (-1074 + (i : Int)) (-1074 + (j : Int)) = -1074 + ((min i j : Nat) : Int) := by omega

theorem order_fl {x y : Nat} {a b : Int} (hx : Fl x a) (hy : Fl y b) : double.order x y = some (compare a b) := by
  obtain ⟨s, m, i, hx, rfl⟩ := hx
  obtain ⟨t, n, j, hy, rfl⟩ := hy
  unfold Format.order
  rw [hx, hy]
  simp only [Datum.order, at_min]
  rw [show (-1074 + (i : Int) - (-1074 + ((min i j : Nat) : Int))).toNat = i - min i j from by omega,
    show (-1074 + (j : Int) - (-1074 + ((min i j : Nat) : Int))).toNat = j - min i j from by omega,
    signed_shift s m i (min i j) (Nat.min_le_left _ _), signed_shift t n j (min i j) (Nat.min_le_right _ _), cmp_mul _ _ (pow_pos _)]

/-- A whole number of least units that a double can hold. -/
def Rep (v : Int) : Prop := ∃ (c : Int) (e : Nat), v = c * 2 ^ e ∧ c.natAbs < 2 ^ 53 ∧ e ≤ 2045

theorem read_word (sg : Bool) (rung : Nat) (h : rung < 2047 * 2 ^ 52) : double.read (double.word sg rung) =
    if rung < 2 ^ 52 then .number sg rung (-1074) else .number sg (2 ^ 52 + rung % 2 ^ 52) (-1074 + ((rung / 2 ^ 52 - 1 : Nat) : Int)) := by
  have hw : double.word sg rung / 2 ^ 63 % 2 = (if sg then 1 else 0) ∧ double.word sg rung % 2 ^ 63 = rung := by
    unfold Format.word
    rw [sw_double]
    cases sg <;> simp <;> omega
  unfold Format.read
  rw [sw_double, bin_double, inf_double, lp_double, hw.1, hw.2]
  simp only
  by_cases h1 : rung < 2 ^ 52
  · rw [if_pos h1, if_pos h1]
    cases sg <;> rfl
  · rw [if_neg h1, if_neg h1, if_pos h]
    cases sg <;> rfl

theorem cut_zero (sg : Bool) (n : Nat) : Toward.even.cut sg n 0 = n := by
  unfold Toward.cut
  simp [Nat.mod_one]

theorem cut_exact (sg : Bool) (n d : Nat) (hd : d ≤ n.log2 + 2) (h : 2 ^ d ∣ n) : Toward.even.cut sg n d = n / 2 ^ d := by
  unfold Toward.cut
  have hm : min d (n.log2 + 2) = d := Nat.min_eq_left hd
  have h0 : n % 2 ^ d = 0 := Nat.mod_eq_zero_of_dvd h
  have hp : 0 < 2 ^ d := Nat.two_pow_pos _
  have e1 : (2 ^ d == 0) = false := by simp
  simp only [hm, Nat.shiftLeft_eq, Nat.one_mul, h0, Nat.mul_zero, Nat.not_lt_zero, decide_false, e1, Bool.false_and, Bool.or_false, Bool.toNat_false, Nat.add_zero]

theorem log2_bounds {m : Nat} (h : m ≠ 0) : 2 ^ m.log2 ≤ m ∧ m < 2 ^ (m.log2 + 1) :=
  ⟨Nat.log2_self_le h, Nat.lt_log2_self⟩

theorem pow_le_cancel {a b : Nat} (h : 2 ^ a < 2 ^ b) : a < b := (Nat.pow_lt_pow_iff_right (by decide)).1 h

/-- WHAT CAN BE HELD IS HELD. -/
theorem nearest_exact (sg : Bool) (mag b c e : Nat) (hN : mag * 2 ^ b = c * 2 ^ e) (hc : c < 2 ^ 53) (he : e ≤ 2045) :
    ∃ m k : Nat, double.read (double.nearest sg mag (-1074 + (b : Int))) = .number sg m (-1074 + (k : Int)) ∧ m * 2 ^ k = mag * 2 ^ b := by
  by_cases hm : mag = 0
  · subst hm
    refine ⟨0, 0, ?_, by simp⟩
    unfold Format.nearest
    rw [if_pos rfl, read_word sg 0 (by decide)]
    simp
  · unfold Format.nearest
    rw [if_neg hm, lp_double, fb_double, bin_double, inf_double]
    obtain ⟨l1, l2⟩ := log2_bounds hm
    generalize hL : mag.log2 = L at *
    -- the digits that are dropped
    obtain ⟨d, hd⟩ : ∃ d, d = b + L - 52 := ⟨_, rfl⟩
    have hlast : max (-1074 + (b : Int) + (L : Int) - ((52 : Nat) : Int)) (-1074) = -1074 + (d : Int) := by omega
    simp only [hlast]
    rw [show (-1074 + (b : Int) - (-1074 + (d : Int))).toNat = b - d from by omega, show (-1074 + (d : Int) - (-1074 + (b : Int))).toNat = d - b from by omega,
      show (-1074 + (d : Int) - (-1074)).toNat = d from by omega]
    have hlow : 2 ^ (b + L) ≤ mag * 2 ^ b := by rw [Nat.pow_add, Nat.mul_comm]; exact Nat.mul_le_mul_right _ l1
    have hhigh : mag * 2 ^ b < 2 ^ (b + L + 1) := by
      rw [show b + L + 1 = (L + 1) + b from by omega, Nat.pow_add]
      exact Nat.mul_lt_mul_of_pos_right l2 (Nat.two_pow_pos _)
    have hup : c * 2 ^ e < 2 ^ (53 + e) := by rw [Nat.pow_add]; exact Nat.mul_lt_mul_of_pos_right hc (Nat.two_pow_pos _)
    have hde : b + L < 53 + e := pow_le_cancel (by omega)
    have hd2 : d ≤ e := by omega
    have hdvd : 2 ^ d ∣ mag * 2 ^ b := by
      rw [hN]
      exact Nat.dvd_trans (Nat.pow_dvd_pow 2 hd2) (Nat.dvd_mul_left _ _)
    -- what is kept
    obtain ⟨q, hq⟩ : ∃ q, q = Toward.even.cut sg (mag <<< (b - d)) (d - b) := ⟨_, rfl⟩
    have hkept : q * 2 ^ d = mag * 2 ^ b := by
      rw [hq]
      by_cases hbd : d ≤ b
      · rw [show d - b = 0 from by omega, cut_zero, Nat.shiftLeft_eq, Nat.mul_assoc, ← Nat.pow_add]
        congr 2; omega
      · have hz : b - d = 0 := by omega
        have hdv : 2 ^ (d - b) ∣ mag := by
          have : 2 ^ d = 2 ^ (d - b) * 2 ^ b := by rw [← Nat.pow_add]; congr 1; omega
          rw [this] at hdvd
          exact Nat.dvd_of_mul_dvd_mul_right (Nat.two_pow_pos _) hdvd
        rw [hz, Nat.shiftLeft_eq, Nat.pow_zero, Nat.mul_one, cut_exact sg mag (d - b) (by omega) hdv]
        have : 2 ^ d = 2 ^ (d - b) * 2 ^ b := by rw [← Nat.pow_add]; congr 1; omega
        rw [this, ← Nat.mul_assoc, Nat.div_mul_cancel hdv]
    rw [← hq]
    clear hq hlast
    have hq53 : q < 2 ^ 53 := by
      have : q * 2 ^ d < 2 ^ 53 * 2 ^ d := by
        rw [hkept, ← Nat.pow_add]
        refine Nat.lt_of_lt_of_le hhigh (Nat.pow_le_pow_right (by decide) (by omega))
      exact Nat.lt_of_mul_lt_mul_right this
    have hrung : d * 2 ^ 52 + q < 2047 * 2 ^ 52 := by
      have : d ≤ 2045 := by omega
      omega
    rw [Nat.min_eq_left (Nat.le_of_lt hrung), read_word sg _ hrung]
    by_cases hd0 : d = 0
    · subst hd0
      simp only [Nat.zero_mul, Nat.zero_add, Nat.pow_zero, Nat.mul_one] at *
      by_cases h1 : q < 2 ^ 52
      · exact ⟨q, 0, by rw [if_pos h1]; simp, by simpa using hkept⟩
      · refine ⟨q, 0, ?_, by simpa using hkept⟩
        rw [if_neg h1, show 2 ^ 52 + q % 2 ^ 52 = q from by omega, show q / 2 ^ 52 - 1 = 0 from by omega]
    · have hq52 : 2 ^ 52 ≤ q := by
        have : 2 ^ 52 * 2 ^ d ≤ q * 2 ^ d := by
          rw [hkept, ← Nat.pow_add]
          exact Nat.le_trans (Nat.pow_le_pow_right (by decide) (by omega)) hlow
        exact Nat.le_of_mul_le_mul_right this (Nat.two_pow_pos _)
      refine ⟨q, d, ?_, hkept⟩
      rw [if_neg (by omega), show 2 ^ 52 + (d * 2 ^ 52 + q) % 2 ^ 52 = q from by omega, show (d * 2 ^ 52 + q) / 2 ^ 52 - 1 = d from by omega]

theorem nearest_fl (sg : Bool) (mag b : Nat) (v : Int) (hv : v = signed sg mag b) (h : Rep v) : Fl (double.nearest sg mag (-1074 + (b : Int))) v := by
  obtain ⟨c, e, hc, h53, he⟩ := h
  have habs : mag * 2 ^ b = c.natAbs * 2 ^ e := by
    have h1 : v.natAbs = mag * 2 ^ b := by
      rw [hv]; unfold signed; rw [Nat.shiftLeft_eq]
      cases sg <;> simp only [Bool.false_eq_true, if_true, if_false, Int.natAbs_neg, Int.natAbs_natCast]
    have h2 : v.natAbs = c.natAbs * 2 ^ e := by
      rw [hc, Int.natAbs_mul, Int.natAbs_pow]; rfl
    omega
  obtain ⟨m, k, hr, hm⟩ := nearest_exact sg mag b c.natAbs e habs h53 he
  refine ⟨sg, m, k, hr, ?_⟩
  rw [hv, signed_eq, signed_eq]
  have : (m : Int) * 2 ^ k = (mag : Int) * 2 ^ b := by exact_mod_cast hm
  rw [this]

theorem signed_sign (t : Int) (b : Nat) (z : Bool) : signed (if t = 0 then z else decide (t < 0)) t.natAbs b = t * 2 ^ b := by
  rw [signed_eq]
  by_cases h : t = 0
  · subst h; simp
  · rw [if_neg h]
    by_cases h' : t < 0
    · have : (t.natAbs : Int) = -t := by omega
      simp [h', this, Int.neg_mul]
    · have : (t.natAbs : Int) = t := by omega
      simp [h', this]

theorem sum_fl {s t : Bool} {m n i j : Nat} (h : Rep (signed s m i + signed t n j)) :
    ∃ r, ((Datum.number s m (-1074 + (i : Int))).sum (.number t n (-1074 + (j : Int)))).map double.write = some r ∧ Fl r (signed s m i + signed t n j) := by
  refine ⟨_, rfl, ?_⟩
  simp only [at_min]
  rw [show (-1074 + (i : Int) - (-1074 + ((min i j : Nat) : Int))).toNat = i - min i j from by omega,
    show (-1074 + (j : Int) - (-1074 + ((min i j : Nat) : Int))).toNat = j - min i j from by omega]
  unfold Format.write
  refine nearest_fl _ _ _ _ ?_ h
  rw [signed_shift s m i (min i j) (Nat.min_le_left _ _), signed_shift t n j (min i j) (Nat.min_le_right _ _), ← Int.add_mul]
  exact (signed_sign _ _ _).symm

theorem add_fl {x y : Nat} {a b : Int} (hx : Fl x a) (hy : Fl y b) (h : Rep (a + b)) : ∃ r, double.add x y = some r ∧ Fl r (a + b) := by
  obtain ⟨s, m, i, hx, rfl⟩ := hx
  obtain ⟨t, n, j, hy, rfl⟩ := hy
  unfold Format.add
  rw [hx, hy]
  exact sum_fl h

theorem signed_opp (t : Bool) (n j : Nat) : signed (!t) n j = -signed t n j := by
  unfold signed; cases t <;> simp

theorem sub_fl {x y : Nat} {a b : Int} (hx : Fl x a) (hy : Fl y b) (h : Rep (a - b)) : ∃ r, double.sub x y = some r ∧ Fl r (a - b) := by
  obtain ⟨s, m, i, hx, rfl⟩ := hx
  obtain ⟨t, n, j, hy, rfl⟩ := hy
  unfold Format.sub
  rw [hx, hy]
  rw [Int.sub_eq_add_neg, ← signed_opp] at h ⊢
  exact sum_fl h

/-- One, in least units. -/
def One : Nat := 1074
theorem one_le : One ≤ 1100 := by decide

/-- The double of a whole number. -/
theorem int_fl (n : Int) (h : n.natAbs < 2 ^ 53) : Fl (double.write (.number (n < 0) n.natAbs 0)) (n * 2 ^ One) := by
  have h1 := one_le
  have h2 : (0 : Int) = -1074 + (One : Int) := rfl
  have := nearest_fl (decide (n < 0)) n.natAbs One (n * 2 ^ One) (by
    generalize One = o
    rw [signed_eq]
    by_cases h' : n < 0
    · have : (n.natAbs : Int) = -n := by omega
      simp [h', this, Int.neg_mul]
    · have : (n.natAbs : Int) = n := by omega
      simp [h', this]) ⟨n, One, rfl, h, by omega⟩
  rw [← h2] at this
  exact this

/-- A height below which nothing overflows. -/
def Top : Nat := 2000

/-- Rounding, roughly: no infinity, at most twice as much, and nothing only from nothing. -/
theorem nearest_round (sg : Bool) (mag b : Nat) (hb : mag * 2 ^ b < 2 ^ Top) :
    ∃ m k : Nat, double.read (double.nearest sg mag (-1074 + (b : Int))) = .number sg m (-1074 + (k : Int)) ∧ m * 2 ^ k ≤ 2 * (mag * 2 ^ b) ∧ (mag ≠ 0 → 0 < m * 2 ^ k) := by
  by_cases hm : mag = 0
  · subst hm
    refine ⟨0, 0, ?_, by simp, fun h => absurd rfl h⟩
    unfold Format.nearest
    rw [if_pos rfl, read_word sg 0 (by decide)]
    simp
  · unfold Format.nearest
    rw [if_neg hm, lp_double, fb_double, bin_double, inf_double]
    obtain ⟨l1, l2⟩ := log2_bounds hm
    generalize hL : mag.log2 = L at *
    obtain ⟨d, hd⟩ : ∃ d, d = b + L - 52 := ⟨_, rfl⟩
    have hlast : max (-1074 + (b : Int) + (L : Int) - ((52 : Nat) : Int)) (-1074) = -1074 + (d : Int) := by omega
    simp only [hlast]
    rw [show (-1074 + (b : Int) - (-1074 + (d : Int))).toNat = b - d from by omega, show (-1074 + (d : Int) - (-1074 + (b : Int))).toNat = d - b from by omega,
      show (-1074 + (d : Int) - (-1074)).toNat = d from by omega]
    have hlow : 2 ^ (b + L) ≤ mag * 2 ^ b := by rw [Nat.pow_add, Nat.mul_comm]; exact Nat.mul_le_mul_right _ l1
    have hhigh : mag * 2 ^ b < 2 ^ (b + L + 1) := by
      rw [show b + L + 1 = (L + 1) + b from by omega, Nat.pow_add]
      exact Nat.mul_lt_mul_of_pos_right l2 (Nat.two_pow_pos _)
    have hbl : b + L < 2000 := by
      have := pow_le_cancel (Nat.lt_of_le_of_lt hlow hb)
      unfold Top at this; exact this
    obtain ⟨q, hq⟩ : ∃ q, q = Toward.even.cut sg (mag <<< (b - d)) (d - b) := ⟨_, rfl⟩
    -- between: mag * 2 ^ b = (low) * 2 ^ d + rest, and q is low or one more
    have key : q * 2 ^ d ≤ mag * 2 ^ b + (if d = 0 then 0 else 2 ^ d) ∧ (mag * 2 ^ b < q * 2 ^ d + 2 ^ d) ∧ (d = 0 → q = mag * 2 ^ b) := by
      rw [hq]
      by_cases hbd : d ≤ b
      · have e : Toward.even.cut sg (mag <<< (b - d)) (d - b) * 2 ^ d = mag * 2 ^ b := by
          rw [show d - b = 0 from by omega, cut_zero, Nat.shiftLeft_eq, Nat.mul_assoc, ← Nat.pow_add]
          congr 2; omega
        have hp : 0 < 2 ^ d := Nat.two_pow_pos _
        rw [e]
        refine ⟨by omega, by omega, fun h0 => ?_⟩
        rw [h0, Nat.pow_zero, Nat.mul_one] at e
        rw [h0]; exact e
      · have hz : b - d = 0 := by omega
        rw [hz, Nat.shiftLeft_eq, Nat.pow_zero, Nat.mul_one]
        have hcut : Toward.even.cut sg mag (d - b) = mag / 2 ^ (d - b) ∨ Toward.even.cut sg mag (d - b) = mag / 2 ^ (d - b) + 1 := by
          unfold Toward.cut
          have hmn : min (d - b) (mag.log2 + 2) = d - b := by rw [hL]; omega
          simp only [hmn, Nat.shiftLeft_eq, Nat.one_mul]
          generalize (decide (2 ^ (d - b) < 2 * (mag % 2 ^ (d - b))) || (2 ^ (d - b) == 2 * (mag % 2 ^ (d - b)) && mag / 2 ^ (d - b) % 2 == 1)) = t
          cases t
          · exact .inl rfl
          · exact .inr rfl
        have hpd : 2 ^ d = 2 ^ (d - b) * 2 ^ b := by rw [← Nat.pow_add]; congr 1; omega
        have hp1 : 0 < 2 ^ (d - b) := Nat.two_pow_pos _
        have hdm := Nat.div_add_mod mag (2 ^ (d - b))
        have hml := Nat.mod_lt mag hp1
        generalize 2 ^ (d - b) = p at *
        generalize hB : 2 ^ b = B at *
        have hBp : 0 < B := by rw [← hB]; exact Nat.two_pow_pos _
        have e1 : mag / p * (p * B) ≤ mag * B := by rw [← Nat.mul_assoc]; exact Nat.mul_le_mul_right _ (by rw [Nat.mul_comm]; omega)
        have e2 : mag * B < mag / p * (p * B) + p * B := by
          rw [← Nat.mul_assoc, ← Nat.add_mul]
          exact Nat.mul_lt_mul_of_pos_right (by rw [Nat.mul_comm (mag / p)]; omega) hBp
        rw [hpd]
        have hd0 : d ≠ 0 := by omega
        rw [if_neg hd0]
        refine ⟨?_, ?_, fun h => absurd h hd0⟩
        · rcases hcut with h | h <;> rw [h]
          · omega
          · rw [Nat.add_mul, Nat.one_mul]; omega
        · rcases hcut with h | h <;> rw [h]
          · exact e2
          · rw [Nat.add_mul, Nat.one_mul]; omega
    rw [← hq]
    clear hq hlast
    obtain ⟨k1, k2, k3⟩ := key
    by_cases hd0 : d = 0
    · subst hd0
      have hqv := k3 rfl
      have hq53 : q < 2 ^ 53 := by
        rw [hqv]
        exact Nat.lt_of_lt_of_le hhigh (Nat.pow_le_pow_right (by decide) (by omega))
      have hr : q < 2047 * 2 ^ 52 := by omega
      simp only [Nat.zero_mul, Nat.zero_add]
      rw [Nat.min_eq_left (Nat.le_of_lt hr), read_word sg _ hr]
      have hpos : 0 < q := by
        rw [hqv]; exact Nat.mul_pos (Nat.pos_of_ne_zero hm) (Nat.two_pow_pos _)
      by_cases h1 : q < 2 ^ 52
      · exact ⟨q, 0, by rw [if_pos h1]; simp, by rw [Nat.pow_zero, Nat.mul_one, hqv]; omega, fun _ => by simpa using hpos⟩
      · refine ⟨q, 0, ?_, by rw [Nat.pow_zero, Nat.mul_one, hqv]; omega, fun _ => by simpa using hpos⟩
        rw [if_neg h1, show 2 ^ 52 + q % 2 ^ 52 = q from by omega, show q / 2 ^ 52 - 1 = 0 from by omega]
    · rw [if_neg hd0] at k1
      have hdl : d = b + L - 52 ∧ 52 < b + L := by omega
      have hN1 : 2 ^ 52 * 2 ^ d ≤ mag * 2 ^ b := by
        rw [← Nat.pow_add]; exact Nat.le_trans (Nat.pow_le_pow_right (by decide) (by omega)) hlow
      have hN2 : mag * 2 ^ b < 2 ^ 53 * 2 ^ d := by
        rw [← Nat.pow_add]; exact Nat.lt_of_lt_of_le hhigh (Nat.pow_le_pow_right (by decide) (by omega))
      generalize mag * 2 ^ b = N at *
      have hp : 0 < 2 ^ d := Nat.two_pow_pos _
      have hq52 : 2 ^ 52 ≤ q := by
        have : 2 ^ 52 * 2 ^ d < (q + 1) * 2 ^ d := by rw [Nat.add_mul, Nat.one_mul]; omega
        have := Nat.lt_of_mul_lt_mul_right this
        omega
      have hq53 : q ≤ 2 ^ 53 := by
        have : q * 2 ^ d < (2 ^ 53 + 1) * 2 ^ d := by rw [Nat.add_mul (2 ^ 53) 1, Nat.one_mul]; omega
        have := Nat.lt_of_mul_lt_mul_right this
        omega
      have hr : d * 2 ^ 52 + q < 2047 * 2 ^ 52 := by omega
      rw [Nat.min_eq_left (Nat.le_of_lt hr), read_word sg _ hr, if_neg (by omega)]
      have hle : q * 2 ^ d ≤ 2 * N := by
        have : 2 ^ d ≤ N := Nat.le_trans (Nat.le_mul_of_pos_left _ (by decide)) hN1
        omega
      have hpos : 0 < q * 2 ^ d := Nat.mul_pos (by omega) hp
      by_cases hc : q = 2 ^ 53
      · refine ⟨2 ^ 52, d + 1, ?_, ?_, fun _ => ?_⟩
        · rw [hc, show 2 ^ 52 + (d * 2 ^ 52 + 2 ^ 53) % 2 ^ 52 = 2 ^ 52 from by omega, show (d * 2 ^ 52 + 2 ^ 53) / 2 ^ 52 - 1 = d + 1 from by omega]
        · have : 2 ^ 52 * 2 ^ (d + 1) = q * 2 ^ d := by rw [hc, Nat.pow_succ]; omega
          rw [this]; exact hle
        · have : 2 ^ 52 * 2 ^ (d + 1) = q * 2 ^ d := by rw [hc, Nat.pow_succ]; omega
          rw [this]; exact hpos
      · refine ⟨q, d, ?_, hle, fun _ => hpos⟩
        rw [show 2 ^ 52 + (d * 2 ^ 52 + q) % 2 ^ 52 = q from by omega, show (d * 2 ^ 52 + q) / 2 ^ 52 - 1 = d from by omega]

/-- The sum of two that are not below nothing. -/
theorem add_round {x y : Nat} {a b : Int} (hx : Fl x a) (hy : Fl y b) (ha : 0 ≤ a) (hb : 0 ≤ b) (h : a + b < 2 ^ Top) :
    ∃ r c, double.add x y = some r ∧ Fl r c ∧ 0 ≤ c ∧ c ≤ 2 * (a + b) ∧ (0 < a + b → 0 < c) := by
  obtain ⟨s, m, i, hx, rfl⟩ := hx
  obtain ⟨t, n, j, hy, rfl⟩ := hy
  unfold Format.add
  rw [hx, hy]
  simp only [Datum.sum, Option.map_some, at_min]
  rw [show (-1074 + (i : Int) - (-1074 + ((min i j : Nat) : Int))).toNat = i - min i j from by omega,
    show (-1074 + (j : Int) - (-1074 + ((min i j : Nat) : Int))).toNat = j - min i j from by omega]
  have hsum : (signed s m (i - min i j) + signed t n (j - min i j)) * 2 ^ (min i j) = signed s m i + signed t n j := by
    rw [Int.add_mul, ← signed_shift s m i (min i j) (Nat.min_le_left _ _), ← signed_shift t n j (min i j) (Nat.min_le_right _ _)]
  generalize signed s m (i - min i j) + signed t n (j - min i j) = T at *
  generalize min i j = B at *
  rw [← hsum] at h ⊢
  have hpB : (0 : Int) < 2 ^ B := pow_pos B
  have hT : 0 ≤ T := by
    rcases Int.lt_or_le T 0 with h' | h'
    · have := Int.mul_neg_of_neg_of_pos h' hpB
      omega
    · exact h'
  obtain ⟨M, rfl⟩ := Int.eq_ofNat_of_zero_le hT
  have hlt : M * 2 ^ B < 2 ^ Top := by
    revert h
    generalize Top = tp
    intro h
    exact_mod_cast h
  unfold Format.write
  simp only [Int.natAbs_natCast]
  obtain ⟨m', k', hr, hle, hpos⟩ := nearest_round (if (M : Int) = 0 then s && t else decide ((M : Int) < 0)) M B hlt
  have hsgn : (0 < M) → (if (M : Int) = 0 then s && t else decide ((M : Int) < 0)) = false := by
    intro hM
    rw [if_neg (by omega)]; simp
  refine ⟨_, _, rfl, ⟨_, m', k', hr, rfl⟩, ?_⟩
  have hle' : ((m' : Int) * 2 ^ k') ≤ 2 * ((M : Int) * 2 ^ B) := by exact_mod_cast hle
  have hnn : (0 : Int) ≤ (m' : Int) * 2 ^ k' := Int.mul_nonneg (by omega) (Int.le_of_lt (pow_pos _))
  rcases Nat.eq_zero_or_pos M with h0 | h0
  · subst h0
    have hz : ((m' : Int) * 2 ^ k') = 0 := by
      have : (((0 : Nat) : Int) * 2 ^ B) = 0 := by simp
      rw [this] at hle'; omega
    rw [signed_eq, hz]
    simp
  · rw [hsgn h0, signed_eq]
    have hp : 0 < m' * 2 ^ k' := hpos (by omega)
    have hp' : (0 : Int) < (m' : Int) * 2 ^ k' := by exact_mod_cast hp
    simp only [Bool.false_eq_true, if_false, Int.one_mul]
    exact ⟨hnn, hle', fun _ => hp'⟩

end Jf
