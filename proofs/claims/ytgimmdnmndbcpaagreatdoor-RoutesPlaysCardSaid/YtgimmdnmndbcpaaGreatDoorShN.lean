/- Doubles: what counts as a turn is a number; the total of weights is one. -/
import Derived.Test.YtgimmdnmndbcpaaGreatDoorShB
import Derived.Laws.BitsAllLaws
import Derived.Laws.Bits64
set_option linter.unusedVariables false
set_option linter.unusedSimpArgs false
namespace Go.Proofs.YtgimmdnmndbcpaaGreatDoor
open Go.RowKit Jw Jf Ieee

theorem absW_eq (x : Nat) : absW x = x % 2 ^ 63 := by
  have e : (BitVec.ofInt 64 (x : Int) &&& ~~~ BitVec.ofInt 64 9223372036854775808).toNat = x % 2 ^ 63 := by
    have h1 : ~~~ BitVec.ofInt 64 9223372036854775808 = BitVec.ofNat 64 (2 ^ 63 - 1) := by decide
    rw [h1, BitVec.toNat_and]
    have h2 : (BitVec.ofInt 64 (x : Int)).toNat = x % 2 ^ 64 := by
      rw [BitVec.toNat_ofInt]; omega
    rw [h2]
    have h3 : (BitVec.ofNat 64 (2 ^ 63 - 1)).toNat = 2 ^ 63 - 1 := by decide
    rw [h3, Nat.and_two_pow_sub_one_eq_mod]
    omega
  show (IntKind.u64.wrap (((BitVec.ofInt 64 (x : Int) &&& ~~~ BitVec.ofInt 64 9223372036854775808).toNat : Nat) : Int)).toNat = x % 2 ^ 63
  rw [e, IntKind.wrap_u64]
  omega

theorem read_cases (x : Nat) : (∃ v, Fl x v) ∨ (∃ s, Ieee.double.read x = .infinity s) ∨ ∃ s f, Ieee.double.read x = .nan s f := by
  cases h : Ieee.double.read x with
  | nan s f => exact .inr (.inr ⟨s, f, rfl⟩)
  | infinity s => exact .inr (.inl ⟨s, rfl⟩)
  | number s m p =>
    refine .inl ?_
    have : ∃ k : Nat, p = -1074 + (k : Int) := by
      unfold Ieee.Format.read at h
      simp only [lp_double] at h
      split at h
      · injection h with _ _ h; exact ⟨0, by omega⟩
      · split at h
        · injection h with _ _ h; exact ⟨_, h.symm⟩
        · split at h <;> cases h
    obtain ⟨k, rfl⟩ := this
    exact ⟨_, s, m, k, h, rfl⟩

theorem fl_num {x : Nat} {v : Int} (h : Fl x v) : Num x := by
  obtain ⟨s, m, k, h, _⟩ := h
  exact ⟨s, m, _, h⟩
theorem num_fl {x : Nat} (h : Num x) : ∃ v, Fl x v := by
  obtain ⟨s, m, p, h⟩ := h
  rcases read_cases x with h' | ⟨s, h'⟩ | ⟨s, f, h'⟩
  · exact h'
  · rw [h] at h'; cases h'
  · rw [h] at h'; cases h'

theorem mul_pow_le (m k c e : Nat) (h1 : m ≤ c) (h2 : k ≤ e) : m * 2 ^ k ≤ c * 2 ^ e := Nat.mul_le_mul h1 (Nat.pow_le_pow_right (by decide) h2)
theorem signed_nonneg (c e : Nat) : 0 ≤ signed false c e := by
  unfold signed
  simp only [Bool.false_eq_true, if_false]
  exact Int.natCast_nonneg _

/-- The greatest of all numbers. -/
def MaxM : Nat := 9007199254740991
def MaxE : Nat := 2045
theorem fl_max : Fl 9218868437227405311 (signed false MaxM MaxE) := ⟨false, MaxM, MaxE, by decide +kernel, rfl⟩

theorem fl_le_max {x : Nat} {v : Int} (h : Fl x v) : v.natAbs ≤ MaxM * 2 ^ MaxE := by
  obtain ⟨s, m, k, h, rfl⟩ := h
  have hmk : m ≤ MaxM ∧ k ≤ MaxE := by
    unfold MaxM MaxE
    unfold Ieee.Format.read at h
    simp only [lp_double, bin_double, inf_double, sw_double] at h
    split at h
    · injection h with _ h1 h2; omega
    · split at h
      · injection h with _ h1 h2
        have := Nat.mod_lt (x % 2 ^ 63) (show 0 < 2 ^ 52 by decide)
        constructor
        · omega
        · omega
      · split at h <;> cases h
  have e : (signed s m k).natAbs = m * 2 ^ k := by
    unfold signed; rw [Nat.shiftLeft_eq]
    cases s <;> simp only [Bool.false_eq_true, if_true, if_false, Int.natAbs_neg, Int.natAbs_natCast]
  rw [e]
  exact mul_pow_le _ _ _ _ hmk.1 hmk.2

/-- Bits without their sign stand for the same without its sign. -/
theorem read_abs (x : Nat) : Ieee.double.read (x % 2 ^ 63) = match Ieee.double.read x with
    | .number _ m p => .number false m p | .infinity _ => .infinity false | .nan _ f => .nan false f := by
  have h1 : x % 2 ^ 63 / 2 ^ 63 % 2 = 0 := by omega
  have h2 : x % 2 ^ 63 % 2 ^ 63 = x % 2 ^ 63 := by omega
  unfold Ieee.Format.read
  simp only [sw_double, h1, h2]
  split
  · rfl
  · split
    · rfl
    · split <;> rfl

theorem ord_fl {x y : Nat} {a b : Int} (hx : Fl x a) (hy : Fl y b) : ord x y = some (compare a b) := order_fl hx hy

theorem infW_fl {x : Nat} {v : Int} (h : Fl x v) : infW x = false := by
  unfold infW
  rw [absW_eq]
  have h0 := h
  obtain ⟨s, m, k, hr, rfl⟩ := h
  have ha : Fl (x % 2 ^ 63) (signed false m k) := ⟨false, m, k, by rw [read_abs, hr], rfl⟩
  rw [ord_fl ha fl_max]
  have hle := fl_le_max ha
  have e1 : signed false m k = ((m * 2 ^ k : Nat) : Int) := by unfold signed; rw [Nat.shiftLeft_eq]; rfl
  have e2 : signed false MaxM MaxE = ((MaxM * 2 ^ MaxE : Nat) : Int) := by unfold signed; rw [Nat.shiftLeft_eq]; rfl
  rw [e1, Int.natAbs_natCast] at hle
  rw [e1, e2]
  generalize MaxM * 2 ^ MaxE = X at *
  generalize m * 2 ^ k = Y at *
  have := cmp_gt (Y : Int) (X : Int)
  have hd : decide ((X : Int) < (Y : Int)) = false := by simp; omega
  rw [hd] at this
  rcases cmp_cases (Y : Int) (X : Int) with ⟨h, _⟩ | ⟨h, _⟩ | ⟨h, h'⟩
  · rw [h]; rfl
  · rw [h]; rfl
  · omega

theorem infW_inf {x : Nat} {s : Bool} (h : Ieee.double.read x = .infinity s) : infW x = true := by
  unfold infW
  rw [absW_eq]
  have ha : Ieee.double.read (x % 2 ^ 63) = .infinity false := by rw [read_abs, h]
  obtain ⟨t, n, k, hm, _⟩ := fl_max
  have : ord (x % 2 ^ 63) 9218868437227405311 = some .gt := by
    show Ieee.double.order _ _ = _
    unfold Ieee.Format.order
    rw [ha, hm]
    rfl
  rw [this]; rfl

theorem nanW_fl {x : Nat} {v : Int} (h : Fl x v) : nanW x = false := by
  unfold nanW
  rw [ord_fl h h]
  rcases cmp_cases v v with ⟨_, h⟩ | ⟨h, _⟩ | ⟨_, h⟩
  · omega
  · rw [h]; rfl
  · omega
theorem nanW_nan {x : Nat} {s : Bool} {f : Nat} (h : Ieee.double.read x = .nan s f) : nanW x = true := by
  show (Ieee.double.order x x != some .eq) = true
  unfold Ieee.Format.order
  rw [h]; rfl

theorem turnW_fl {x : Nat} {v : Int} (h : Fl x v) : turnW x = x := by
  unfold turnW
  rw [nanW_fl h, infW_fl h]
  rfl
theorem turnW_num (x : Nat) : Num (turnW x) := by
  rcases read_cases x with ⟨v, h⟩ | ⟨s, h⟩ | ⟨s, f, h⟩
  · rw [turnW_fl h]; exact fl_num h
  · have : turnW x = 0 := by unfold turnW; rw [infW_inf h]; simp
    rw [this]; exact num_zero
  · have : turnW x = 0 := by unfold turnW; rw [nanW_nan h]; simp
    rw [this]; exact num_zero

theorem fl_zero : Fl 0 0 := ⟨false, 0, 0, by decide, by decide⟩

/-- A million, in least units. -/
def Mil : Int := signed false 8589934592000000 1041
theorem fl_mil : Fl 4696837146684686336 Mil := ⟨false, 8589934592000000, 1041, by decide +kernel, rfl⟩

/-- What counts lies between nothing and a million; where the weight is above nothing, so is what counts. -/
theorem weightW_fl (x : Nat) : ∃ v, Fl (weightW x) v ∧ 0 ≤ v ∧ v ≤ Mil := by
  have hM : 0 ≤ Mil := signed_nonneg _ _
  unfold weightW
  split
  · exact ⟨0, fl_zero, by omega, hM⟩
  · rename_i h1
    split
    · exact ⟨0, fl_zero, by omega, hM⟩
    · rename_i h2
      split
      · exact ⟨Mil, fl_mil, hM, by omega⟩
      · rename_i h3
        have hn : Num x := by
          have := weightW_num x
          unfold weightW at this
          rwa [if_neg h1, if_neg h2, if_neg h3] at this
        obtain ⟨v, hv⟩ := num_fl hn
        refine ⟨v, hv, ?_, ?_⟩
        · rw [ord_fl hv fl_zero] at h2
          rcases cmp_cases v 0 with ⟨h, _⟩ | ⟨h, _⟩ | ⟨_, h⟩
          · exfalso; apply h2; rw [h]; rfl
          · exfalso; apply h2; rw [h]; rfl
          · omega
        · rw [ord_fl hv fl_mil] at h3
          rcases cmp_cases v Mil with ⟨_, h⟩ | ⟨_, h⟩ | ⟨h, _⟩
          · omega
          · omega
          · exfalso; apply h3; rw [h]; rfl

theorem pow_bound (c e f : Nat) (hc : c < 2 ^ 53) (hf : 53 + e ≤ f) : signed false c e < 2 ^ f := by
  have e1 : signed false c e = ((c * 2 ^ e : Nat) : Int) := by unfold signed; rw [Nat.shiftLeft_eq]; rfl
  rw [e1]
  have h1 : c * 2 ^ e < 2 ^ 53 * 2 ^ e := Nat.mul_lt_mul_of_pos_right hc (Nat.two_pow_pos _)
  have h2 : 2 ^ 53 * 2 ^ e ≤ 2 ^ f := by rw [← Nat.pow_add]; exact Nat.pow_le_pow_right (by decide) hf
  have h3 := Nat.lt_of_lt_of_le h1 h2
  exact_mod_cast h3
def High : Nat := 1100
theorem mil_lt : Mil < 2 ^ High := pow_bound 8589934592000000 1041 High (by decide) (by decide)

/-- The sum of not too many is a number, not below nothing. -/
theorem sum_fl (ws : List Nat) (h : ∀ x ∈ ws, ∃ v, Fl x v ∧ 0 ≤ v ∧ v ≤ Mil) (hn : ws.length ≤ 800) :
    ∃ v, Fl (sumW ws) v ∧ 0 ≤ v ∧ ((∃ x ∈ ws, ∀ u, Fl x u → 0 < u) → 0 < v) := by
  suffices key : ∀ (l : List Nat) (a : Nat) (va : Int) (n : Nat), (∀ x ∈ l, ∃ v, Fl x v ∧ 0 ≤ v ∧ v ≤ Mil) → Fl a va → 0 ≤ va → va + 2 * Mil ≤ 2 ^ (n + 1) * Mil → n + l.length ≤ 800 →
      ∃ v, Fl (l.foldl addW a) v ∧ 0 ≤ v ∧ ((0 < va ∨ ∃ x ∈ l, ∀ u, Fl x u → 0 < u) → 0 < v) by
    obtain ⟨v, h1, h2, h3⟩ := key ws 0 0 0 h fl_zero (Int.le_refl _) (by simp) (by omega)
    exact ⟨v, h1, h2, fun hh => h3 (.inr hh)⟩
  intro l
  induction l with
  | nil => exact fun a va n _ hv h0 _ _ => ⟨va, hv, h0, fun hh => by rcases hh with hh | ⟨x, hx, _⟩; exact hh; cases hx⟩
  | cons x l ih =>
    intro a va n hall hva h0 hle hlen
    obtain ⟨vx, hvx, hx0, hxM⟩ := hall x (by simp)
    have hlt : va + vx < 2 ^ Top := by
      have h1 : va + vx ≤ 2 ^ (n + 1) * Mil := by omega
      have h2 : (2 : Int) ^ (n + 1) * Mil < 2 ^ (n + 1) * 2 ^ High := Int.mul_lt_mul_of_pos_left mil_lt (pow_pos _)
      have h3 : (2 : Int) ^ (n + 1) * 2 ^ High ≤ 2 ^ Top := by
        rw [← Int.pow_add]
        have hle : n + 1 + High ≤ Top := by unfold Top High; simp at hlen; omega
        have : (2 : Nat) ^ (n + 1 + High) ≤ 2 ^ Top := Nat.pow_le_pow_right (by decide) hle
        revert this
        generalize n + 1 + High = p
        generalize Top = q
        intro this
        exact_mod_cast this
      exact Int.lt_of_le_of_lt h1 (Int.lt_of_lt_of_le h2 h3)
    obtain ⟨r, c, hr, hc, hc0, hcl, hcp⟩ := add_round hva hvx h0 hx0 hlt
    have er : addW a x = r := by unfold addW; rw [hr]; rfl
    simp only [List.foldl_cons]
    rw [er]
    obtain ⟨v, k1, k2, k3⟩ := ih r c (n + 1) (fun y hy => hall y (by simp [hy])) hc hc0 (by
      have : (2 : Int) ^ (n + 1 + 1) * Mil = 2 * (2 ^ (n + 1) * Mil) := by rw [Int.pow_succ, Int.mul_comm (2 ^ (n + 1)) 2, Int.mul_assoc]
      omega) (by simp at hlen; omega)
    refine ⟨v, k1, k2, fun hh => k3 ?_⟩
    rcases hh with hh | ⟨y, hy, hp⟩
    · exact .inl (hcp (by omega))
    · rcases List.mem_cons.1 hy with rfl | hy
      · exact .inl (hcp (by have := hp vx hvx; omega))
      · exact .inr ⟨y, hy, hp⟩

theorem rawW_fl (l : List (Nat × Nat)) : ∀ x ∈ rawW l, ∃ v, Fl x v ∧ 0 ≤ v ∧ v ≤ Mil := by
  intro x hx
  simp only [rawW, List.mem_map] at hx
  obtain ⟨s, _, rfl⟩ := hx
  exact weightW_fl _

theorem tot_num (l : List (Nat × Nat)) (h : l.length ≤ 800) : Num (totW l) := by
  unfold totW
  split
  · exact fl_num (int_fl (l.length : Int) (by rw [Int.natAbs_natCast]; exact Nat.lt_of_le_of_lt h (by decide)))
  · obtain ⟨v, hv, _⟩ := sum_fl (rawW l) (rawW_fl l) (by simp [rawW]; exact h)
    exact fl_num hv
end Go.Proofs.YtgimmdnmndbcpaaGreatDoor
