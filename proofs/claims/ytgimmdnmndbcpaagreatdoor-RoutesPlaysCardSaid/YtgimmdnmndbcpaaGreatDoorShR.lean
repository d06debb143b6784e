/- The reference of layer 15: what each call comes to: the same words as the program's. -/
import Derived.Test.YtgimmdnmndbcpaaGreatDoorShD
set_option linter.unusedVariables false
set_option linter.unusedSimpArgs false
namespace Go.Proofs.YtgimmdnmndbcpaaGreatDoor
open Go.RowKit Jw Go.Deep
attribute [local go_sem] run_store_float max2_mx min2_mn max_mx min_mn

def refW (x : Nat) : Nat :=
  if (ord x 0 == some .gt && (ord x 4696837146684686336 == some .lt || ord x 4696837146684686336 == some .eq)) = true then x
  else if (ord x 4696837146684686336 == some .gt) = true then 4696837146684686336 else 0
def refT (x : Nat) : Nat :=
  if ((ord x 18442240474082181119 == some .gt || ord x 18442240474082181119 == some .eq) && (ord x 9218868437227405311 == some .lt || ord x 9218868437227405311 == some .eq)) = true then x else 0

section
open Jf Ieee
theorem ord_nan {x : Nat} {s : Bool} {f : Nat} (h : double.read x = .nan s f) (y : Nat) : ord x y = none := by
  show Ieee.double.order x y = none
  unfold Ieee.Format.order
  rw [h]
  cases double.read y <;> rfl
theorem ord_inf {x y : Nat} {s : Bool} {v : Int} (h : double.read x = .infinity s) (hy : Fl y v) : ord x y = some (if s then .lt else .gt) := by
  obtain ⟨t, n, j, hy, _⟩ := hy
  show Ieee.double.order x y = _
  unfold Ieee.Format.order
  rw [h, hy]
  cases s <;> rfl
theorem signed_pos (c e : Nat) (h : 0 < c) : 0 < signed false c e := by
  unfold signed
  simp only [Bool.false_eq_true, if_false]
  rw [Nat.shiftLeft_eq]
  exact Int.natCast_pos.2 (Nat.mul_pos h (Nat.two_pow_pos _))
theorem mil_pos : 0 < Mil := by
  unfold Mil
  exact signed_pos _ _ (by decide)
theorem refW_eq (x : Nat) : refW x = weightW x := by
  rcases read_cases x with ⟨v, h⟩ | ⟨s, h⟩ | ⟨s, f, h⟩
  · have hm := mil_pos
    unfold refW weightW
    rw [nanW_fl h, ord_fl h fl_zero, ord_fl h fl_mil]
    rcases cmp_cases v 0 with ⟨e, h1⟩ | ⟨e, h1⟩ | ⟨e, h1⟩ <;> rcases cmp_cases v Mil with ⟨e', h2⟩ | ⟨e', h2⟩ | ⟨e', h2⟩ <;> rw [e, e'] <;> first | rfl | (exfalso; omega)
  · have hn : nanW x = false := by
      show (Ieee.double.order x x != some .eq) = false
      unfold Ieee.Format.order
      rw [h]; cases s <;> rfl
    unfold refW weightW
    rw [hn, ord_inf h fl_zero, ord_inf h fl_mil]
    cases s <;> rfl
  · unfold refW weightW
    rw [nanW_nan h, ord_nan h, ord_nan h]
    rfl
theorem fl_nmax : Fl 18442240474082181119 (signed true MaxM MaxE) := ⟨true, MaxM, MaxE, by decide +kernel, rfl⟩
theorem refT_eq (x : Nat) : refT x = turnW x := by
  rcases read_cases x with ⟨v, h⟩ | ⟨s, h⟩ | ⟨s, f, h⟩
  · rw [turnW_fl h]
    unfold refT
    rw [ord_fl h fl_nmax, ord_fl h fl_max]
    have hle := fl_le_max h
    have e1 : signed true MaxM MaxE = -((MaxM * 2 ^ MaxE : Nat) : Int) := by unfold signed; rw [Nat.shiftLeft_eq]; rfl
    have e2 : signed false MaxM MaxE = ((MaxM * 2 ^ MaxE : Nat) : Int) := by unfold signed; rw [Nat.shiftLeft_eq]; rfl
    rw [e1, e2]
    generalize MaxM * 2 ^ MaxE = X at *
    rcases cmp_cases v (-(X : Int)) with ⟨e, h1⟩ | ⟨e, h1⟩ | ⟨e, h1⟩ <;> rcases cmp_cases v (X : Int) with ⟨e', h2⟩ | ⟨e', h2⟩ | ⟨e', h2⟩ <;> rw [e, e'] <;> first | rfl | (exfalso; omega)
  · have : turnW x = 0 := by unfold turnW; rw [infW_inf h]; simp
    rw [this]
    unfold refT
    rw [ord_inf h fl_nmax, ord_inf h fl_max]
    cases s <;> rfl
  · have : turnW x = 0 := by unfold turnW; rw [nanW_nan h]; simp
    rw [this]
    unfold refT
    rw [ord_nan h, ord_nan h]
    rfl
end

theorem refweight_any (x : Nat) (w : World) : Calls Tryz.prog 71 #[fl x] w fun e w' => e = .returned (fl (weightW x)) ∧ w = w' := by
  have hq := refW_eq x
  rw [← hq]
  clear hq
  unfold refW
  cases h1 : (ord x 0 == some .gt) with
  | true =>
    cases h2 : (ord x 4696837146684686336 == some .lt || ord x 4696837146684686336 == some .eq) with
    | true =>
      simp only [Bool.and_self, if_true]
      go_enter Tryz.func71, Tryz.ntmps71
      go_wp2
      go_ret
      exact ⟨rfl, rfl⟩
    | false =>
      cases h3 : (ord x 4696837146684686336 == some .gt) with
      | true =>
        simp only [Bool.and_false, Bool.false_eq_true, if_false, if_true]
        go_enter Tryz.func71, Tryz.ntmps71
        go_wp2
        go_ret
        exact ⟨rfl, rfl⟩
      | false =>
        simp only [Bool.and_false, Bool.false_eq_true, if_false]
        go_enter Tryz.func71, Tryz.ntmps71
        go_wp2
        go_ret
        exact ⟨rfl, rfl⟩
  | false =>
    cases h3 : (ord x 4696837146684686336 == some .gt) with
    | true =>
      simp only [Bool.false_and, Bool.false_eq_true, if_false, if_true]
      go_enter Tryz.func71, Tryz.ntmps71
      go_wp2
      go_ret
      exact ⟨rfl, rfl⟩
    | false =>
      simp only [Bool.false_and, Bool.false_eq_true, if_false]
      go_enter Tryz.func71, Tryz.ntmps71
      go_wp2
      go_ret
      exact ⟨rfl, rfl⟩

theorem refturn_any (x : Nat) (w : World) : Calls Tryz.prog 72 #[fl x] w fun e w' => e = .returned (fl (turnW x)) ∧ w = w' := by
  have hq := refT_eq x
  rw [← hq]
  clear hq
  unfold refT
  cases h1 : (ord x 18442240474082181119 == some .gt || ord x 18442240474082181119 == some .eq) with
  | true =>
    cases h2 : (ord x 9218868437227405311 == some .lt || ord x 9218868437227405311 == some .eq) with
    | true =>
      simp only [Bool.and_self, if_true]
      go_enter Tryz.func72, Tryz.ntmps72
      go_wp2
      go_ret
      exact ⟨rfl, rfl⟩
    | false =>
      simp only [Bool.and_false, Bool.false_eq_true, if_false]
      go_enter Tryz.func72, Tryz.ntmps72
      go_wp2
      go_ret
      exact ⟨rfl, rfl⟩
  | false =>
    simp only [Bool.false_and, Bool.false_eq_true, if_false]
    go_enter Tryz.func72, Tryz.ntmps72
    go_wp2
    go_ret
    exact ⟨rfl, rfl⟩

theorem sumW_next (l : List (Nat × Nat)) (k : Nat) (h : k < l.length) : sumW ((rawW l).take (k + 1)) = addW (sumW ((rawW l).take k)) (weightW (l.getD k (0, 0)).1) := by
  have hl : k < (rawW l).length := by simp [rawW]; exact h
  rw [List.take_add_one, List.getElem?_eq_getElem hl, Option.toList_some, sumW_snoc]
  congr 1
  simp [rawW, List.getD_eq_getElem?_getD, List.getElem?_eq_getElem h]

set_option maxHeartbeats 1000000 in
theorem reftotal_any (v : Value) (l : List (Nat × Nat)) (w : World) (hr : RdS w v l) (hlen : l.length ≤ 9223372036854775807) :
    Calls Tryz.prog 70 #[v] w fun e w' => e = .returned (.tuple #[fl (totW l), .bool (noneW l)]) ∧ Below w.heap.size w w' := by
  obtain ⟨ao, cap, rfl, _, hc⟩ := hr
  have HC := Lib.hid hc
  clear hc
  go_enter Tryz.func70, Tryz.ntmps70
  go_wp2_with fail
  go_loopw [4, 9] (fun t i wr => ∃ (k : Nat), k ≤ l.length ∧ i = n64 k ∧ t = fl (sumW ((rawW l).take k)) ∧ Below w.heap.size w wr) (fun _ i _ => l.length - (intOf i).toNat)
  case atStart => exact ⟨0, Nat.zero_le _, rfl, rfl, Below.refl _ _⟩
  case round =>
    obtain ⟨k, hk, rfl, rfl, hB⟩ := hrel
    by_cases hlt : k < l.length
    · obtain ⟨b, off, rfl, hb, hcc⟩ := HC.out (by omega)
      have c1 := (hB.cell (p := ⟨b, off + k * 2, none⟩) hb).trans (hcc k hlt).1
      have c2 := (hB.cell (p := ⟨b, off + k * 2 + 1, none⟩) hb).trans (hcc k hlt).2
      have hsn := sumW_next l k hlt
      have hadd : Ieee.double.add (sumW ((rawW l).take k)) (weightW (l.getD k (0, 0)).1) = some (sumW ((rawW l).take (k + 1))) := by
        rw [hsn]
        exact (add_ok (sumW_ext (fun x hx => rawW_num l x (List.mem_of_mem_take hx))) (weightW_num _)).1
      have hrun := fun wx => run_float_arith (P := Tryz.prog) wx .add 31 .f64 _ _ _ hadd
      obtain ⟨x, ex⟩ : ∃ x, x = (l.getD k (0, 0)).1 := ⟨_, rfl⟩
      obtain ⟨y, ey⟩ : ∃ y, y = (l.getD k (0, 0)).2 := ⟨_, rfl⟩
      obtain ⟨s, es⟩ : ∃ s, s = sumW ((rawW l).take k) := ⟨_, rfl⟩
      obtain ⟨r, er⟩ : ∃ r, r = sumW ((rawW l).take (k + 1)) := ⟨_, rfl⟩
      rw [← ex] at c1 hrun
      rw [← ey] at c2
      rw [← es, ← er] at hrun
      rw [← es]
      have E := Lib.hid er
      clear ex ey es er hsn hadd hcc
      have hB2 := hB.alloc hB.size (.cells #[fl x, fl y] 83)
      go_wp2_with fail
      refine (refweight_any _ _).mono ?_
      rintro e w' ⟨rfl, rfl⟩
      go_wp2
      go_roundw
      case rel => exact ⟨k + 1, by omega, by go_num, by rw [E.out], hB2⟩
      case measure => simp [intOf]; omega
    · obtain rfl : k = l.length := by omega
      have hfull : (rawW l).take l.length = rawW l := by rw [List.take_of_length_le]; simp [rawW]
      rw [hfull]
      have ht : totW l = if noneW l = true then floatOfInt .f64 l.length else sumW (rawW l) := rfl
      have hn : noneW l = (ord (sumW (rawW l)) 0 == some .eq) := rfl
      obtain ⟨s, es⟩ : ∃ s, s = sumW (rawW l) := ⟨_, rfl⟩
      rw [← es] at hn ht ⊢
      cases hz : (ord s 0 == some .eq) with
      | true =>
        rw [hz] at hn
        rw [hn, if_pos rfl] at ht
        have HN := Lib.hid (And.intro hn ht)
        clear hn ht es hfull
        go_wp2
        go_ret2
        exact ⟨by rw [HN.out.1, HN.out.2]; rfl, hB⟩
      | false =>
        rw [hz] at hn
        rw [hn, if_neg (by decide)] at ht
        have HN := Lib.hid (And.intro hn ht)
        clear hn ht es hfull
        go_wp2
        go_ret2
        exact ⟨by rw [HN.out.1, HN.out.2]; rfl, hB⟩
end Go.Proofs.YtgimmdnmndbcpaaGreatDoor
