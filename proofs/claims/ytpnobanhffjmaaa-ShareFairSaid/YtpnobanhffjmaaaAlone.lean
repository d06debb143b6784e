/- ShareAlone: the walk. -/
import Derived.Test.YtpnobanhffjmaaaM
import Derived.Test.YtpnobanhffjmaaaZeros
import Derived.Test.YtpnobanhffjmaaaNum
import Derived.Deep.CutBlock
set_option linter.unusedVariables false
set_option linter.unusedSimpArgs false
namespace Go.Proofs.Ytpnobanhffjmaaa
open Go.RowKit Jw Go.Deep
attribute [local go_sem] run_store_float max2_mx min2_mn max_mx min_mn

theorem one_picked (l : List (Nat × Nat)) (h : l.length = 1) : (pickW l).1 = 0 := by
  show bestTo (trnW l) l.length = 0
  rw [h]; rfl
theorem alone_picks (l : List (Nat × Nat)) (h : l.length = 1) (n : Nat) : ∀ j, (picksW l n).1.getD j 0 = 0 := by
  have e : (picksW l n).1 = List.replicate n 0 := by
    induction n with
    | zero => rfl
    | succ n ih =>
      simp only [picksW]
      rw [ih, one_picked _ (by rw [picksW_length, h]), List.replicate_succ']
  intro j
  rw [e, List.getD_eq_getElem?_getD, List.getElem?_replicate]
  split <;> rfl

theorem mil_eq : Mil = 1000000 * 2 ^ Jf.One := by
  unfold Mil
  rw [Jf.signed_eq, if_neg (by decide), Int.one_mul, show Jf.One = 33 + 1041 from rfl, Int.pow_add, ← Int.mul_assoc]
  generalize (2 : Int) ^ 1041 = q
  rfl
theorem int_mil {n : Int} (h : n ≤ 1000000) : n * 2 ^ Jf.One ≤ Mil := by
  rw [mil_eq]
  exact Int.mul_le_mul_of_nonneg_right h (Int.le_of_lt (Jf.pow_pos _))
theorem int_pos {n : Int} (u : Nat) (h : 0 ≤ n) : 0 ≤ n * 2 ^ u := Int.mul_nonneg h (Int.le_of_lt (Jf.pow_pos _))
theorem fl_int (n : Int) (h : n.natAbs < 2 ^ 53) : Jf.Fl (floatOfInt .f64 n) (n * 2 ^ Jf.One) := Jf.int_fl n h
theorem fl_three : Jf.Fl 4613937818241073152 (3 * 2 ^ Jf.One) := by
  have h := fl_int 3 (by decide)
  have e : floatOfInt .f64 3 = 4613937818241073152 := by decide +kernel
  revert h
  generalize Jf.One = o
  intro h
  rw [e] at h
  exact h
theorem ord_same {x y : Nat} {v : Int} (hx : Jf.Fl x v) (hy : Jf.Fl y v) : (ord x y == some .eq) = true := by
  rw [ord_fl hx hy]
  rcases Jf.cmp_cases v v with ⟨_, e⟩ | ⟨e, _⟩ | ⟨_, e⟩
  · omega
  · rw [e]; rfl
  · omega

def three (t : Nat) : List (Nat × Nat) := [(4613937818241073152, t)]
theorem alone_turn (c : Int) (h1 : -1000 < c) (h2 : c < 1000) : (pickW (three (floatOfInt .f64 c))).1 = 0 ∧ (pickW (three (floatOfInt .f64 c))).2.length = 1 ∧
    (ord ((pickW (three (floatOfInt .f64 c))).2.getD 0 (0, 0)).2 (floatOfInt .f64 c) == some .eq) = true := by
  have hc := fl_int c (by omega)
  generalize floatOfInt .f64 c = t at *
  have hsm : Jf.sm 1 (fun _ => (3 : Int)) = 3 := rfl
  obtain ⟨_, k2, k3⟩ := some_counts (three t) 1 Jf.One (fun _ => 3) rfl (by decide) (fun _ => by decide) (fun i hi => by
    obtain rfl : i = 0 := by omega
    exact weightW_same fl_three (int_pos _ (by decide)) (int_mil (by decide))) (by rw [hsm]; decide) (by rw [hsm]; decide)
  rw [hsm] at k3
  obtain ⟨b, e1, e2, e3⟩ := pick_step (three t) 1 Jf.One (fun _ => 3) (fun _ => c) 3 rfl (by decide) (by decide) k2 k3 (fun i hi => by
    obtain rfl : i = 0 := by omega
    exact hc) (fun i hi => by constructor <;> omega)
  obtain rfl : b = 0 := by have := e1.1; omega
  refine ⟨e2, by rw [pickW_length]; rfl, ?_⟩
  have := e3 0 (by decide)
  rw [if_pos rfl, show c + 3 - 3 = c from by omega] at this
  exact ord_same this hc

set_option maxRecDepth 100000 in
set_option maxHeartbeats 1000000 in
theorem alone_walk (w : World) (x y : Nat) (a b : Int) :
    Calls Try.prog 5 #[.agg #[fl x, fl y], n64 a, n64 b] w fun e w' => e = .returned (.bool true) ∧ Below w.heap.size w w' := by
  go_enter Try.func5, Try.ntmps5
  go_wp2_with fail
  have hb0 := blk_new w #[fl x, fl y] 27
  have hB0 : Below w.heap.size w (w.alloc (.cells #[fl x, fl y] 27)) := (Below.refl _ _).alloc (Nat.le_refl _) _
  refine (alive_yes _).mono ?_
  rintro e w1 ⟨rfl, hB⟩
  have hB1 := hB0.trans (hB.mono hB0.size)
  have hb1 := hb0.below hB hb0.lt
  have hbc0 := hb1.cell 0 (fl x) rfl
  have hbc1 := hb1.cell 1 (fl y) rfl
  clear hB hB0 hb0
  obtain ⟨N, hN⟩ : ∃ N, N = wrap64 ((IntKind.u64.wrap b).tmod 50) := ⟨_, rfl⟩
  have hN1 : 0 ≤ N ∧ N < 50 := by rw [hN]; exact umod_range b 50 (by decide) (by decide)
  go_wp2_with fail
  rw [← hN]
  clear hN
  obtain ⟨n, rfl⟩ := Int.eq_ofNat_of_zero_le hN1.1
  have hn1 : n < 50 := by omega
  clear hN1
  have hN8 := blk_new w1 #[fl x, fl y] 27
  have hB2 := hB1.alloc hB1.size (.cells #[fl x, fl y] 27)
  have hsz := hB1.size
  have hal := alone_picks [(x, y)] rfl n
  have hct := picksW_count [(x, y)] n
  have hlt2 := picksW_length [(x, y)] n
  refine (picks_any _ [(x, y)] n _ (RdS.of_blk (l := [(x, y)]) (cap := 1) (b := w1.heap.size) (by exact hN8)) (by simp) (by omega) (by simp)).mono ?_
  rintro e w4 ⟨v1, v2, rfl, hP, hO4, hB4⟩
  have hB5 := hB2.trans (hB4.mono hB2.size)
  rw [Int.toNat_natCast] at hP hO4
  obtain ⟨ps, eps⟩ : ∃ ps, ps = (picksW [(x, y)] n).1 := ⟨_, rfl⟩
  rw [← eps] at hP hal hct
  obtain ⟨ao5, cap5, rfl, hc5⟩ := hP
  rw [hct] at hc5 ⊢
  obtain ⟨ao6, cap6, e6, _, _⟩ := hO4.read
  rw [hlt2, show [(x, y)].length = 1 from rfl] at e6
  subst e6
  have HC := Lib.hid hc5
  have HQ := Lib.hid hal
  clear eps hc5 hal hct hlt2 hB4 hO4 hN8 hB2
  go_wp2_with fail
  go_loopw [37] (fun i wr => ∃ (j c : Nat), j ≤ n ∧ i = n64 j ∧ wr = w4.drewN c) (fun i _ => n - (intOf i).toNat)
  case atStart => exact ⟨0, 0, Nat.zero_le _, rfl, rfl⟩
  case round =>
    obtain ⟨j, c, hj, rfl, rfl⟩ := hrel
    by_cases hlt : j < n
    · obtain ⟨b5, off5, rfl, _, hcc⟩ := HC.out (by omega)
      have hck := hcc j hlt
      have hpj := HQ.out j
      rw [hpj] at hck
      clear hcc hpj HC HQ
      go_wp2_with fail
      go_roundw
      case rel => exact ⟨j + 1, _, by omega, by go_num, rfl⟩
      case measure => simp [intOf]; omega
    · obtain rfl : j = n := by omega
      have hB6 : Below w.heap.size w (w4.drewN c) := hB5.trans ⟨rfl, rfl, rfl, Nat.le_refl _, fun _ _ => rfl⟩
      clear hB5 HC HQ
      have ht1 : -1000 < a.tmod 1000 ∧ a.tmod 1000 < 1000 := by
        have := Int.tmod_lt_of_pos a (show (0 : Int) < 1000 by decide)
        have := Int.lt_tmod_of_pos a (show (0 : Int) < 1000 by decide)
        omega
      have hT := alone_turn (a.tmod 1000) ht1.1 ht1.2
      obtain ⟨l, el⟩ : ∃ l, l = three (floatOfInt .f64 (a.tmod 1000)) := ⟨_, rfl⟩
      rw [← el] at hT
      have EL := Lib.hid el
      have HT := Lib.hid hT
      clear el hT ht1
      go_wp2_with fail
      have hN8 := blk_new (w4.drewN c) (shs (three (floatOfInt .f64 (a.tmod 1000)))).toArray 27
      rw [← EL.out] at hN8
      have hB7 := hB6.alloc hB6.size (.cells #[fl 4613937818241073152, fl (floatOfInt .f64 (a.tmod 1000))] 27)
      have hll : l.length = 1 := by rw [EL.out]; rfl
      refine (pick_any _ l _ (by have := RdS.of_blk (cap := 1) (b := w4.heap.size) (by exact hN8); rw [hll] at this; rw [EL.out] at this ⊢; exact this) (by rw [hll]; decide)).mono ?_
      rintro e w5 ⟨v5, rfl, hO5, hB8⟩
      have hB9 := hB7.trans (hB8.mono hB7.size)
      obtain ⟨ht1, ht2, ht3⟩ := HT.out
      obtain ⟨ao7, cap7, e7, _, hc7⟩ := hO5.read
      obtain ⟨b7, off7, rfl, _, hcc⟩ := hc7 (by rw [ht2]; decide)
      have hck := (hcc 0 (by rw [ht2]; decide)).2
      rw [ht2] at e7
      subst e7
      rw [ht1]
      obtain ⟨r, er⟩ : ∃ r, r = ((pickW l).2.getD 0 (0, 0)).2 := ⟨_, rfl⟩
      rw [← er] at hck ht3
      clear er hcc hc7 HT EL hO5 hB8 hB7 hN8 hll ht1 ht2 hB6
      rw [Nat.zero_mul, Nat.add_zero] at hck
      go_wp2
      go_ret
      exact ⟨rfl, hB9⟩
end Go.Proofs.Ytpnobanhffjmaaa
