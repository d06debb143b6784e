/- Under: what a call comes to. -/
import Derived.Test.YtfphfljndhideaaDoorL
set_option linter.unusedVariables false
set_option linter.unusedSimpArgs false
namespace Go.Proofs.YtfphfljndhideaaDoor
open Go.RowKit Jw Lab

theorem full_any (l : List UInt8) (hl : l.length < 4294967281) (w : World) : Calls Tryd.prog 45 #[.string (bs l)] w fun e w' => e = .returned (.bool (full l)) ∧ w' = w := by
  have H := Lib.hid (show Calls Tryd.prog 54 #[.string (bs l), .string ⟨#[46]⟩] w fun e w' => e = .returned (.int .i64 ((l.count 46 : Nat) : Int)) ∧ w' = w from Tryd.strings_Count_one (bs l) 46 w)
  have hc := List.count_le_length (a := (46 : UInt8)) (l := l)
  obtain ⟨k, hk⟩ : ∃ k, k = l.count 46 := ⟨_, rfl⟩
  have hf : full l = decide (8 ≤ k + 1) := by rw [full, hk]
  rw [← hk] at H hc
  have HF := Lib.hid hf
  clear hf hk
  have wk : IntKind.i64.wrap ((k : Int) + 1) = (k : Int) + 1 := IntWalk.i64_in _ (by omega)
  go_enter Tryd.func45, Tryd.ntmps45
  go_wp2_with (go_at_call 54; refine H.out.mono ?_; rintro e w' ⟨rfl, rfl⟩)
  go_ret
  refine ⟨?_, rfl⟩
  rw [HF.out]
  refine congrArg (fun b => Ending.returned (Value.bool b)) (?_ : _ = decide (8 ≤ k + 1))
  rw [Bool.eq_iff_iff]
  simp
  omega

set_option maxHeartbeats 1000000 in
theorem under_any (x y : List UInt8) (hx : x.length < 4294967281) (hy : y.length < 4294967281) (a : Addr) (m : Int) (w : World) (hg : Gl w a m) :
    Calls Tryd.prog 24 #[.string (bs x), .string (bs y)] w fun e w' => e = .returned (.bool (undr x y)) ∧ Below w.heap.size w w' := by
  have H1 := Lib.hid (pat_any x hx a m w hg)
  have H2 := Lib.hid (fun w2 (h : Gl w2 a m) => pat_any y hy a m w2 h)
  have H3 := Lib.hid (fun w2 => cut_any x w2)
  have H4 := Lib.hid (fun w2 => cut_any y w2)
  have lx := tl_le x
  have ly := tl_le y
  have H5 := Lib.hid (fun w2 => full_any (tl x) (by omega) w2)
  have H6 := Lib.hid (show ∀ w2, Calls Tryd.prog 41 #[.string (bs (tl x)), .string (bs (46 :: tl y))] w2 fun e w' => e = .returned (.bool ((46 :: tl y).isSuffixOf (tl x))) ∧ w' = w2 from fun w2 => Tryd.strings_HasSuffix (bs (tl x)) (bs (46 :: tl y)) w2 (by rw [bs_size]; omega))
  have HG := Lib.hid hg
  have t1 : (bs x).toList = x := ByteArray.toList_mk x
  have t2 : (bs y).toList = y := ByteArray.toList_mk y
  have t4 : (bs (tl x)).toList = tl x := ByteArray.toList_mk (tl x)
  have t5 : (bs (tl y)).toList = tl y := ByteArray.toList_mk (tl y)
  have t3 : (⟨#[46]⟩ : ByteArray) ++ bs (tl y) = bs (46 :: tl y) := by
    apply ByteArray.ext
    simp [bs]
  have t6 : (bs (tl y)).size = (tl y).length := rfl
  have t7 : (tl y).length ≤ 4294967281 := by omega
  obtain ⟨u, hu⟩ : ∃ u, undr x y = u := ⟨_, rfl⟩
  rw [hu]
  have hu' := hu
  rw [undr] at hu'
  generalize undr x y = uu at *
  generalize (46 :: tl y).isSuffixOf (tl x) = sf at *
  generalize full (tl x) = fl at *
  generalize patOk x = p1 at *
  generalize patOk y = p2 at *
  generalize wld x = w1 at *
  generalize wld y = w2 at *
  generalize tl x = tx at *
  generalize tl y = ty at *
  clear hg lx ly hu
  cases p1
  · obtain rfl : false = u := by simpa using hu'
    clear hu' H2 H3 H4 H5 H6
    go_enter Tryd.func24, Tryd.ntmps24
    go_wp2_with (go_at_call 38; refine H1.out.mono ?_; rintro e w' ⟨rfl, hB⟩)
    go_ret
    exact ⟨rfl, hB⟩
  cases p2
  · obtain rfl : false = u := by simpa using hu'
    clear hu' H3 H4 H5 H6
    go_enter Tryd.func24, Tryd.ntmps24
    go_wp2_with (go_at_call 38; first
      | ((with_reducible refine H1.out.mono ?_); rintro e w' ⟨rfl, hB⟩; have hg2 := HG.out.below hB (Nat.le_refl _))
      | ((with_reducible refine (H2.out _ hg2).mono ?_); rintro e w'' ⟨rfl, hB2⟩))
    go_ret
    exact ⟨rfl, hB.trans (hB2.mono hB.size)⟩
  have hfin : ∀ w1 w2, Below w.heap.size w w1 → Below w1.heap.size w1 w2 → Below w.heap.size w w2 := fun w1 w2 h1 h2 => h1.trans (h2.mono h1.size)
  have HFin := Lib.hid hfin
  clear hfin
  cases w1
  · cases w2
    · obtain rfl : (x == y) = u := by simpa using hu'
      clear hu' H5 H6
      go_enter Tryd.func24, Tryd.ntmps24
      go_wp2_with (first
        | (go_at_call 38; first
          | ((with_reducible refine H1.out.mono ?_); rintro e w' ⟨rfl, hB⟩; have hg2 := HG.out.below hB (Nat.le_refl _))
          | ((with_reducible refine (H2.out _ hg2).mono ?_); rintro e w'' ⟨rfl, hB2⟩))
        | (go_at_call 40; first
          | ((with_reducible refine (H3.out _).mono ?_); rintro e w3 ⟨rfl, rfl⟩)
          | ((with_reducible refine (H4.out _).mono ?_); rintro e w4 ⟨rfl, rfl⟩)))
      go_ret
      exact ⟨rfl, HFin.out _ _ hB hB2⟩
    · obtain rfl : sf = u := by simpa using hu'
      clear hu' H5
      go_enter Tryd.func24, Tryd.ntmps24
      go_wp2_with (first
        | (go_at_call 38; first
          | ((with_reducible refine H1.out.mono ?_); rintro e w' ⟨rfl, hB⟩; have hg2 := HG.out.below hB (Nat.le_refl _))
          | ((with_reducible refine (H2.out _ hg2).mono ?_); rintro e w'' ⟨rfl, hB2⟩))
        | (go_at_call 40; first
          | ((with_reducible refine (H3.out _).mono ?_); rintro e w3 ⟨rfl, rfl⟩)
          | ((with_reducible refine (H4.out _).mono ?_); rintro e w4 ⟨rfl, rfl⟩))
        | (go_at_call 41; refine (H6.out _).mono ?_; rintro e w5 ⟨rfl, rfl⟩))
      go_ret
      exact ⟨rfl, HFin.out _ _ hB hB2⟩
  cases fl
  · cases w2
    · obtain rfl : (x == y) = u := by simpa using hu'
      clear hu' H6
      go_enter Tryd.func24, Tryd.ntmps24
      go_wp2_with (first
        | (go_at_call 38; first
          | ((with_reducible refine H1.out.mono ?_); rintro e w' ⟨rfl, hB⟩; have hg2 := HG.out.below hB (Nat.le_refl _))
          | ((with_reducible refine (H2.out _ hg2).mono ?_); rintro e w'' ⟨rfl, hB2⟩))
        | (go_at_call 40; first
          | ((with_reducible refine (H3.out _).mono ?_); rintro e w3 ⟨rfl, rfl⟩)
          | ((with_reducible refine (H4.out _).mono ?_); rintro e w4 ⟨rfl, rfl⟩))
        | (go_at_call 45; refine (H5.out _).mono ?_; rintro e w5 ⟨rfl, rfl⟩))
      go_ret
      exact ⟨rfl, HFin.out _ _ hB hB2⟩
    · obtain ⟨q, hq⟩ : ∃ q, (tx == ty) = q := ⟨_, rfl⟩
      rw [hq] at hu'
      cases q
      · obtain rfl : sf = u := by simpa using hu'
        clear hu'
        go_enter Tryd.func24, Tryd.ntmps24
        go_wp2_with (first
          | (go_at_call 38; first
            | ((with_reducible refine H1.out.mono ?_); rintro e w' ⟨rfl, hB⟩; have hg2 := HG.out.below hB (Nat.le_refl _))
            | ((with_reducible refine (H2.out _ hg2).mono ?_); rintro e w'' ⟨rfl, hB2⟩))
          | (go_at_call 40; first
            | ((with_reducible refine (H3.out _).mono ?_); rintro e w3 ⟨rfl, rfl⟩)
            | ((with_reducible refine (H4.out _).mono ?_); rintro e w4 ⟨rfl, rfl⟩))
          | (go_at_call 41; refine (H6.out _).mono ?_; rintro e w5 ⟨rfl, rfl⟩)
          | (go_at_call 45; refine (H5.out _).mono ?_; rintro e w5 ⟨rfl, rfl⟩))
        go_ret
        exact ⟨rfl, HFin.out _ _ hB hB2⟩
      · obtain rfl : true = u := by simpa using hu'
        clear hu'
        go_enter Tryd.func24, Tryd.ntmps24
        go_wp2_with (first
          | (go_at_call 38; first
            | ((with_reducible refine H1.out.mono ?_); rintro e w' ⟨rfl, hB⟩; have hg2 := HG.out.below hB (Nat.le_refl _))
            | ((with_reducible refine (H2.out _ hg2).mono ?_); rintro e w'' ⟨rfl, hB2⟩))
          | (go_at_call 40; first
            | ((with_reducible refine (H3.out _).mono ?_); rintro e w3 ⟨rfl, rfl⟩)
            | ((with_reducible refine (H4.out _).mono ?_); rintro e w4 ⟨rfl, rfl⟩))
          | (go_at_call 41; refine (H6.out _).mono ?_; rintro e w5 ⟨rfl, rfl⟩)
          | (go_at_call 45; refine (H5.out _).mono ?_; rintro e w5 ⟨rfl, rfl⟩))
        go_ret
        exact ⟨rfl, HFin.out _ _ hB hB2⟩
  · obtain rfl : true = u := by simpa using hu'
    clear hu' H6
    go_enter Tryd.func24, Tryd.ntmps24
    go_wp2_with (first
      | (go_at_call 38; first
        | ((with_reducible refine H1.out.mono ?_); rintro e w' ⟨rfl, hB⟩; have hg2 := HG.out.below hB (Nat.le_refl _))
        | ((with_reducible refine (H2.out _ hg2).mono ?_); rintro e w'' ⟨rfl, hB2⟩))
      | (go_at_call 40; first
        | ((with_reducible refine (H3.out _).mono ?_); rintro e w3 ⟨rfl, rfl⟩)
        | ((with_reducible refine (H4.out _).mono ?_); rintro e w4 ⟨rfl, rfl⟩))
      | (go_at_call 45; refine (H5.out _).mono ?_; rintro e w5 ⟨rfl, rfl⟩))
    go_ret
    exact ⟨rfl, HFin.out _ _ hB hB2⟩
end Go.Proofs.YtfphfljndhideaaDoor
