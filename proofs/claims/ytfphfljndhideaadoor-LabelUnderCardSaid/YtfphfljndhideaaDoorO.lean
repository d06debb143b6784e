/- LabelOrder: the walk. -/
import Derived.Test.YtfphfljndhideaaDoorN
set_option linter.unusedVariables false
set_option linter.unusedSimpArgs false
namespace Go.Proofs.YtfphfljndhideaaDoor
open Go.RowKit Jw Lab

set_option maxHeartbeats 1000000 in
theorem orderLaw_no (x y n : List UInt8) (w : World) (a : Addr) (m : Int) (hg : Gl w a m) (h : 200 < x.length ∨ 200 < y.length ∨ 200 < n.length ∨ fits x n = false ∨ fits y n = false ∨ x = y) :
    Calls Tryd.prog 8 #[.string (bs x), .string (bs y), .string (bs n)] w fun e w' => e = .returned (.bool true) ∧ Below w.heap.size w w' := by
  have s1 : (bs x).size = x.length := rfl
  have s2 : (bs y).size = y.length := rfl
  have s3 : (bs n).size = n.length := rfl
  have HG := Lib.hid hg
  have HA := Lib.hid (alive_any w a m hg)
  clear hg
  rcases Nat.lt_or_ge 200 x.length with h1 | h1
  · have q1 : decide (200 < (x.length : Int)) = true := by simp; omega
    clear h h1
    go_enter Tryd.func8, Tryd.ntmps8
    go_wp2_with (go_at_call 13; refine HA.out.mono ?_; rintro e w1 ⟨rfl, hB⟩)
    go_ret
    exact ⟨rfl, hB⟩
  have q1 : decide (200 < (x.length : Int)) = false := by simp; omega
  rcases Nat.lt_or_ge 200 y.length with h2 | h2
  · have q2 : decide (200 < (y.length : Int)) = true := by simp; omega
    clear h h1 h2
    go_enter Tryd.func8, Tryd.ntmps8
    go_wp2_with (go_at_call 13; refine HA.out.mono ?_; rintro e w1 ⟨rfl, hB⟩)
    go_ret
    exact ⟨rfl, hB⟩
  have q2 : decide (200 < (y.length : Int)) = false := by simp; omega
  rcases Nat.lt_or_ge 200 n.length with h3 | h3
  · have q3 : decide (200 < (n.length : Int)) = true := by simp; omega
    clear h h1 h2 h3
    go_enter Tryd.func8, Tryd.ntmps8
    go_wp2_with (go_at_call 13; refine HA.out.mono ?_; rintro e w1 ⟨rfl, hB⟩)
    go_ret
    exact ⟨rfl, hB⟩
  have q3 : decide (200 < (n.length : Int)) = false := by simp; omega
  have HF1 := Lib.hid (fun w2 (h : Gl w2 a m) => fits_any x n (by omega) (by omega) a m w2 h)
  have HF2 := Lib.hid (fun w2 (h : Gl w2 a m) => fits_any y n (by omega) (by omega) a m w2 h)
  cases hf1 : fits x n with
  | false =>
    rw [hf1] at HF1
    clear h h1 h2 h3 hf1 HF2
    go_enter Tryd.func8, Tryd.ntmps8
    go_wp2_with (first
      | (go_at_call 13; refine HA.out.mono ?_; rintro e w1 ⟨rfl, hB⟩; have hg1 := HG.out.below hB (Nat.le_refl _))
      | (go_at_call 14; refine (HF1.out _ hg1).mono ?_; rintro e w2 ⟨rfl, hB2⟩))
    go_ret
    exact ⟨rfl, hB.trans (hB2.mono hB.size)⟩
  | true =>
  cases hf2 : fits y n with
  | false =>
    rw [hf1] at HF1
    rw [hf2] at HF2
    clear h h1 h2 h3 hf1 hf2
    go_enter Tryd.func8, Tryd.ntmps8
    go_wp2_with (first
      | (go_at_call 13; refine HA.out.mono ?_; rintro e w1 ⟨rfl, hB⟩; have hg1 := HG.out.below hB (Nat.le_refl _))
      | (go_at_call 14; first
        | ((with_reducible refine (HF1.out _ hg1).mono ?_); rintro e w2 ⟨rfl, hB2⟩; have hg2 := hg1.below hB2 (Nat.le_refl _))
        | ((with_reducible refine (HF2.out _ hg2).mono ?_); rintro e w3 ⟨rfl, hB3⟩)))
    go_ret
    have h2 := hB.trans (hB2.mono hB.size)
    exact ⟨rfl, h2.trans (hB3.mono h2.size)⟩
  | true =>
    have e : x = y := by
      rcases h with h | h | h | h | h | h
      · omega
      · omega
      · omega
      · rw [hf1] at h; exact absurd h (by simp)
      · rw [hf2] at h; exact absurd h (by simp)
      · exact h
    subst e
    have hxx : (x == x) = true := by simp
    have t1 : (bs x).toList = x := ByteArray.toList_mk x
    rw [hf1] at HF1
    clear h h1 h2 h3 hf1 hf2 HF2
    go_enter Tryd.func8, Tryd.ntmps8
    go_wp2_with (first
      | (go_at_call 13; refine HA.out.mono ?_; rintro e w1 ⟨rfl, hB⟩; have hg1 := HG.out.below hB (Nat.le_refl _))
      | (go_at_call 14; first
        | ((with_reducible refine (HF1.out _ hg2).mono ?_); rintro e w3 ⟨rfl, hB3⟩)
        | ((with_reducible refine (HF1.out _ hg1).mono ?_); rintro e w2 ⟨rfl, hB2⟩; have hg2 := hg1.below hB2 (Nat.le_refl _))))
    go_ret
    have h2 := hB.trans (hB2.mono hB.size)
    exact ⟨rfl, h2.trans (hB3.mono h2.size)⟩

set_option maxHeartbeats 1000000 in
theorem orderLaw_walk (x y n : List UInt8) (w : World) (a : Addr) (m : Int) (hg : Gl w a m) :
    Calls Tryd.prog 8 #[.string (bs x), .string (bs y), .string (bs n)] w fun e w' => e = .returned (.bool true) ∧ Below w.heap.size w w' := by
  by_cases hno : 200 < x.length ∨ 200 < y.length ∨ 200 < n.length ∨ fits x n = false ∨ fits y n = false ∨ x = y
  · exact orderLaw_no x y n w a m hg hno
  have h1 : x.length ≤ 200 := Nat.le_of_not_lt fun h => hno (.inl h)
  have h2 : y.length ≤ 200 := Nat.le_of_not_lt fun h => hno (.inr (.inl h))
  have h3 : n.length ≤ 200 := Nat.le_of_not_lt fun h => hno (.inr (.inr (.inl h)))
  have h4 : fits x n = true := by
    cases e : fits x n with
    | true => rfl
    | false => exact absurd (.inr (.inr (.inr (.inl e)))) hno
  have h5 : fits y n = true := by
    cases e : fits y n with
    | true => rfl
    | false => exact absurd (.inr (.inr (.inr (.inr (.inl e))))) hno
  have h6 : x ≠ y := fun e => hno (.inr (.inr (.inr (.inr (.inr e)))))
  have s1 : (bs x).size = x.length := rfl
  have s2 : (bs y).size = y.length := rfl
  have s3 : (bs n).size = n.length := rfl
  have q1 : decide (200 < (x.length : Int)) = false := by simp; omega
  have q2 : decide (200 < (y.length : Int)) = false := by simp; omega
  have q3 : decide (200 < (n.length : Int)) = false := by simp; omega
  have HG := Lib.hid hg
  have HA := Lib.hid (alive_any w a m hg)
  have HF1 := Lib.hid (fun w2 (h : Gl w2 a m) => fits_any x n (by omega) (by omega) a m w2 h)
  have HF2 := Lib.hid (fun w2 (h : Gl w2 a m) => fits_any y n (by omega) (by omega) a m w2 h)
  have HB' := Lib.hid (fun w2 (h : Gl w2 a m) v (hr : Rs w2 v [x, y]) => best_any [x, y] n v (by intro p hp; simp at hp; rcases hp with rfl | rfl <;> omega) (by simp) (by omega) a m w2 h hr)
  have HU1 := Lib.hid (fun w2 (h : Gl w2 a m) => under_any x y (by omega) (by omega) a m w2 h)
  have HU2 := Lib.hid (fun w2 (h : Gl w2 a m) => under_any y x (by omega) (by omega) a m w2 h)
  have HN := Lib.hid (fun w2 => rname_any n (by omega) w2)
  have law := order_law h4 h5 h6
  have h6' : (x == y) = false := by simpa using h6
  have t1 : (bs x).toList = x := ByteArray.toList_mk x
  have t2 : (bs y).toList = y := ByteArray.toList_mk y
  have t4 : (bs n).toList = n := ByteArray.toList_mk n
  rw [h4] at HF1
  rw [h5] at HF2
  have hlen : [x, y].length = 2 := rfl
  rw [hlen] at HB'
  generalize bst [x, y] n 2 = bi at *
  clear hg hno h1 h2 h3 h4 h5 h6 hlen
  have HR := Lib.hid (show ∀ w2 : World, Rs (w2.alloc (.cells #[.string (bs x), .string (bs y)] 9)) (.slice (some ⟨w2.heap.size, 0, none⟩) 2 2) [x, y] from fun w2 => ⟨_, 2, rfl, fun _ => ⟨w2.heap.size, 0, rfl, (blk_new w2 #[.string (bs x), .string (bs y)] 9).lt, fun k hk => by
    rw [Nat.zero_add]
    refine (blk_new w2 #[.string (bs x), .string (bs y)] 9).cell k _ ?_
    match k, hk with
    | 0, _ => rfl
    | 1, _ => rfl⟩⟩)
  have HFin := Lib.hid (show ∀ w1 w2 w3 w5, Below w.heap.size w w1 → Below w1.heap.size w1 w2 → Below w2.heap.size w2 w3 → Below (w3.alloc (.cells #[.string (bs x), .string (bs y)] 9)).heap.size (w3.alloc (.cells #[.string (bs x), .string (bs y)] 9)) w5 → Below w.heap.size w w5 from fun w1 w2 w3 w5 b1 b2 b3 b5 => by
    have h2 := b1.trans (b2.mono b1.size)
    have h3 := h2.trans (b3.mono h2.size)
    have h4 := h3.alloc h3.size (.cells #[.string (bs x), .string (bs y)] 9)
    exact h4.trans (b5.mono h4.size))
  by_cases hx : x = n
  · obtain rfl := (law.1 hx)
    subst hx
    clear law HU1 HU2
    have hxx : (x == x) = true := by simp
    go_enter Tryd.func8, Tryd.ntmps8
    go_wp2_with (first
      | (go_at_call 13; refine HA.out.mono ?_; rintro e w1 ⟨rfl, hB⟩; have hg1 := HG.out.below hB (Nat.le_refl _))
      | (go_at_call 14; first
        | ((with_reducible refine (HF1.out _ hg1).mono ?_); rintro e w2 ⟨rfl, hB2⟩; have hg2 := hg1.below hB2 (Nat.le_refl _))
        | ((with_reducible refine (HF2.out _ hg2).mono ?_); rintro e w3 ⟨rfl, hB3⟩; have hg3 := hg2.below hB3 (Nat.le_refl _)))
      | (go_at_call 16; refine (HB'.out _ (hg3.below ((Below.refl _ _).alloc (Nat.le_refl _) _) (Nat.le_refl _)) _ (HR.out _)).mono ?_; rintro e w5 ⟨rfl, hB5⟩))
    go_ret
    exact ⟨rfl, HFin.out _ _ _ _ hB hB2 hB3 hB5⟩
  by_cases hy : y = n
  · obtain rfl := (law.2.1 hy)
    subst hy
    clear law HU1 HU2
    have hxx : (y == y) = true := by simp
    go_enter Tryd.func8, Tryd.ntmps8
    go_wp2_with (first
      | (go_at_call 13; refine HA.out.mono ?_; rintro e w1 ⟨rfl, hB⟩; have hg1 := HG.out.below hB (Nat.le_refl _))
      | (go_at_call 14; first
        | ((with_reducible refine (HF1.out _ hg1).mono ?_); rintro e w2 ⟨rfl, hB2⟩; have hg2 := hg1.below hB2 (Nat.le_refl _))
        | ((with_reducible refine (HF2.out _ hg2).mono ?_); rintro e w3 ⟨rfl, hB3⟩; have hg3 := hg2.below hB3 (Nat.le_refl _)))
      | (go_at_call 16; refine (HB'.out _ (hg3.below ((Below.refl _ _).alloc (Nat.le_refl _) _) (Nat.le_refl _)) _ (HR.out _)).mono ?_; rintro e w5 ⟨rfl, hB5⟩))
    go_ret
    exact ⟨rfl, HFin.out _ _ _ _ hB hB2 hB3 hB5⟩
  obtain ⟨hn, hcase⟩ := law.2.2 hx hy
  have e1 : (x == n) = false := by simpa using hx
  have e2 : (y == n) = false := by simpa using hy
  rw [hn] at HN
  clear law hn hx hy
  rcases hcase with ⟨rfl, u1, u2⟩ | ⟨rfl, u1, u2⟩
  all_goals
    rw [u1] at HU1
    rw [u2] at HU2
    clear u1 u2
    go_enter Tryd.func8, Tryd.ntmps8
    go_wp2_with (first
      | (go_at_call 13; refine HA.out.mono ?_; rintro e w1 ⟨rfl, hB⟩; have hg1 := HG.out.below hB (Nat.le_refl _))
      | (go_at_call 14; first
        | ((with_reducible refine (HF1.out _ hg1).mono ?_); rintro e w2 ⟨rfl, hB2⟩; have hg2 := hg1.below hB2 (Nat.le_refl _))
        | ((with_reducible refine (HF2.out _ hg2).mono ?_); rintro e w3 ⟨rfl, hB3⟩; have hg3 := hg2.below hB3 (Nat.le_refl _)))
      | (go_at_call 16; have hg4 := hg3.below ((Below.refl _ _).alloc (Nat.le_refl _) (.cells #[.string (bs x), .string (bs y)] 9)) (Nat.le_refl _); refine (HB'.out _ hg4 _ (HR.out _)).mono ?_; rintro e w5 ⟨rfl, hB5⟩; have hg5 := hg4.below hB5 (Nat.le_refl _))
      | (go_at_call 24; first
        | ((with_reducible refine (HU1.out _ hg5).mono ?_); rintro e w6 ⟨rfl, hB6⟩; have hg6 := hg5.below hB6 (Nat.le_refl _))
        | ((with_reducible refine (HU2.out _ hg6).mono ?_); rintro e w7 ⟨rfl, hB7⟩))
      | (go_at_call 22; refine (HN.out _).mono ?_; rintro e w8 ⟨rfl, hB8⟩))
    go_ret
    have h5 := HFin.out _ _ _ _ hB hB2 hB3 hB5
    have h6 := h5.trans (hB6.mono h5.size)
    have h7 := h6.trans (hB7.mono h6.size)
    exact ⟨rfl, h7.trans (hB8.mono h7.size)⟩
end Go.Proofs.YtfphfljndhideaaDoor
