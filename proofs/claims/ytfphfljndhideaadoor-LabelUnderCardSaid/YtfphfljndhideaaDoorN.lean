/- LabelWild: the walk. -/
import Derived.Test.YtfphfljndhideaaDoorM
set_option linter.unusedVariables false
set_option linter.unusedSimpArgs false
namespace Go.Proofs.YtfphfljndhideaaDoor
open Go.RowKit Jw Lab

theorem bs_cat (x y : List UInt8) : bs x ++ bs y = bs (x ++ y) := by
  apply ByteArray.ext
  apply Array.ext'
  simp [bs]
theorem wildLaw_no (n : List UInt8) (L : List (List UInt8)) (v : Value) (w : World) (hr : Rs w v L) (hn : n.length ≤ 9223372036854775807) (hlen : L.length ≤ 9223372036854775807) (a : Addr) (m : Int) (hg : Gl w a m) (h : 100 < n.length ∨ 20 < L.length ∨ nmOk n = false) :
    Calls Tryd.prog 5 #[.string (bs n), v] w fun e w' => e = .returned (.bool true) ∧ Below w.heap.size w w' := by
  have s1 : (bs n).size = n.length := rfl
  obtain ⟨ao, cap, rfl, _⟩ := hr
  have HG := Lib.hid hg
  have HA := Lib.hid (alive_any w a m hg)
  clear hg
  rcases Nat.lt_or_ge 100 n.length with h1 | h1
  · have q1 : decide (100 < (n.length : Int)) = true := by simp; omega
    clear h h1
    go_enter Tryd.func5, Tryd.ntmps5
    go_wp2_with (go_at_call 13; refine HA.out.mono ?_; rintro e w1 ⟨rfl, hB⟩)
    go_ret
    exact ⟨rfl, hB⟩
  have q1 : decide (100 < (n.length : Int)) = false := by simp; omega
  rcases Nat.lt_or_ge 20 L.length with h2 | h2
  · have q2 : decide (20 < (L.length : Int)) = true := by simp; omega
    clear h h1 h2
    go_enter Tryd.func5, Tryd.ntmps5
    go_wp2_with (go_at_call 13; refine HA.out.mono ?_; rintro e w1 ⟨rfl, hB⟩)
    go_ret
    exact ⟨rfl, hB⟩
  have q2 : decide (20 < (L.length : Int)) = false := by simp; omega
  have h3 : nmOk n = false := by
    rcases h with h | h | h
    · omega
    · omega
    · exact h
  have HN := Lib.hid (fun w2 (h : Gl w2 a m) => named_any n (by omega) a m w2 h)
  rw [h3] at HN
  have hk := show chk false a = er a from rfl
  clear h h1 h2 h3
  go_enter Tryd.func5, Tryd.ntmps5
  go_wp2_with (first
    | (go_at_call 13; refine HA.out.mono ?_; rintro e w1 ⟨rfl, hB⟩; have hg2 := HG.out.below hB (Nat.le_refl _))
    | (go_at_call 18; refine (HN.out _ hg2).mono ?_; rintro e w2 ⟨rfl, hB2⟩))
  go_ret
  exact ⟨rfl, hB.trans (hB2.mono hB.size)⟩

set_option maxHeartbeats 1000000 in
theorem wildLaw_walk (n : List UInt8) (L : List (List UInt8)) (v : Value) (w : World) (hr : Rs w v L) (hn : n.length ≤ 9223372036854775807) (hlen : L.length ≤ 9223372036854775807) (hL : ∀ p ∈ L, p.length ≤ 9223372036854775807) (a : Addr) (m : Int) (hg : Gl w a m) :
    Calls Tryd.prog 5 #[.string (bs n), v] w fun e w' => e = .returned (.bool true) ∧ Below w.heap.size w w' := by
  by_cases hno : 100 < n.length ∨ 20 < L.length ∨ nmOk n = false
  · exact wildLaw_no n L v w hr hn hlen a m hg hno
  have h1 : n.length ≤ 100 := by
    rcases Nat.lt_or_ge 100 n.length with h | h
    · exact absurd (.inl h) hno
    · exact h
  have h2 : L.length ≤ 20 := by
    rcases Nat.lt_or_ge 20 L.length with h | h
    · exact absurd (.inr (.inl h)) hno
    · exact h
  have h3 : nmOk n = true := by
    cases e : nmOk n with
    | true => rfl
    | false => exact absurd (.inr (.inr e)) hno
  have q1 : decide (100 < (n.length : Int)) = false := by simp; omega
  have q2 : decide (20 < (L.length : Int)) = false := by simp; omega
  have HL := Lib.hid hL
  have s1 : (bs n).size = n.length := rfl
  have s2 : n.length ≤ 4294967281 := by omega
  have HN := Lib.hid (fun w2 (h : Gl w2 a m) => named_any n (by omega) a m w2 h)
  rw [h3] at HN
  obtain ⟨hw1, hw2, hw3⟩ := wild_law h3
  have HF1 := Lib.hid (fun w2 (h : Gl w2 a m) => fits_any n n (by omega) (by omega) a m w2 h)
  have HF2 := Lib.hid (fun w2 (h : Gl w2 a m) => fits_any (42 :: 46 :: n) n (by simp; omega) (by omega) a m w2 h)
  rw [hw1] at HF1
  rw [hw2] at HF2
  have HC := Lib.hid (fun w2 (h : Gl w2 a m) => check_any (42 :: 46 :: n) (by simp; omega) a m w2 h)
  have HW3 := Lib.hid hw3
  have HG := Lib.hid hg
  have HA := Lib.hid (alive_any w a m hg)
  have hk := show chk false a = er a from rfl
  have hk2 := show chk true a = .nilIface from rfl
  have t3 : (⟨#[42, 46]⟩ : ByteArray) ++ bs n = bs (42 :: 46 :: n) := by
    apply ByteArray.ext
    simp [bs]
  obtain ⟨ao, cap, rfl, hao⟩ := hr
  have HAO := Lib.hid hao
  have HS := Lib.hid h1
  have HL20 := Lib.hid h2
  clear hg h2 h3 hw1 hw2 hw3 hno hao hL hn h1
  go_enter Tryd.func5, Tryd.ntmps5
  go_upto_region 8 with (first
    | (go_at_call 13; refine HA.out.mono ?_; rintro e w1 ⟨rfl, hB1⟩; have hg1 := HG.out.below hB1 (Nat.le_refl _))
    | (go_at_call 18; refine (HN.out _ hg1).mono ?_; rintro e w2 ⟨rfl, hB2⟩; have hg2 := hg1.below hB2 (Nat.le_refl _))
    | (go_at_call 14; first
      | ((with_reducible refine (HF1.out _ hg2).mono ?_); rintro e w3 ⟨rfl, hB3⟩; have hg3 := hg2.below hB3 (Nat.le_refl _))
      | ((with_reducible refine (HF2.out _ hg3).mono ?_); rintro e w4 ⟨rfl, hB4⟩)))
  have hBB : Below w.heap.size w w4 := by
    have h2 := hB1.trans (hB2.mono hB1.size)
    have h3 := h2.trans (hB3.mono h2.size)
    exact h3.trans (hB4.mono h3.size)
  clear hB1 hB2 hB3 hB4 hg1 hg2 hg3 q1 q2 HA HN HF1 HF2
  have HBB := Lib.hid hBB
  clear hBB
  go_loopw [6, 7, 35] (fun _ _ i wr => ∃ (k : Nat), k ≤ L.length ∧ i = n64 k ∧ Below w.heap.size w wr) (fun _ _ i _ => L.length - (intOf i).toNat)
  case atStart => exact ⟨0, by omega, rfl, HBB.out⟩
  case round =>
    clear HBB
    obtain ⟨k, hk, rfl, hB⟩ := hrel
    by_cases hlk : k < L.length
    · obtain ⟨b, off, rfl, hb, hc⟩ := HAO.out (by omega)
      have hx := (hB.cell (p := ⟨b, off + k, none⟩) hb).trans (hc k hlk)
      obtain ⟨p, hp⟩ : ∃ p, p = L.getD k [] := ⟨_, rfl⟩
      have hpl : p.length ≤ 9223372036854775807 := HL.out p (hp ▸ getD_mem L k [] hlk)
      rw [← hp] at hx
      have s3 : (bs p).size = p.length := rfl
      have ck : ((k : Int) + 1) ≤ 4294967290 := by have := HL20.out; omega
      have HC2 := Lib.hid hc
      clear hc hp
      rcases Nat.lt_or_ge 100 p.length with h1 | h1
      · have q : decide (100 < (p.length : Int)) = true := by simp; omega
        clear h1
        go_wp2_with fail
        go_roundw
        case rel => exact ⟨k + 1, by omega, by go_num, hB⟩
        case measure => simp [intOf]; omega
      · have q : decide (100 < (p.length : Int)) = false := by simp; omega
        have c1 : bs p ++ (⟨#[46]⟩ : ByteArray) = bs (p ++ [46]) := bs_cat p [46]
        have c2 : bs (p ++ [46]) ++ bs n = bs (p ++ 46 :: n) := by rw [bs_cat]; simp
        have s4 : (bs (p ++ [46])).size = p.length + 1 := by rw [bs_size]; simp
        have s5 : p.length ≤ 4294967281 := by omega
        have hg1 := HG.out.below hB (Nat.le_refl _)
        have l1 : (p ++ 46 :: n).length < 4294967281 := by have := HS.out; simp; omega
        have l2 : (42 :: 46 :: n).length < 4294967281 := by have := HS.out; simp; omega
        have l3 : n.length < 4294967281 := by have := HS.out; omega
        have HN := Lib.hid (named_any (p ++ 46 :: n) l1 a m wr hg1)
        have HW := Lib.hid (HW3.out p)
        have HP1 := Lib.hid (fun w2 (h : Gl w2 a m) => fits_any (42 :: 46 :: n) (p ++ 46 :: n) l2 l1 a m w2 h)
        have HP2 := Lib.hid (fun w2 (h : Gl w2 a m) => fits_any n (p ++ 46 :: n) l3 l1 a m w2 h)
        have HP3 := Lib.hid (fun w2 (h : Gl w2 a m) => fits_any (p ++ 46 :: n) n l1 l3 a m w2 h)
        have HG1 := Lib.hid hg1
        obtain ⟨lg, hlg⟩ : ∃ lg, lg = p ++ 46 :: n := ⟨_, rfl⟩
        rw [← hlg] at c2 HN HW HP1 HP2 HP3
        clear h1 hlg l1 l2 l3 hg1
        cases hnm : nmOk lg with
        | false =>
          rw [hnm] at HN
          clear hnm
          go_wp2_with (go_at_call 18; refine HN.out.mono ?_; rintro e w2 ⟨rfl, hB2⟩)
          go_roundw
          case rel => exact ⟨k + 1, by omega, by go_num, hB.trans (hB2.mono hB.size)⟩
          case measure => simp [intOf]; omega
        | true =>
          obtain ⟨f1, f2, f3⟩ := HW.out hnm
          rw [hnm] at HN
          rw [f2] at HP2
          rw [f3] at HP3
          cases hpo : patOk (42 :: 46 :: n) with
          | true =>
            have f1' := f1 hpo
            rw [f1'] at HP1
            rw [hpo] at HC
            clear hnm hpo f1 f1' f2 f3
            go_wp2_with (first
              | (go_at_call 18; refine HN.out.mono ?_; rintro e w2 ⟨rfl, hB2⟩; have hg2 := HG1.out.below hB2 (Nat.le_refl _))
              | (go_at_call 19; refine (HC.out _ hg2).mono ?_; rintro e w3 ⟨rfl, hB3⟩; have hg3 := hg2.below hB3 (Nat.le_refl _))
              | (go_at_call 14; first
                | ((with_reducible refine (HP1.out _ hg3).mono ?_); rintro e w4 ⟨rfl, hB4⟩; have hg4 := hg3.below hB4 (Nat.le_refl _))
                | ((with_reducible refine (HP2.out _ hg4).mono ?_); rintro e w5 ⟨rfl, hB5⟩; have hg5 := hg4.below hB5 (Nat.le_refl _))
                | ((with_reducible refine (HP3.out _ hg5).mono ?_); rintro e w6 ⟨rfl, hB6⟩)))
            have hBB : Below w.heap.size w w6 := by
              have h2 := hB.trans (hB2.mono hB.size)
              have h3 := h2.trans (hB3.mono h2.size)
              have h4 := h3.trans (hB4.mono h3.size)
              have h5 := h4.trans (hB5.mono h4.size)
              exact h5.trans (hB6.mono h5.size)
            clear hg2 hg3 hg4 hg5 hB2 hB3 hB4 hB5 hB6
            go_roundw
            case rel => exact ⟨k + 1, by omega, by go_num, hBB⟩
            case measure => simp [intOf]; omega
          | false =>
            rw [hpo] at HC
            clear hnm hpo f1 f2 f3 HP1
            go_wp2_with (first
              | (go_at_call 18; refine HN.out.mono ?_; rintro e w2 ⟨rfl, hB2⟩; have hg2 := HG1.out.below hB2 (Nat.le_refl _))
              | (go_at_call 19; refine (HC.out _ hg2).mono ?_; rintro e w3 ⟨rfl, hB3⟩; have hg3 := hg2.below hB3 (Nat.le_refl _))
              | (go_at_call 14; first
                | ((with_reducible refine (HP2.out _ hg3).mono ?_); rintro e w5 ⟨rfl, hB5⟩; have hg5 := hg3.below hB5 (Nat.le_refl _))
                | ((with_reducible refine (HP3.out _ hg5).mono ?_); rintro e w6 ⟨rfl, hB6⟩)))
            have hBB : Below w.heap.size w w6 := by
              have h2 := hB.trans (hB2.mono hB.size)
              have h3 := h2.trans (hB3.mono h2.size)
              have h5 := h3.trans (hB5.mono h3.size)
              exact h5.trans (hB6.mono h5.size)
            clear hg2 hg3 hg5 hB2 hB3 hB5 hB6
            go_roundw
            case rel => exact ⟨k + 1, by omega, by go_num, hBB⟩
            case measure => simp [intOf]; omega
    · obtain rfl : k = L.length := by omega
      go_wp2
      go_ret
      exact ⟨rfl, hB⟩
end Go.Proofs.YtfphfljndhideaaDoor
