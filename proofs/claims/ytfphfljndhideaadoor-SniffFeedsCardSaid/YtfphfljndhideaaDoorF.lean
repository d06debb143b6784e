/- The best pattern. -/
import Derived.Test.YtfphfljndhideaaDoorE
set_option linter.unusedVariables false
set_option linter.unusedSimpArgs false
namespace Go.Proofs.YtfphfljndhideaaDoor
open Go.RowKit Jw Lab

/-- Is a pattern better than another one? -/
def bet (a b n : List UInt8) : Bool := if n = b then false else if n = a then true else decide (b.length < a.length)
theorem better_any (a b n : List UInt8) (w : World) : Calls Tryd.prog 42 #[.string (bs a), .string (bs b), .string (bs n)] w fun e w' => e = .returned (.bool (bet a b n)) ∧ w = w' := by
  have t1 : (bs a).toList = a := ByteArray.toList_mk a
  have t2 : (bs b).toList = b := ByteArray.toList_mk b
  have t3 : (bs n).toList = n := ByteArray.toList_mk n
  have s1 : (bs a).size = a.length := rfl
  have s2 : (bs b).size = b.length := rfl
  by_cases h1 : n = b
  · have q : (n == b) = true := by simpa using h1
    have hf : bet a b n = false := by rw [bet, if_pos h1]
    have HF := Lib.hid hf
    clear hf h1
    go_enter Tryd.func42, Tryd.ntmps42
    go_wp2
    go_ret
    exact ⟨by rw [HF.out]; rfl, rfl⟩
  have q : (n == b) = false := by simpa using h1
  by_cases h2 : n = a
  · have q2 : (n == a) = true := by simpa using h2
    have hf : bet a b n = true := by rw [bet, if_neg h1, if_pos h2]
    have HF := Lib.hid hf
    clear hf h1 h2
    go_enter Tryd.func42, Tryd.ntmps42
    go_wp2
    go_ret
    exact ⟨by rw [HF.out]; rfl, rfl⟩
  have q2 : (n == a) = false := by simpa using h2
  have hf : bet a b n = decide (b.length < a.length) := by rw [bet, if_neg h1, if_neg h2]
  have HF := Lib.hid hf
  clear hf h1 h2
  go_enter Tryd.func42, Tryd.ntmps42
  go_wp2
  go_ret
  refine ⟨?_, rfl⟩
  rw [HF.out]
  refine congrArg (fun b => Ending.returned (Value.bool b)) (?_ : _ = decide (b.length < a.length))
  rw [Bool.eq_iff_iff]

/-- A list of texts that is read. -/
def Rs (w : World) (v : Value) (L : List (List UInt8)) : Prop :=
  ∃ (ao : Option Addr) (cap : Nat), v = .slice ao L.length cap ∧ (L.length ≠ 0 → ∃ b off, ao = some ⟨b, off, none⟩ ∧ b < w.heap.size ∧ ∀ k, k < L.length → w.cell? ⟨b, off + k, none⟩ = some (.string (bs (L.getD k []))))
theorem Rs.below {w w' : World} {v : Value} {L : List (List UInt8)} {B : Nat} (h : Rs w v L) (hb : Below B w w') (hB : w.heap.size ≤ B) : Rs w' v L := by
  obtain ⟨ao, cap, hv, h1⟩ := h
  refine ⟨ao, cap, hv, fun hn => ?_⟩
  obtain ⟨b, off, e, hlt, hc⟩ := h1 hn
  exact ⟨b, off, e, Nat.lt_of_lt_of_le hlt hb.size, fun k hk => (hb.cell (p := ⟨b, off + k, none⟩) (Nat.lt_of_lt_of_le hlt hB)).trans (hc k hk)⟩
theorem Tx.rs {w : World} {base : Nat} {v : Value} {L : List (List UInt8)} (h : Tx w base v L) : Rs w v L := by
  obtain ⟨g, cap, hv, h1, h2, h3⟩ := h
  exact ⟨_, cap, hv, fun _ => ⟨g, 0, rfl, h2, fun k hk => by rw [Nat.zero_add]; exact h3 k hk⟩⟩

/-- The place of the best of the first k. -/
def bst (L : List (List UInt8)) (n : List UInt8) : Nat → Int
  | 0 => -1
  | k + 1 => if fits (L.getD k []) n && (decide (bst L n k < 0) || bet (L.getD k []) (L.getD (bst L n k).toNat []) n) then (k : Int) else bst L n k
theorem bst_range (L : List (List UInt8)) (n : List UInt8) (k : Nat) : bst L n k = -1 ∨ ∃ j, j < k ∧ bst L n k = (j : Int) := by
  induction k with
  | zero => exact .inl rfl
  | succ k ih =>
    rw [bst]
    split
    · exact .inr ⟨k, by omega, rfl⟩
    · rcases ih with h | ⟨j, hj, h⟩
      · exact .inl h
      · exact .inr ⟨j, by omega, h⟩
theorem getD_mem {α : Type} (L : List α) (k : Nat) (d : α) (h : k < L.length) : L.getD k d ∈ L := by
  rw [List.getD_eq_getElem?_getD, List.getElem?_eq_getElem h]
  exact List.getElem_mem _

set_option maxHeartbeats 1000000 in
theorem best_any (L : List (List UInt8)) (n : List UInt8) (v : Value) (hL : ∀ p ∈ L, p.length < 4294967281) (hlen : L.length ≤ 4294967281) (hn : n.length < 4294967281) (a : Addr) (m : Int) (w : World) (hg : Gl w a m) (hr : Rs w v L) :
    Calls Tryd.prog 16 #[v, .string (bs n)] w fun e w' => e = .returned (n64 (bst L n L.length)) ∧ Below w.heap.size w w' := by
  have HF := Lib.hid (fun p (hp : p.length < 4294967281) w2 (h2 : Gl w2 a m) => fits_any p n hp hn a m w2 h2)
  have HG := Lib.hid hg
  have HR := Lib.hid hr
  have HL := Lib.hid hL
  obtain ⟨ao, cap, rfl, hao⟩ := hr
  have HA := Lib.hid hao
  clear hg hao hL
  go_enter Tryd.func16, Tryd.ntmps16
  go_upto_region 3 with fail
  go_loopw [5, 6, 7, 10] (fun b _ _ i wr => ∃ (k : Nat), k ≤ L.length ∧ i = n64 k ∧ b = n64 (bst L n k) ∧ Below w.heap.size w wr) (fun _ _ _ i _ => L.length - (intOf i).toNat)
  case atStart => exact ⟨0, by omega, rfl, rfl, Below.refl _ _⟩
  case round =>
    obtain ⟨k, hk, rfl, rfl, hB⟩ := hrel
    by_cases hlk : k < L.length
    · obtain ⟨b, off, rfl, hb, hc⟩ := HA.out (by omega)
      have hx := (hB.cell (p := ⟨b, off + k, none⟩) hb).trans (hc k hlk)
      obtain ⟨p, hp⟩ : ∃ p, p = L.getD k [] := ⟨_, rfl⟩
      rw [← hp] at hx
      have hpl : p.length < 4294967281 := HL.out p (hp ▸ getD_mem L k [] hlk)
      have hgr := HG.out.below hB (Nat.le_refl _)
      have H1 := Lib.hid (HF.out p hpl wr hgr)
      have hs : bst L n (k + 1) = if fits p n && (decide (bst L n k < 0) || bet p (L.getD (bst L n k).toNat []) n) then (k : Int) else bst L n k := by rw [bst, ← hp]
      have ck : ((k : Int) + 1) ≤ 4294967290 := by omega
      have HC := Lib.hid hc
      have HS := Lib.hid hs
      clear hc hgr hp hs
      cases hf : fits p n with
      | false =>
        rw [hf] at H1 HS
        clear hf
        have hz : bst L n (k + 1) = bst L n k := by rw [HS.out]; simp
        have HZ := Lib.hid hz
        generalize bst L n k = z at *
        clear hz
        go_wp2_with (go_at_call 14; refine H1.out.mono ?_; rintro e w2 ⟨rfl, hB2⟩)
        go_roundw
        case rel => exact ⟨k + 1, by omega, by go_num, by rw [HZ.out], hB.trans (hB2.mono hB.size)⟩
        case measure => simp [intOf]; omega
      | true =>
        rw [hf] at H1 HS
        clear hf
        rcases bst_range L n k with hneg | ⟨j, hj, hpos⟩
        · have hz : bst L n (k + 1) = k := by rw [HS.out, hneg]; rfl
          have HZ := Lib.hid hz
          rw [hneg]
          clear hz hneg
          go_wp2_with (go_at_call 14; refine H1.out.mono ?_; rintro e w2 ⟨rfl, hB2⟩)
          go_roundw
          case rel => exact ⟨k + 1, by omega, by go_num, by rw [HZ.out], hB.trans (hB2.mono hB.size)⟩
          case measure => simp [intOf]; omega
        · have hz : bst L n (k + 1) = if bet p (L.getD j []) n then (k : Int) else (j : Int) := by
            rw [HS.out, hpos]
            have : decide ((j : Int) < 0) = false := by simp
            rw [this]
            rfl
          obtain ⟨q, hq⟩ : ∃ q, q = L.getD j [] := ⟨_, rfl⟩
          rw [← hq] at hz
          have hjl : j < L.length := by omega
          have HY := Lib.hid (fun wx (hBx : Below w.heap.size w wx) => ((hBx.cell (p := ⟨b, off + j, none⟩) hb).trans (HC.out j hjl)))
          rw [← hq] at HY
          have HZ := Lib.hid hz
          rw [hpos]
          have dn : decide ((j : Int) < 0) = false := by simp
          have H2 := Lib.hid (fun wx => better_any p q n wx)
          clear hz hpos hq
          cases hbt : bet p q n with
          | false =>
            rw [hbt] at H2 HZ
            clear hbt
            go_wp2_with (first
              | (go_at_call 14; refine H1.out.mono ?_; rintro e w2 ⟨rfl, hB2⟩; have hB3 := hB.trans (hB2.mono hB.size); have hy := HY.out _ hB3)
              | (go_at_call 42; refine (H2.out _).mono ?_; rintro e w4 ⟨rfl, rfl⟩))
            go_roundw
            case rel => exact ⟨k + 1, by omega, by go_num, by rw [HZ.out]; rfl, hB3⟩
            case measure => simp [intOf]; omega
          | true =>
            rw [hbt] at H2 HZ
            clear hbt
            go_wp2_with (first
              | (go_at_call 14; refine H1.out.mono ?_; rintro e w2 ⟨rfl, hB2⟩; have hB3 := hB.trans (hB2.mono hB.size); have hy := HY.out _ hB3)
              | (go_at_call 42; refine (H2.out _).mono ?_; rintro e w4 ⟨rfl, rfl⟩))
            go_roundw
            case rel => exact ⟨k + 1, by omega, by go_num, by rw [HZ.out]; rfl, hB3⟩
            case measure => simp [intOf]; omega
    · obtain rfl : k = L.length := by omega
      go_wp2
      go_ret
      exact ⟨rfl, hB⟩
end Go.Proofs.YtfphfljndhideaaDoor
