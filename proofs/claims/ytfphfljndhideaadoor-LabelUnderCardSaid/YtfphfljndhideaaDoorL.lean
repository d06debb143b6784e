/- The best pattern by the document; LabelBest. -/
import Derived.Test.YtfphfljndhideaaDoorK
set_option linter.unusedVariables false
set_option linter.unusedSimpArgs false
namespace Go.Proofs.YtfphfljndhideaaDoor
open Go.RowKit Jw Lab

set_option maxRecDepth 8000 in
set_option maxHeartbeats 1000000 in
theorem rbest_any (L : List (List UInt8)) (n : List UInt8) (v : Value) (hL : ∀ p ∈ L, p.length < 4294967281) (hlen : L.length ≤ 4294967281) (hn : n.length < 4294967281) (w : World) (hr : Rs w v L) :
    Calls Tryd.prog 17 #[v, .string (bs n)] w fun e w' => e = .returned (n64 (bst L n L.length)) ∧ Below w.heap.size w w' := by
  have HF := Lib.hid (fun p (hp : p.length < 4294967281) w2 => rfits_any p n hp hn w2)
  have HL := Lib.hid hL
  have HNN := Lib.hid hn
  obtain ⟨ao, cap, rfl, hao⟩ := hr
  have HA := Lib.hid hao
  have t2 : (bs n).toList = n := ByteArray.toList_mk n
  clear hao hL
  go_enter Tryd.func17, Tryd.ntmps17
  go_upto_region 2 with fail
  go_loopw [5, 6, 12] (fun _ _ i wr => ∃ (k : Nat), k ≤ L.length ∧ i = n64 k ∧ (∀ j, j < k → L.getD j [] = n → fits n n = false) ∧ Below w.heap.size w wr) (fun _ _ i _ => L.length - (intOf i).toNat)
  case atStart => exact ⟨0, by omega, rfl, fun j h => by omega, Below.refl _ _⟩
  case round =>
    obtain ⟨k, hk, rfl, hall, hB⟩ := hrel
    have HJ := Lib.hid hall
    clear hall
    by_cases hlk : k < L.length
    · obtain ⟨b, off, rfl, hb, hc⟩ := HA.out (by omega)
      have hx := (hB.cell (p := ⟨b, off + k, none⟩) hb).trans (hc k hlk)
      obtain ⟨p, hp⟩ : ∃ p, p = L.getD k [] := ⟨_, rfl⟩
      rw [← hp] at hx
      have t1 : (bs p).toList = p := ByteArray.toList_mk p
      have ck : ((k : Int) + 1) ≤ 4294967290 := by omega
      have HP := Lib.hid hp
      have HC := Lib.hid hc
      clear hc hp
      by_cases hpn : p = n
      · subst hpn
        have H1 := Lib.hid (fun wx => HF.out p HNN.out wx)
        have hbe : (p == p) = true := by simp
        cases hf : fits p p with
        | false =>
          rw [hf] at H1
          have HZ := Lib.hid hf
          clear hf
          go_wp2_with (go_at_call 15; refine (H1.out _).mono ?_; rintro e w2 ⟨rfl, hB2⟩)
          go_roundw
          case rel => exact ⟨k + 1, by omega, by go_num, fun j hj e => by first | exact HZ.out | trivial, hB.trans (hB2.mono hB.size)⟩
          case measure => simp [intOf]; omega
        | true =>
          rw [hf] at H1
          have hz : bst L p L.length = (k : Int) := bst_exact L p k HP.out.symm hf (fun j hj e => by
            have := HJ.out j hj e
            rw [hf] at this
            exact absurd this (by simp)) L.length hlk
          have HZ := Lib.hid hz
          clear hf hz
          go_wp2_with (go_at_call 15; refine (H1.out _).mono ?_; rintro e w2 ⟨rfl, hB2⟩)
          go_ret
          exact ⟨by rw [HZ.out]; rfl, hB.trans (hB2.mono hB.size)⟩
      · have hbe : (p == n) = false := by simpa using hpn
        have HQ := Lib.hid hpn
        clear hpn
        go_wp2_with fail
        go_roundw
        case rel =>
          refine ⟨k + 1, by omega, by go_num, fun j hj e => ?_, hB⟩
          rcases Nat.lt_or_ge j k with h | h
          · exact HJ.out j h e
          · obtain rfl : j = k := by omega
            exact absurd (HP.out.trans e) HQ.out
        case measure => simp [intOf]; omega
    · obtain rfl : k = L.length := by omega
      have hz := bst_lb L n L.length HJ.out
      have HZ := Lib.hid hz
      obtain ⟨wr0, hwr0⟩ : ∃ x, x = wr := ⟨_, rfl⟩
      clear hz HJ
      go_upto_region 9 with fail
      go_loopw [7, 8, 9, 29] (fun b _ _ i wr => ∃ (k : Nat), k ≤ L.length ∧ i = n64 k ∧ b = n64 (lb L n k) ∧ Below w.heap.size w wr) (fun _ _ _ i _ => L.length - (intOf i).toNat)
      case atStart => exact ⟨0, by omega, rfl, rfl, by exact hB⟩
      case round =>
        clear hB
        obtain ⟨k, hk, rfl, rfl, hB⟩ := hrel
        by_cases hlk : k < L.length
        · obtain ⟨b, off, rfl, hb, hc⟩ := HA.out (by omega)
          have hx := (hB.cell (p := ⟨b, off + k, none⟩) hb).trans (hc k hlk)
          obtain ⟨p, hp⟩ : ∃ p, p = L.getD k [] := ⟨_, rfl⟩
          rw [← hp] at hx
          have hpl : p.length < 4294967281 := HL.out p (hp ▸ getD_mem L k [] hlk)
          have H1 := Lib.hid (fun wx => HF.out p hpl wx)
          have hs : lb L n (k + 1) = if fits p n && (decide (lb L n k < 0) || decide ((L.getD (lb L n k).toNat []).length < p.length)) then (k : Int) else lb L n k := by rw [lb, ← hp]
          have ck : ((k : Int) + 1) ≤ 4294967290 := by omega
          have HC := Lib.hid hc
          have HS := Lib.hid hs
          clear hc hp hs
          cases hf : fits p n with
          | false =>
            rw [hf] at H1 HS
            clear hf
            have hz : lb L n (k + 1) = lb L n k := by rw [HS.out]; simp
            have HY := Lib.hid hz
            generalize lb L n k = z at *
            clear hz
            go_wp2_with (go_at_call 15; refine (H1.out _).mono ?_; rintro e w2 ⟨rfl, hB2⟩)
            go_roundw
            case rel => exact ⟨k + 1, by omega, by go_num, by rw [HY.out], hB.trans (hB2.mono hB.size)⟩
            case measure => simp [intOf]; omega
          | true =>
            rw [hf] at H1 HS
            clear hf
            rcases lb_range L n k with hneg | ⟨j, hj, hpos⟩
            · have hz : lb L n (k + 1) = k := by rw [HS.out, hneg]; rfl
              have HY := Lib.hid hz
              rw [hneg]
              clear hz hneg
              go_wp2_with (go_at_call 15; refine (H1.out _).mono ?_; rintro e w2 ⟨rfl, hB2⟩)
              go_roundw
              case rel => exact ⟨k + 1, by omega, by go_num, by rw [HY.out], hB.trans (hB2.mono hB.size)⟩
              case measure => simp [intOf]; omega
            · obtain ⟨q, hq⟩ : ∃ q, q = L.getD j [] := ⟨_, rfl⟩
              have hz : lb L n (k + 1) = if q.length < p.length then (k : Int) else (j : Int) := by
                rw [HS.out, hpos, Int.toNat_natCast, ← hq]
                have : decide ((j : Int) < 0) = false := by simp
                rw [this]
                simp
              have hjl : j < L.length := by omega
              have HX := Lib.hid (fun wx (hBx : Below w.heap.size w wx) => ((hBx.cell (p := ⟨b, off + j, none⟩) hb).trans (HC.out j hjl)))
              rw [← hq] at HX
              have HY := Lib.hid hz
              rw [hpos]
              have dn : decide ((j : Int) < 0) = false := by simp
              have s1 : (bs p).size = p.length := rfl
              have s2 : (bs q).size = q.length := rfl
              clear hz hpos hq
              by_cases hlt : q.length < p.length
              · rw [if_pos hlt] at HY
                have hd : decide (q.length < p.length) = true := by simp; omega
                clear hlt
                go_wp2_with (go_at_call 15; refine (H1.out _).mono ?_; rintro e w2 ⟨rfl, hB2⟩; have hB3 := hB.trans (hB2.mono hB.size); have hy := HX.out _ hB3)
                go_roundw
                case rel => exact ⟨k + 1, by omega, by go_num, by rw [HY.out], hB3⟩
                case measure => simp [intOf]; omega
              · rw [if_neg hlt] at HY
                have hd : decide (q.length < p.length) = false := by simp; omega
                clear hlt
                go_wp2_with (go_at_call 15; refine (H1.out _).mono ?_; rintro e w2 ⟨rfl, hB2⟩; have hB3 := hB.trans (hB2.mono hB.size); have hy := HX.out _ hB3)
                go_roundw
                case rel => exact ⟨k + 1, by omega, by go_num, by rw [HY.out], hB3⟩
                case measure => simp [intOf]; omega
        · obtain rfl : k = L.length := by omega
          go_wp2
          go_ret
          exact ⟨by rw [HZ.out]; rfl, hB⟩

theorem own_base {w : World} {base n : Nat} {e : TypeId} {v : Value} {xs : List Value} (h : w.ownsRow base e 1 v n xs) : ∀ g, v.ownBlock = some g → base ≤ g := by
  obtain ⟨h1, ⟨rfl, _⟩ | ⟨g', cap', cur, rfl, hb, hh, hcp, hm, hs, ht⟩⟩ := h
  · intro g hg; simp [Value.ownBlock] at hg
  · intro g hg; simp [Value.ownBlock] at hg; omega
theorem Rs.own {w : World} {base : Nat} {v : Value} {L : List (List UInt8)} (h : w.ownsRow base 9 1 v L.length (sv L)) : Rs w v L := by
  rcases Nat.eq_zero_or_pos L.length with h0 | h0
  · rw [h0] at h
    obtain ⟨h1, ⟨rfl, _⟩ | ⟨g', cap', cur, rfl, _⟩⟩ := h
    · exact ⟨_, _, by rw [h0], fun h => absurd h0 h⟩
    · exact ⟨_, _, by rw [h0], fun h => absurd h0 h⟩
  · exact (Tx.own h h0).rs
theorem turn_take (L : List (List UInt8)) (k j : Nat) (h : j + k + 1 = L.length) : L.reverse.take (k + 1) = L.reverse.take k ++ [L.getD j []] := by
  rw [List.take_add_one]
  congr 1
  rw [List.getElem?_reverse (by omega), show L.length - 1 - k = j by omega, List.getD_eq_getElem?_getD, List.getElem?_eq_getElem (by omega)]
  rfl

set_option maxHeartbeats 1000000 in
theorem bestLaw_walk (L : List (List UInt8)) (n : List UInt8) (v : Value) (hL : ∀ p ∈ L, p.length < 4294967281) (hlen : L.length ≤ 4294967281) (hn : n.length < 4294967281) (a : Addr) (m : Int) (w : World) (hg : Gl w a m) (hr : Rs w v L) :
    Calls Tryd.prog 4 #[v, .string (bs n)] w fun e w' => e = .returned (.bool true) ∧ Below w.heap.size w w' := by
  have HG := Lib.hid hg
  have HR := Lib.hid hr
  have HAl := Lib.hid (alive_any w a m hg)
  have HL := Lib.hid hL
  obtain ⟨ao, cap, rfl, hao⟩ := hr
  have HA := Lib.hid hao
  have HNN := Lib.hid hn
  have HLL := Lib.hid hlen
  clear hao hg hL hn
  by_cases h60 : 60 < L.length
  · have q : decide (60 < (L.length : Int)) = true := by simp; omega
    clear h60
    go_enter Tryd.func4, Tryd.ntmps4
    go_wp2_with (go_at_call 13; refine HAl.out.mono ?_; rintro e w1 ⟨rfl, hB1⟩)
    go_ret
    exact ⟨rfl, hB1⟩
  have q : decide (60 < (L.length : Int)) = false := by simp; omega
  go_enter Tryd.func4, Tryd.ntmps4
  go_upto_region 6 with (go_at_call 13; refine HAl.out.mono ?_; rintro e w1 ⟨rfl, hB1⟩)
  clear q HAl
  go_loopw [6, 18] (fun _ i wr => ∃ (k : Nat), k ≤ L.length ∧ i = n64 k ∧ Below w.heap.size w wr) (fun _ i _ => L.length - (intOf i).toNat)
  case atStart => exact ⟨0, by omega, rfl, hB1⟩
  case round =>
    clear hB1
    obtain ⟨k, hk, rfl, hB⟩ := hrel
    by_cases hlk : k < L.length
    · obtain ⟨b, off, rfl, hb, hc⟩ := HA.out (by omega)
      have hx := (hB.cell (p := ⟨b, off + k, none⟩) hb).trans (hc k hlk)
      generalize L.getD k [] = p at *
      have s1 : (bs p).size = p.length := rfl
      have ck : ((k : Int) + 1) ≤ 4294967290 := by omega
      have HC := Lib.hid hc
      clear hc
      by_cases h200 : 200 < p.length
      · have q : decide (200 < (p.length : Int)) = true := by simp; omega
        clear h200
        go_wp2_with fail
        go_ret
        exact ⟨rfl, hB⟩
      · have q : decide (200 < (p.length : Int)) = false := by simp; omega
        clear h200
        go_wp2_with fail
        go_roundw
        case rel => exact ⟨k + 1, by omega, by go_num, hB⟩
        case measure => simp [intOf]; omega
    · obtain rfl : k = L.length := by omega
      have HB0 := Lib.hid hB
      have H1 := Lib.hid (fun wx (hBx : Below w.heap.size w wx) => best_any L n _ HL.out HLL.out HNN.out a m wx (HG.out.below hBx (Nat.le_refl _)) (HR.out.below hBx (Nat.le_refl _)))
      have H2 := Lib.hid (fun wx (hBx : Below w.heap.size w wx) => rbest_any L n _ HL.out HLL.out HNN.out wx (HR.out.below hBx (Nat.le_refl _)))
      obtain ⟨got, hgot⟩ : ∃ g, g = bst L n L.length := ⟨_, rfl⟩
      rw [← hgot] at H1 H2
      have hne : (got == got) = true := by simp
      have HGot := Lib.hid hgot
      obtain ⟨i0, hi, hz0, hz1, hz2⟩ := info_parts' info9
      clear hgot
      go_upto_region 14 with (first
        | (go_at_call 16; refine (H1.out _ hB).mono ?_; rintro e w2 ⟨rfl, hB2⟩; have hB3 := hB.trans (hB2.mono hB.size))
        | (go_at_call 17; refine (H2.out _ hB3).mono ?_; rintro e w3 ⟨rfl, hB4⟩; have hB5 := hB3.trans (hB4.mono hB3.size)))
      clear hB hB2 hB3 hB4 H2 hne HB0
      have hO1 : (w3.alloc (.cells (strs []) 9)).ownsRow w.heap.size 9 1 (.slice (some ⟨w3.heap.size, 0, none⟩) 0 0) 0 (sv []) :=
        ⟨rfl, .inr ⟨w3.heap.size, 0, strs [], rfl, hB5.size, blk_new _ _ _, Nat.le_refl _, by decide, rfl, rfl⟩⟩
      have hB6 := hB5.alloc hB5.size (.cells (strs []) 9)
      clear hB5
      go_upto_region 16 with fail
      go_loopw [8, 9] (fun v i wr => ∃ (k : Nat), k ≤ L.length ∧ i = .int .i64 ((L.length : Int) - 1 - k) ∧ wr.ownsRow w.heap.size 9 1 v k (sv (L.reverse.take k)) ∧ Below w.heap.size w wr) (fun _ i _ => (intOf i + 1).toNat)
      case atStart => exact ⟨0, by omega, by simp, by exact hO1, by exact hB6⟩
      case round =>
        clear hO1 hB6
        obtain ⟨k, hk, rfl, hown, hB⟩ := hrel
        by_cases hlk : k < L.length
        · obtain ⟨j, hj⟩ : ∃ j, j + k + 1 = L.length := ⟨L.length - 1 - k, by omega⟩
          have ht := turn_take L k j hj
          have e1 : (L.length : Int) - 1 - (k : Int) = (j : Int) := by omega
          rw [e1]
          obtain ⟨b, off, rfl, hb, hc⟩ := HA.out (by omega)
          have hx := (hB.cell (p := ⟨b, off + j, none⟩) hb).trans (hc j (by omega))
          generalize L.getD j [] = p at *
          have e2 : j < L.length := by omega
          have e3 : (0 : Int) ≤ (j : Int) := by omega
          have HO := Lib.hid hown
          have HT := Lib.hid ht
          have HJ := Lib.hid hj
          have HC := Lib.hid hc
          clear hown ht hc
          go_wp2_with (at_builtin; refine wpList_append_own _ rfl (.tmp 42) (.tmp 47) 24 rfl w.heap.size 9 i0 _ 1 16 Tryd.underlying24 hi hz0 hz1 hz2 rfl (by decide) _ k _ rfl (HO.out.alloc _) ⟨wr.heap.size, 0, none⟩ 1 1 (sv [p]) rfl rfl ?c1 ?c2 ?c3 ?c4 ?c5 ?_)
          case c1 => intro j u hj; rw [addr_add, Nat.zero_add]; exact (blk_new wr (strs [p]) 9).cell j u (by simpa [strs, sv] using hj)
          case c2 => intro u hu; simp [sv] at hu; rw [hu]; rfl
          case c3 => unfold maxLen; omega
          case c4 => omega
          case c5 => have := hB.size; simp; omega
          · intro v' w4 hown' hgrow _
            have hB4 := (hB.alloc hB.size (.cells (strs [p]) 9)).grown hgrow (by have := hB.size; simp; omega) (fun g hg => own_base HO.out g hg)
            have HW := Lib.hid hown'
            clear hown' hgrow
            go_wp2_with fail
            go_roundw
            case rel =>
              refine ⟨k + 1, by omega, by go_num, ?_, hB4⟩
              rw [HT.out]
              have := HW.out
              simpa [sv] using this
            case measure => simp [intOf] <;> omega
        · obtain rfl : k = L.length := by omega
          rw [show (L.length : Int) - 1 - (L.length : Int) = -1 by omega]
          rw [List.take_of_length_le (by simp)] at hown
          obtain ⟨T, hT⟩ : ∃ T, T = L.reverse := ⟨_, rfl⟩
          have hTl : L.length = T.length := by rw [hT]; simp
          rw [← hT, hTl] at hown
          have hR := Rs.own hown
          clear hown
          have HRT := Lib.hid hR
          obtain ⟨ao', cap', rfl, hao'⟩ := hR
          have HA' := Lib.hid hao'
          have hturn := bst_turn L n
          rw [← hT, ← HGot.out] at hturn
          have hoth : bst T n L.length = bst T n T.length := by rw [hTl]
          rw [hoth] at hturn
          have H3 := Lib.hid (best_any T n _ (fun p hp => HL.out p (by rw [hT] at hp; exact List.mem_reverse.1 hp)) (by omega) HNN.out a m wr (HG.out.below hB (Nat.le_refl _)) HRT.out)
          generalize bst T n T.length = oth at *
          have HTl := Lib.hid hTl
          clear hT hoth hTl hao'
          rcases hturn with ⟨h1, h2⟩ | ⟨i, j, hi', hj', h1, h2, h3⟩
          · subst h1 h2
            go_upto_region 20 with (go_at_call 16; refine H3.out.mono ?_; rintro e w5 ⟨rfl, hB5⟩)
            have hB6 := hB.trans (hB5.mono hB.size)
            go_quiet (fail)
            go_wp2
            go_ret
            exact ⟨rfl, by exact ⟨hB6.os, hB6.tape, hB6.output, hB6.size, hB6.block⟩⟩
          · subst h1 h2
            obtain ⟨b, off, rfl, hb, hc⟩ := HA.out (by omega)
            obtain ⟨b', off', rfl, hb', hc'⟩ := HA'.out (by have := HTl.out; omega)
            have hx := hc i hi'
            have hy := hc' j (by have := HTl.out; omega)
            rw [h3] at hy
            generalize L.getD i [] = x at *
            have dn1 : decide ((i : Int) < 0) = false := by simp
            have dn2 : decide ((j : Int) < 0) = false := by simp
            have t1 : (bs x).toList = x := ByteArray.toList_mk x
            have hbe : (x == x) = true := by simp
            have hi2 : i < L.length := hi'
            have hj2 : j < T.length := by have := HTl.out; omega
            have HC := Lib.hid hc
            have HC' := Lib.hid hc'
            have HX := Lib.hid hx
            have HY := Lib.hid hy
            clear h3 hc hc' hx hy
            go_upto_region 20 with (go_at_call 16; refine H3.out.mono ?_; rintro e w5 ⟨rfl, hB5⟩)
            have hB6 := hB.trans (hB5.mono hB.size)
            have hx := (hB6.cell (p := ⟨b, off + i, none⟩) hb).trans HX.out
            have hy := (hB5.cell (p := ⟨b', off' + j, none⟩) hb').trans HY.out
            go_quiet (fail)
            go_wp2
            go_ret
            exact ⟨rfl, by exact ⟨hB6.os, hB6.tape, hB6.output, hB6.size, hB6.block⟩⟩
end Go.Proofs.YtfphfljndhideaaDoor
