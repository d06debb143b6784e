/- ShareRows: the walk. -/
import Derived.Test.YtpnobanhffjmaaaW
set_option linter.unusedVariables false
set_option linter.unusedSimpArgs false
namespace Go.Proofs.Ytpnobanhffjmaaa
open Go.RowKit Jw Go.Deep
attribute [local go_sem] run_store_float max2_mx min2_mn max_mx min_mn

theorem own_setOther {w : World} {base : Nat} {e : TypeId} {s n : Nat} {v : Value} {xs : List Value} (h : w.ownsRow base e s v n xs) {a : Addr} (hne : ∀ g, v.ownBlock = some g → g ≠ a.block) (u : Value) : (w.setCell a u).ownsRow base e s v n xs := by
  obtain ⟨h1, h2 | ⟨g, cap, cur, rfl, hg, hh, r⟩⟩ := h
  · exact ⟨h1, .inl h2⟩
  · exact ⟨h1, .inr ⟨g, cap, cur, rfl, hg, by rw [Below.heap_setCell _ _ _ _ (hne g rfl)]; exact hh, r⟩⟩
theorem OwnS.setOther {w : World} {base : Nat} {v : Value} {l : List (Nat × Nat)} (h : OwnS w base v l) {c : Nat} {cs : Array Value} (hc : Blk w c cs 3) (i : Nat) (u : Value) : OwnS (w.setCell ⟨c, i, none⟩ u) base v l := by
  rcases h with h | ⟨g, cap, rest, hv, hg, h⟩
  · exact .inl h
  · refine .inr ⟨g, cap, rest, hv, hg, h.set_other _ _ (fun e => ?_)⟩
    subst e
    unfold Blk at h hc
    rw [h] at hc
    simp at hc
theorem own_empty3 (w : World) (base : Nat) (h : base ≤ w.heap.size) : (w.alloc (.cells #[] 3)).ownsRow base 3 1 (.slice (some ⟨w.heap.size, 0, none⟩) 0 0) 0 [] :=
  ⟨rfl, .inr ⟨w.heap.size, 0, #[], rfl, h, blk_new w #[] 3, Nat.le_refl _, Nat.zero_le _, rfl, rfl⟩⟩

set_option maxRecDepth 100000 in
set_option maxHeartbeats 2000000 in
theorem rows_walk (w : World) (ao : Option Addr) (l : List (Nat × Nat)) (cap : Nat) (hp : RdS w (.slice ao l.length cap) l) (hlen : l.length ≤ 9223372036854775807) (n : Int) :
    Calls Try.prog 8 #[.slice ao l.length cap, n64 n] w fun e w' => e = .returned (.bool true) ∧ Below w.heap.size w w' := by
  have HR := Lib.hid hp
  clear hp
  obtain ⟨i0, hi, hz0, hz1, hz2⟩ := info_parts info3
  go_enter Try.func8, Try.ntmps8
  go_wp2_with fail
  refine (alive_yes w).mono ?_
  rintro e w1 ⟨rfl, hB⟩
  by_cases hlong : 40 < l.length
  · go_wp2
    go_ret
    exact ⟨rfl, hB⟩
  by_cases hnn : 200 < n
  · have hlb : decide ((40 : Int) < (l.length : Int)) = false := by simp; omega
    go_wp2
    go_ret
    exact ⟨rfl, hB⟩
  have hlb : decide ((40 : Int) < (l.length : Int)) = false := by simp; omega
  have hnb : decide ((200 : Int) < n) = false := by simp; omega
  have hl40 : l.length ≤ 40 := by omega
  have hn200 : n ≤ 200 := by omega
  clear hlong hnn
  go_wp2_with fail
  refine (picks_all _ l n _ (HR.out.below hB (Nat.le_refl _)) (by omega) (by omega)).mono ?_
  rintro e w2 ⟨v1, v2, rfl, hP, hO, hB2⟩
  have hB3 := hB.trans (hB2.mono hB.size)
  have hP1 : Rd w2 v1 (picksW l (PW l n)).1 := Rd.of_row (base := w1.heap.size) (by rw [picksW_count]; exact hP)
  have HP1 := Lib.hid hP1
  have HO1 := Lib.hid hO.read
  clear hP hO hB2 hB hP1
  go_wp2_with fail
  refine (whole_any _ l n _ (HR.out.below hB3 (Nat.le_refl _)) (by omega) (by omega)).mono ?_
  rintro e w3 ⟨b, rfl, hbl, hC, hB4⟩
  have hB5 := hB3.trans (hB4.mono hB3.size)
  have HP2 := Lib.hid (HP1.out.below hB4 (Nat.le_refl _))
  have HO2 := Lib.hid (HO1.out.below hB4 (Nat.le_refl _))
  have hblt := hC.lt
  have HC := Lib.hid hC
  have hmk := run_make_row' (P := Try.prog) 33 3 (.int .i64 0) 8 Try.underlying33 info3 rfl .i64 .i64 l.length (by omega) (by omega)
  have hPn : PW l n ≤ 200 := by unfold PW; split <;> omega
  have hWl : PW l n = 0 ∨ l ≠ [] := by unfold PW; split; exact .inl rfl; rename_i h; exact .inr h
  have hPl : l ≠ [] → PW l n = n.toNat := fun h => by unfold PW; rw [if_neg h]
  have hrg := picksW_range l n
  obtain ⟨m, em⟩ : ∃ m, m = PW l n := ⟨_, rfl⟩
  rw [← em] at HP2 HO2 HC hPn hWl hPl hrg
  clear HP1 HO1 hC hB4 hB3
  have HWL := Lib.hid hWl
  have HPL := Lib.hid hPl
  have HRG := Lib.hid hrg
  have HB5 := Lib.hid hB5
  have hsz5 := hB5.size
  clear hWl hPl hrg em hB5
  have hE := own_empty3 w3 w3.heap.size (Nat.le_refl _)
  have hE2 := owns_below hE (show Below (w3.alloc (.cells #[] 3)).heap.size (w3.alloc (.cells #[] 3)) ((w3.alloc (.cells #[] 3)).alloc (.cells (ints (List.replicate l.length 0)) 3)) from (Below.refl _ _).alloc (Nat.le_refl _) _) (Nat.le_refl _)
  have hCt := blk_new (w3.alloc (.cells #[] 3)) (ints (List.replicate l.length 0)) 3
  have hBE : Below w3.heap.size w3 ((w3.alloc (.cells #[] 3)).alloc (.cells (ints (List.replicate l.length 0)) 3)) := ((Below.refl _ _).alloc (Nat.le_refl _) _).alloc (by simp) _
  rw [show (w3.alloc (.cells #[] 3)).heap.size = w3.heap.size + 1 from by simp] at hCt
  have HE := Lib.hid hE2
  have HCT := Lib.hid hCt
  have HBE := Lib.hid hBE
  clear hE hE2 hCt hBE
  go_wp2_with fail
  rw [ints_made]
  go_loopw [8, 9, 11] (fun wt ws i wr => ∃ (k : Nat), k ≤ m ∧ i = n64 k ∧ wr.ownsRow w3.heap.size 3 1 wt k ((picksW l k).1.map n64) ∧ (∀ g, wt.ownBlock = some g → g ≠ w3.heap.size + 1) ∧
    ((ws = .slice ao l.length cap ∧ k = 0) ∨ OwnS wr w3.heap.size ws (picksW l k).2) ∧ Blk wr (w3.heap.size + 1) (ints (cts l.length (picksW l k).1)) 3 ∧ Below w3.heap.size w3 wr) (fun _ _ i _ => m - (intOf i).toNat)
  case atStart => exact ⟨0, Nat.zero_le _, rfl, HE.out, fun g hg => (by simp [Value.ownBlock] at hg; omega), .inl ⟨rfl, rfl⟩, by rw [show (picksW l 0).1 = [] from rfl, cts_nil]; exact HCT.out, HBE.out⟩
  case round =>
    clear HE HCT HBE
    obtain ⟨k, hk, rfl, hW, hne, hS, hCt, hB⟩ := hrel
    have hRS : RdS wr u9 (picksW l k).2 := by
      rcases hS with ⟨rfl, rfl⟩ | hS
      · exact HR.out.below (HB5.out.trans (hB.mono hsz5)) (Nat.le_refl _)
      · exact hS.read
    have hctl := hCt.lt
    by_cases hlt : k < m
    · have hne0 : l ≠ [] := by rcases HWL.out with h | h; omega; exact h
      have hmn := HPL.out hne0
      have hkn : decide ((k : Int) < n) = true := by simp; omega
      have hl0 : decide ((0 : Int) < (l.length : Int)) = true := by
        have : l.length ≠ 0 := fun h => hne0 (List.eq_nil_of_length_eq_zero h)
        simp; omega
      have hpr := HRG.out (k + 1) (by omega) k (by omega)
      have hps : (picksW l (k + 1)).1 = (picksW l k).1 ++ [(pickW (picksW l k).2).1] := rfl
      have hlast : (picksW l (k + 1)).1.getD k 0 = (pickW (picksW l k).2).1 := by
        rw [hps, List.getD_eq_getElem?_getD, List.getElem?_append_right (by rw [picksW_count]; exact Nat.le_refl _), picksW_count, Nat.sub_self]; rfl
      rw [hlast] at hpr
      have hcs : (picksW l k).1.count ((pickW (picksW l k).2).1) ≤ k := by
        have := List.count_le_length (l := (picksW l k).1) (a := (pickW (picksW l k).2).1)
        rw [picksW_count] at this
        exact this
      have HRS := Lib.hid hRS
      have HW := Lib.hid hW
      have HNE := Lib.hid hne
      have HCT := Lib.hid hCt
      have hlk : (picksW l k).2.length ≤ 800 := by rw [picksW_length]; omega
      clear hRS hW hne hS hCt hlast hne0 hmn
      go_wp2_with fail
      refine (refpick_any _ (picksW l k).2 _ HRS.out hlk).mono ?_
      rintro e w4 ⟨v4, rfl, hO4, hB4⟩
      have hP4 := owns_below HW.out hB4 (Nat.le_refl _)
      have hC4 := HCT.out.below hB4 hctl
      have hO4b := hO4.base hB.size
      have hB4b := hB.trans (hB4.mono hB.size)
      have hc4 := hC4.lt
      have hs2 : (picksW l (k + 1)).2 = (pickW (picksW l k).2).2 := rfl
      obtain ⟨B, eB⟩ : ∃ B, B = (pickW (picksW l k).2).1 := ⟨_, rfl⟩
      rw [← eB] at hpr hps hcs ⊢
      obtain ⟨bn, rfl⟩ := Int.eq_ofNat_of_zero_le hpr.1
      have hbn : bn < l.length := by omega
      have hsn := cts_snoc l.length (picksW l k).1 bn hbn
      have hat := cts_at l.length (picksW l k).1 bn hbn
      have hcl := cts_length l.length (picksW l k).1
      obtain ⟨z, ez⟩ : ∃ z, z = (picksW l k).1.count (bn : Int) := ⟨_, rfl⟩
      rw [← ez] at hcs hsn hat
      rw [← hps] at hsn
      have HP4 := Lib.hid hP4
      have HC4 := Lib.hid hC4
      have HO4 := Lib.hid hO4b
      have HS2 := Lib.hid hs2
      have HPS := Lib.hid hps
      have HSN := Lib.hid hsn
      have hcb := Lib.hid (hC4.cell bn _ (ints_at _ bn (by rw [hcl]; exact hbn)))
      rw [hat] at hcb
      clear hO4 hB4 hP4 hC4 hO4b hs2 hps hsn hat hcl ez eB hpr HRS HW HCT hB
      go_wp2_with (at_builtin; refine wpList_append_own_at _ rfl (.tmp 52) (.tmp 54) 33 rfl w3.heap.size 3 i0 (.int .i64 0) 1 8 Try.underlying33 hi hz0 hz1 hz2 rfl (by decide) _ _ _ rfl (HP4.out.alloc _) ⟨w4.heap.size, 0, none⟩ 1 1 [n64 bn] rfl rfl ?c1 ?c2 ?c3 ?c4 ?c5 ?_)
      case c1 =>
        intro j u hj
        match j, hj with
        | 0, hj => simp at hj; subst hj; simp [Addr.add]
      case c2 => intro u hu; simp at hu; subst hu; rfl
      case c3 => unfold maxLen; omega
      case c4 => omega
      case c5 => simp; omega
      · intro v' w5 hown' hgrow _ hown
        have hB5 := (hB4b.alloc hB4b.size (.cells #[n64 bn] 3)).grown hgrow (by have := hB4b.size; simp; omega) (by
          intro g hg
          exact (own_lt HP4.out hg).1)
        have hC5 : Blk w5 (w3.heap.size + 1) (ints (cts l.length (picksW l k).1)) 3 := (HC4.out.alloc (.cells #[n64 bn] 3)).same (hgrow.block _ (by simp; omega) (fun e => HNE.out _ e.symm rfl))
        have hO5 : OwnS w5 w3.heap.size v4 (pickW (picksW l k).2).2 := (HO4.out.below ((Below.refl w4.heap.size w4).alloc (Nat.le_refl _) _) (Nat.le_refl _)).grown (HP4.out.alloc _) hgrow
        have hne5 : ∀ g, v'.ownBlock = some g → g ≠ w3.heap.size + 1 := by
          intro g hg
          rcases hown with e | e
          · exact HNE.out g (by rw [← e]; exact hg)
          · rw [hg] at e; injection e with e; omega
        have c5 : w5.cell? ⟨w3.heap.size + 1, bn, none⟩ = some (n64 (z : Int)) := by
          have h1 : (w4.alloc (.cells #[n64 bn] 3)).cell? ⟨w3.heap.size + 1, bn, none⟩ = some (n64 (z : Int)) := (((Below.refl w4.heap.size w4).alloc (Nat.le_refl _) _).cell (p := ⟨w3.heap.size + 1, bn, none⟩) hc4).trans hcb.out
          rw [← h1]
          exact World.cell?_of_block (hgrow.block _ (by simp; omega) (fun e => HNE.out _ e.symm rfl))
        have hf5 := hC5.free bn
        have hC6 := hC5.set bn (n64 ((z : Int) + 1))
        rw [ints_set, ← HSN.out] at hC6
        have hO6 := hO5.setOther hC5 bn (n64 ((z : Int) + 1))
        have hW6 := own_setOther hown' (a := ⟨w3.heap.size + 1, bn, none⟩) hne5 (n64 ((z : Int) + 1))
        have hB6 := hB5.setCell (p := ⟨w3.heap.size + 1, bn, none⟩) (by show w3.heap.size ≤ w3.heap.size + 1; omega) (n64 ((z : Int) + 1))
        have HC6 := Lib.hid hC6
        have HO6 := Lib.hid hO6
        have HW6 := Lib.hid hW6
        have HNE5 := Lib.hid hne5
        have HB6 := Lib.hid hB6
        clear hown' hgrow hown hB5 hC5 hO5 hne5 hC6 hO6 hW6 hB6 hcb HP4 HC4 HO4 hB4b
        go_wp2_with fail
        go_roundw
        case rel => exact ⟨k + 1, by omega, by go_num, by rw [HPS.out, List.map_append]; exact HW6.out, HNE5.out, .inr (by rw [HS2.out]; exact HO6.out), HC6.out, HB6.out⟩
        case measure => simp [intOf]; omega
    · obtain rfl : k = m := by omega
      have hx : decide ((k : Int) < n) = false ∨ (decide ((k : Int) < n) = true ∧ decide (0 < l.length) = false) := by
        by_cases h0 : l = []
        · by_cases h1 : (k : Int) < n
          · exact .inr ⟨by simpa using h1, by rw [h0]; rfl⟩
          · exact .inl (by simpa using h1)
        · have := HPL.out h0
          exact .inl (by simp; omega)
      have hRW : Rd wr u8 (picksW l k).1 := Rd.of_row (base := w3.heap.size) (by rw [picksW_count]; exact hW)
      have HRW := Lib.hid hRW
      have HRS := Lib.hid hRS
      have HP3 := Lib.hid (HP2.out.below hB (Nat.le_refl _))
      have HO3 := Lib.hid (HO2.out.below hB (Nat.le_refl _))
      have HC3 := Lib.hid (HC.out.below hB hblt)
      have HCT := Lib.hid hCt
      have hBf := HB5.out.trans (hB.mono hsz5)
      have hkc := picksW_count l k
      have hkl := picksW_length l k
      clear hW hRW hRS hCt hB hne hS HP2 HO2 HC HWL HPL HRG HB5
      rcases hx with hx | ⟨hx, hx2⟩
      all_goals
        go_wp2_with fail
        refine (same_yes _ _ _ (picksW l k).1 HP3.out HRW.out (by omega)).mono ?_
        rintro e w7 ⟨rfl, c7, rfl⟩
        go_wp2_with fail
        refine (refsame_yes _ _ _ (picksW l k).2 (by exact HO3.out) (by exact HRS.out) (by omega)).mono ?_
        rintro e w8 ⟨rfl, c8, rfl⟩
        go_wp2_with fail
        refine (same_yes _ _ _ (cts l.length (picksW l k).1) (by have := Rd.of_blk (cap := l.length) HC3.out; rw [cts_length] at this; exact this) (by have := Rd.of_blk (cap := l.length) HCT.out; rw [cts_length] at this; exact this) (by rw [cts_length]; omega)).mono ?_
        rintro e w9 ⟨rfl, c9, rfl⟩
        go_wp2
        go_ret
        exact ⟨rfl, hBf.trans ⟨rfl, rfl, rfl, Nat.le_refl _, fun _ _ => rfl⟩⟩
end Go.Proofs.Ytpnobanhffjmaaa
