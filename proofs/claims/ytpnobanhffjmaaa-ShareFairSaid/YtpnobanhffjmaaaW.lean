/- share.Picks of any list, share.Whole: what each call comes to. -/
import Derived.Test.YtpnobanhffjmaaaR2
set_option linter.unusedVariables false
set_option linter.unusedSimpArgs false
namespace Go.Proofs.Ytpnobanhffjmaaa
open Go.RowKit Jw Go.Deep
attribute [local go_sem] run_store_float max2_mx min2_mn max_mx min_mn

/-- How many picks there are: none of no shares. -/
def PW (l : List (Nat × Nat)) (n : Int) : Nat := if l = [] then 0 else n.toNat

theorem picks_none (v : Value) (n : Int) (w : World) (hr : RdS w v []) :
    Calls Try.prog 13 #[v, n64 n] w fun e w' => ∃ v2, e = .returned (.tuple #[.slice none 0 0, v2]) ∧ OwnS w' w.heap.size v2 [] ∧ Below w.heap.size w w' := by
  obtain ⟨ao, cap, rfl, h0, hc⟩ := hr
  go_enter Try.func13, Try.ntmps13
  go_wp2_with fail
  refine (clone_any _ [] w ⟨ao, cap, rfl, h0, hc⟩ (by decide)).mono ?_
  rintro e w1 ⟨v1, rfl, hO, hB⟩
  have HO := Lib.hid hO
  clear hO
  go_wp2
  go_ret2
  exact ⟨_, rfl, HO.out, hB⟩

set_option maxHeartbeats 1000000 in
theorem picks_own (v : Value) (l : List (Nat × Nat)) (n : Int) (w : World) (hr : RdS w v l) (hlen8 : l.length ≤ 800) (hn : n ≤ 1000000) (hl : l ≠ []) :
    Calls Try.prog 13 #[v, n64 n] w fun e w' => ∃ v1 v2, e = .returned (.tuple #[v1, v2]) ∧ w'.ownsRow w.heap.size 3 1 v1 (picksW l n.toNat).1.length ((picksW l n.toNat).1.map n64) ∧ OwnS w' w.heap.size v2 (picksW l n.toNat).2 ∧ Below w.heap.size w w' := by
  obtain ⟨i0, hi, hz0, hz1, hz2⟩ := info_parts info3
  have hlp : 1 ≤ l.length := by
    rcases Nat.eq_zero_or_pos l.length with h | h
    · exact absurd (List.eq_nil_of_length_eq_zero h) hl
    · exact h
  have hv : ∃ ao cap, v = .slice ao l.length cap := by
    obtain ⟨ao, cap, h, _⟩ := hr
    exact ⟨ao, cap, h⟩
  obtain ⟨ao, cap, rfl⟩ := hv
  have hne : ((l.length : Int) == 0) = false := by simp; omega
  clear hl
  go_enter Try.func13, Try.ntmps13
  go_wp2_with fail
  refine (clone_any _ l w hr (by omega)).mono ?_
  rintro e w1 ⟨v1, rfl, hO, hB⟩
  go_wp2_with fail
  obtain ⟨N, hN⟩ : ∃ N, N = mx n 0 := ⟨_, rfl⟩
  rw [← hN]
  have hNN : N = (n.toNat : Int) := by rw [hN]; unfold mx; omega
  clear hN
  subst hNN
  obtain ⟨m, hm⟩ : ∃ m, m = n.toNat := ⟨_, rfl⟩
  have hm2 : m ≤ 1000000 := by omega
  rw [← hm]
  have HM := Lib.hid hm
  clear hm hn
  go_loopw [6, 7, 18] (fun out ps i wr => ∃ (k : Nat), k ≤ m ∧ i = n64 k ∧ OwnS wr w.heap.size out (picksW l k).2 ∧ wr.ownsRow w.heap.size 3 1 ps (picksW l k).1.length ((picksW l k).1.map n64) ∧ Below w.heap.size w wr) (fun _ _ i _ => m - (intOf i).toNat)
  case atStart => exact ⟨0, Nat.zero_le _, rfl, hO, World.ownsRow_nil _ _ _ _, hB⟩
  case round =>
    clear hO hB
    obtain ⟨k, hk, rfl, hO, hP, hB⟩ := hrel
    by_cases hlt : k < m
    · go_wp2_with fail
      refine (pick_any _ (picksW l k).2 _ hO.read (by rw [picksW_length]; exact hlen8)).mono ?_
      rintro e w2 ⟨v2, rfl, hO2, hB2⟩
      have hO3 := hO2.base hB.size
      have hP3 := owns_below hP hB2 (Nat.le_refl _)
      have hB3 := hB.trans (hB2.mono hB.size)
      obtain ⟨b, eb⟩ : ∃ b, b = (pickW (picksW l k).2).1 := ⟨_, rfl⟩
      rw [← eb]
      have hs1 : (picksW l (k + 1)).1 = (picksW l k).1 ++ [b] := by rw [eb]; rfl
      have hs2 : (picksW l (k + 1)).2 = (pickW (picksW l k).2).2 := rfl
      have S1 := Lib.hid hs1
      have S2 := Lib.hid hs2
      have HO := Lib.hid hO3
      have HP := Lib.hid hP3
      have hkl : (picksW l k).1.length = k := picksW_count l k
      have HK := Lib.hid hkl
      clear hs1 hs2 eb hO2 hO hP hB2 hB hP3 hO3 hkl
      go_wp2_with (at_builtin; refine wpList_append_own _ rfl (.tmp 25) (.tmp 27) 33 rfl w.heap.size 3 i0 (.int .i64 0) 1 8 Try.underlying33 hi hz0 hz1 hz2 rfl (by decide) _ _ _ rfl (HP.out.alloc _) ⟨w2.heap.size, 0, none⟩ 1 1 [n64 b] rfl rfl ?c1 ?c2 ?c3 ?c4 ?c5 ?_)
      case c1 =>
        intro j u hj
        match j, hj with
        | 0, hj => simp at hj; subst hj; simp [Addr.add]
      case c2 => intro u hu; simp at hu; subst hu; rfl
      case c3 => rw [HK.out]; unfold maxLen; omega
      case c4 => rw [HK.out]; omega
      case c5 => have := hB3.size; simp; omega
      · intro v' w3 hown' hgrow _
        have hB4 := (hB3.alloc hB3.size (.cells #[n64 b] 3)).grown hgrow (by have := hB3.size; simp; omega) (by
          intro q hq
          obtain ⟨_, ⟨rfl, _⟩ | ⟨g, c, cur, rfl, hg, _⟩⟩ := HP.out
          · simp [Value.ownBlock] at hq
          · simp [Value.ownBlock] at hq; omega)
        have hO5 : OwnS w3 w.heap.size v2 (pickW (picksW l k).2).2 := (HO.out.below ((Below.refl w2.heap.size w2).alloc (Nat.le_refl _) _) (Nat.le_refl _)).grown (HP.out.alloc _) hgrow
        have HW := Lib.hid hown'
        have HO5 := Lib.hid hO5
        clear hown' hgrow hO5 hB3
        go_wp2
        go_roundw
        case rel =>
          refine ⟨k + 1, by omega, by go_num, by rw [S2.out]; exact HO5.out, ?_, hB4⟩
          have := HW.out
          rw [S1.out, List.length_append, List.map_append]
          exact this
        case measure => simp [intOf]; omega
    · obtain rfl : k = m := by omega
      have HO := Lib.hid hO
      have HP := Lib.hid hP
      clear hO hP
      go_wp2
      go_ret2
      exact ⟨_, _, rfl, by rw [← HM.out]; exact HP.out, by rw [← HM.out]; exact HO.out, hB⟩

theorem picks_all (v : Value) (l : List (Nat × Nat)) (n : Int) (w : World) (hr : RdS w v l) (hlen8 : l.length ≤ 800) (hn : n ≤ 1000000) :
    Calls Try.prog 13 #[v, n64 n] w fun e w' => ∃ v1 v2, e = .returned (.tuple #[v1, v2]) ∧ w'.ownsRow w.heap.size 3 1 v1 (PW l n) ((picksW l (PW l n)).1.map n64) ∧ OwnS w' w.heap.size v2 (picksW l (PW l n)).2 ∧ Below w.heap.size w w' := by
  by_cases hl : l = []
  · subst hl
    refine (picks_none v n w hr).mono ?_
    rintro e w1 ⟨v2, rfl, hO, hB⟩
    exact ⟨_, v2, rfl, World.ownsRow_nil _ _ _ _, hO, hB⟩
  · have e : PW l n = n.toNat := by unfold PW; rw [if_neg hl]
    rw [e]
    have := picks_own v l n w hr hlen8 hn hl
    rwa [picksW_count] at this

/-- A list of the call's own reads, and lies above. -/
theorem Rd.own {w : World} {base : Nat} {v : Value} {m : Nat} {l : List Int} (h : w.ownsRow base 3 1 v m (l.map n64)) (hm : l.length = m) : ∃ ao cap, v = .slice ao m cap ∧ (m ≠ 0 → ∃ b, ao = some ⟨b, 0, none⟩ ∧ base ≤ b ∧ b < w.heap.size ∧ ∀ k, k < m → w.cell? ⟨b, k, none⟩ = some (n64 (l.getD k 0))) := by
  obtain ⟨h1, ⟨rfl, h2⟩ | ⟨g, cap, cur, rfl, hg, hh, hc, hmx, hs, ht⟩⟩ := h
  · exact ⟨none, 0, by rw [h2], fun h => absurd h2 h⟩
  · have hb : Blk w g cur 3 := hh
    refine ⟨some ⟨g, 0, none⟩, cap, rfl, fun _ => ⟨g, rfl, hg, hb.lt, fun k hk => hb.cell k _ ?_⟩⟩
    have e : (cur.toList.take (m * 1))[k]? = (l.map n64)[k]? := by rw [ht]
    rw [List.getElem?_take_of_lt (by omega)] at e
    rw [← Array.getElem?_toList, e, List.getElem?_map, List.getElem?_eq_getElem (by omega), List.getD_eq_getElem?_getD, List.getElem?_eq_getElem (by omega)]
    rfl

theorem pickW_range (l : List (Nat × Nat)) (h : l ≠ []) : 0 ≤ (pickW l).1 ∧ (pickW l).1 < l.length := by
  have hlp : 1 ≤ l.length := by
    rcases Nat.eq_zero_or_pos l.length with h' | h'
    · exact absurd (List.eq_nil_of_length_eq_zero h') h
    · exact h'
  have := bestTo_range (trnW l) l.length
  exact ⟨this.2.2 hlp, this.2.1⟩
theorem picksW_range (l : List (Nat × Nat)) (n : Int) : ∀ k, k ≤ PW l n → ∀ j, j < k → 0 ≤ (picksW l k).1.getD j 0 ∧ (picksW l k).1.getD j 0 < l.length := by
  intro k
  induction k with
  | zero => intro _ j hj; omega
  | succ k ih =>
    intro hk j hj
    have hl : l ≠ [] := by intro e; unfold PW at hk; rw [if_pos e] at hk; omega
    have hl' : (picksW l k).2 ≠ [] := by
      intro e
      have := picksW_length l k
      rw [e] at this
      exact hl (List.eq_nil_of_length_eq_zero this.symm)
    simp only [picksW]
    by_cases e : j = k
    · subst e
      have hc := picksW_count l j
      rw [List.getD_eq_getElem?_getD, List.getElem?_append_right (by omega), hc, Nat.sub_self]
      have := pickW_range _ hl'
      rw [picksW_length] at this
      exact this
    · rw [List.getD_eq_getElem?_getD, List.getElem?_append_left (by rw [picksW_count]; omega), ← List.getD_eq_getElem?_getD]
      exact ih (by omega) j (by omega)

/-- How often each of n places is picked. -/
def cts (n : Nat) (ps : List Int) : List Int := (List.range n).map fun i : Nat => ((ps.count (i : Int) : Nat) : Int)
theorem cts_length (n : Nat) (ps : List Int) : (cts n ps).length = n := by simp [cts]
theorem cts_at (n : Nat) (ps : List Int) (i : Nat) (h : i < n) : (cts n ps).getD i 0 = ((ps.count (i : Int) : Nat) : Int) := by
  rw [cts, List.getD_eq_getElem?_getD, List.getElem?_map, List.getElem?_range h]; rfl
theorem cts_nil (n : Nat) : cts n [] = List.replicate n 0 := by
  apply List.ext_getElem
  · simp [cts]
  · intro i h1 h2; simp [cts]
theorem cts_snoc (n : Nat) (ps : List Int) (p : Nat) (h : p < n) : cts n (ps ++ [(p : Int)]) = (cts n ps).set p (((ps.count (p : Int) : Nat) : Int) + 1) := by
  apply List.ext_getElem
  · simp [cts]
  · intro i h1 h2
    rw [List.getElem_set]
    simp only [cts, List.getElem_map, List.getElem_range, List.count_append, List.count_singleton]
    by_cases e : p = i
    · subst e; simp
    · have : ((p : Int) == (i : Int)) = false := by simp; omega
      simp [e, this]
theorem takeL_snoc (ps : List Int) (k : Nat) (h : k < ps.length) : ps.take (k + 1) = ps.take k ++ [ps.getD k 0] := takeI_snoc ps k h
theorem count_small (ps : List Int) (k : Nat) (p : Int) : (ps.take k).count p ≤ k := by
  have h1 := List.count_le_length (l := ps.take k) (a := p)
  rw [List.length_take] at h1
  omega
theorem ints_made (n : Nat) : madeCells #[Value.int .i64 0] n = ints (List.replicate n 0) := by
  apply Array.ext
  · simp [size_madeCells, ints]
  · intro i h1 h2
    simp [madeCells, ints, Nat.mod_one]

set_option maxHeartbeats 1000000 in
theorem whole_any (v : Value) (l : List (Nat × Nat)) (n : Int) (w : World) (hr : RdS w v l) (hlen8 : l.length ≤ 800) (hn : n ≤ 1000000) :
    Calls Try.prog 21 #[v, n64 n] w fun e w' => ∃ b, e = .returned (.slice (some ⟨b, 0, none⟩) l.length l.length) ∧ w.heap.size ≤ b ∧ Blk w' b (ints (cts l.length (picksW l (PW l n)).1)) 3 ∧ Below w.heap.size w w' := by
  have hmk := run_make_row' (P := Try.prog) 33 3 (.int .i64 0) 8 Try.underlying33 info3 rfl .i64 .i64 l.length (by omega) (by omega)
  have hv : ∃ ao cap, v = .slice ao l.length cap := by
    obtain ⟨ao, cap, h, _⟩ := hr
    exact ⟨ao, cap, h⟩
  have hPn : PW l n ≤ 1000000 := by unfold PW; split <;> omega
  have hrg := picksW_range l n (PW l n) (Nat.le_refl _)
  obtain ⟨ao, cap, rfl⟩ := hv
  go_enter Try.func21, Try.ntmps21
  go_wp2_with fail
  rw [ints_made]
  have hb0 := blk_new w (ints (List.replicate l.length 0)) 3
  have hB0 : Below w.heap.size w (w.alloc (.cells (ints (List.replicate l.length 0)) 3)) := (Below.refl _ _).alloc (Nat.le_refl _) _
  refine (picks_all _ l n _ (hr.below hB0 (Nat.le_refl _)) hlen8 hn).mono ?_
  rintro e w1 ⟨v1, v2, rfl, hP, hO, hB⟩
  have hB1 := hB0.trans (hB.mono hB0.size)
  have hb1 := hb0.below hB hb0.lt
  have hcnt := picksW_count l (PW l n)
  obtain ⟨ps, eps⟩ : ∃ ps, ps = (picksW l (PW l n)).1 := ⟨_, rfl⟩
  have EPS := Lib.hid eps
  rw [← eps] at hP hrg hcnt
  obtain ⟨m, em⟩ : ∃ m, m = PW l n := ⟨_, rfl⟩
  rw [← em] at hP hrg hPn hcnt
  obtain ⟨ao1, cap1, rfl, hc1⟩ := Rd.own hP hcnt
  have HC := Lib.hid hc1
  have HRG := Lib.hid hrg
  have HCN := Lib.hid hcnt
  have hs0 : (w.alloc (.cells (ints (List.replicate l.length 0)) 3)).heap.size = w.heap.size + 1 := by simp
  rw [hs0] at HC
  clear hb0 hB0 hr hB hO em eps hc1 hrg hcnt hP hs0
  go_wp2_with fail
  go_loopw [21] (fun i wr => ∃ (k : Nat), k ≤ m ∧ i = n64 k ∧ Put w.heap.size (ints (cts l.length (ps.take k))) 3 w1 wr) (fun i _ => m - (intOf i).toNat)
  case atStart => exact ⟨0, Nat.zero_le _, rfl, by rw [List.take_zero, cts_nil]; exact Put.self hb1⟩
  case round =>
    obtain ⟨k, hk, rfl, hP⟩ := hrel
    by_cases hlt : k < m
    · obtain ⟨b1, rfl, hb1', hb2, hcc⟩ := HC.out (by omega)
      have c1 := (hP.cell (p := ⟨b1, k, none⟩) (by show b1 ≠ w.heap.size; omega)).trans (hcc k hlt)
      have hp := HRG.out k hlt
      have hts := takeL_snoc ps k (by rw [HCN.out]; exact hlt)
      obtain ⟨p, ep⟩ : ∃ p, p = ps.getD k 0 := ⟨_, rfl⟩
      rw [← ep] at c1 hp hts
      clear ep hcc
      obtain ⟨q, rfl⟩ := Int.eq_ofNat_of_zero_le hp.1
      have hq : q < l.length := by omega
      have hsn := cts_snoc l.length (ps.take k) q hq
      have hat := cts_at l.length (ps.take k) q hq
      have hsm := count_small ps k (q : Int)
      have hcl := cts_length l.length (ps.take k)
      have c2 := hP.blk.cell q _ (ints_at _ q (by rw [hcl]; exact hq))
      have hf := hP.blk.free q
      rw [hat] at c2
      obtain ⟨z, ez⟩ : ∃ z, z = (ps.take k).count (q : Int) := ⟨_, rfl⟩
      rw [← ez] at c2 hsm hsn
      have hP2 := hP.set q (n64 ((z : Int) + 1))
      rw [ints_set, ← hsn, ← hts] at hP2
      clear hts hsn hat hcl ez hP hp
      go_wp2_with fail
      go_roundw
      case rel => exact ⟨k + 1, by omega, by go_num, hP2⟩
      case measure => simp [intOf]; omega
    · obtain rfl : k = m := by omega
      have htk : ps.take k = ps := List.take_of_length_le (by rw [HCN.out]; exact Nat.le_refl _)
      rw [htk] at hP
      have hB3 := hP.below hB1 (Nat.le_refl _)
      have hbk := Lib.hid hP.blk
      clear htk hP hb1
      go_wp2
      go_ret
      exact ⟨w.heap.size, rfl, Nat.le_refl _, by rw [← EPS.out]; exact hbk.out, hB3⟩
end Go.Proofs.Ytpnobanhffjmaaa
