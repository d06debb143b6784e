/- share.Picks, share.Whole and SameInts: what each call comes to. -/
import Derived.Test.YtpnobanhffjmaaaD
set_option linter.unusedVariables false
set_option linter.unusedSimpArgs false
namespace Go.Proofs.Ytpnobanhffjmaaa
open Go.RowKit Jw Go.Deep
attribute [local go_sem] run_store_float max2_mx min2_mn max_mx min_mn

theorem pickW_length (l : List (Nat × Nat)) : (pickW l).2.length = l.length := by simp [pickW, newL_length]

/-- Picks, one behind the other: the places, and the shares behind them. -/
def picksW (l : List (Nat × Nat)) : Nat → List Int × List (Nat × Nat)
  | 0 => ([], l)
  | k + 1 => ((picksW l k).1 ++ [(pickW (picksW l k).2).1], (pickW (picksW l k).2).2)
theorem picksW_length (l : List (Nat × Nat)) (k : Nat) : (picksW l k).2.length = l.length := by
  induction k with
  | zero => rfl
  | succ k ih => simp only [picksW, pickW_length, ih]
theorem picksW_count (l : List (Nat × Nat)) (k : Nat) : (picksW l k).1.length = k := by
  induction k with
  | zero => rfl
  | succ k ih => simp [picksW, ih]

/-- A slice value reads as these ints. -/
def Rd (w : World) (v : Value) (l : List Int) : Prop :=
  ∃ (ao : Option Addr) (cap : Nat), v = .slice ao l.length cap ∧ (l.length ≠ 0 → ∃ b off, ao = some ⟨b, off, none⟩ ∧ b < w.heap.size ∧ ∀ k, k < l.length → w.cell? ⟨b, off + k, none⟩ = some (n64 (l.getD k 0)))
theorem Rd.below {w w' : World} {v : Value} {l : List Int} {B : Nat} (h : Rd w v l) (hb : Below B w w') (hB : w.heap.size ≤ B) : Rd w' v l := by
  obtain ⟨ao, cap, rfl, h⟩ := h
  refine ⟨ao, cap, rfl, fun hn => ?_⟩
  obtain ⟨b, off, rfl, hlt, hc⟩ := h hn
  exact ⟨b, off, rfl, Nat.lt_of_lt_of_le hlt hb.size, fun k hk => (hb.cell (by show b < B; omega)).trans (hc k hk)⟩
abbrev ints (l : List Int) : Array Value := (l.map n64).toArray
theorem ints_at (l : List Int) (k : Nat) (h : k < l.length) : (ints l)[k]? = some (n64 (l.getD k 0)) := by
  simp [ints, h]
theorem ints_set (l : List Int) (k : Nat) (v : Int) : (ints l).setIfInBounds k (n64 v) = ints (l.set k v) := by
  simp [ints, List.map_set]
theorem Rd.of_blk {w : World} {b cap : Nat} {l : List Int} {t : TypeId} (h : Blk w b (ints l) t) : Rd w (.slice (some ⟨b, 0, none⟩) l.length cap) l :=
  ⟨_, _, rfl, fun _ => ⟨b, 0, rfl, h.lt, fun k hk => by rw [Nat.zero_add]; exact h.cell k _ (ints_at l k hk)⟩⟩
theorem Rd.of_row {w : World} {base : Nat} {v : Value} {l : List Int} (h : w.ownsRow base 3 1 v l.length (l.map n64)) : Rd w v l := by
  obtain ⟨h1, ⟨rfl, h2⟩ | ⟨g, cap, cur, rfl, hg, hh, hc, hm, hs, ht⟩⟩ := h
  · exact ⟨none, 0, by rw [h2], fun h => absurd h2 h⟩
  · have hb : Blk w g cur 3 := hh
    refine ⟨some ⟨g, 0, none⟩, cap, rfl, fun _ => ⟨g, 0, rfl, hb.lt, fun k hk => ?_⟩⟩
    rw [Nat.zero_add]
    refine hb.cell k _ ?_
    have e : (cur.toList.take (l.length * 1))[k]? = (l.map n64)[k]? := by rw [ht]
    rw [List.getElem?_take_of_lt (by omega)] at e
    rw [← Array.getElem?_toList, e, List.getElem?_map, List.getElem?_eq_getElem hk, List.getD_eq_getElem?_getD, List.getElem?_eq_getElem hk]
    rfl
theorem owns_below {w w' : World} {base : Nat} {e : TypeId} {s n : Nat} {v : Value} {xs : List Value} {B : Nat} (h : w.ownsRow base e s v n xs) (hb : Below B w w') (hB : w.heap.size ≤ B) : w'.ownsRow base e s v n xs := by
  obtain ⟨h1, h2 | ⟨g, cap, cur, hv, hg, hh, r⟩⟩ := h
  · exact ⟨h1, .inl h2⟩
  · have hlt : g < w.heap.size := Blk.lt (cs := cur) (t := e) hh
    exact ⟨h1, .inr ⟨g, cap, cur, hv, hg, by rw [hb.block g (by omega)]; exact hh, r⟩⟩
theorem OwnS.below {w w' : World} {base : Nat} {v : Value} {l : List (Nat × Nat)} {B : Nat} (h : OwnS w base v l) (hb : Below B w w') (hB : w.heap.size ≤ B) : OwnS w' base v l := by
  rcases h with h | ⟨g, cap, rest, hv, hg, h⟩
  · exact .inl h
  · exact .inr ⟨g, cap, rest, hv, hg, h.below hb (by have := h.lt; omega)⟩
theorem OwnS.base {w : World} {base base' : Nat} {v : Value} {l : List (Nat × Nat)} (h : OwnS w base v l) (hb : base' ≤ base) : OwnS w base' v l := by
  rcases h with h | ⟨g, cap, rest, hv, hg, h⟩
  · exact .inl h
  · exact .inr ⟨g, cap, rest, hv, by omega, h⟩

/-- What is owned as shares stays owned where an append writes to a list of ints of the call's own. -/
theorem OwnS.grown {w w' : World} {base base' : Nat} {v ps : Value} {l : List (Nat × Nat)} {n : Nat} {xs : List Value} (h : OwnS w base v l) (hP : w.ownsRow base' 3 1 ps n xs) (hg : w.grownBy w' ps.ownBlock) : OwnS w' base v l := by
  rcases h with h | ⟨g, cap, rest, hv, hb, h⟩
  · exact .inl h
  · refine .inr ⟨g, cap, rest, hv, hb, h.same (hg.block g h.lt (fun e => ?_))⟩
    obtain ⟨_, ⟨rfl, _⟩ | ⟨g', c, cur, rfl, _, hh, _⟩⟩ := hP
    · simp [Value.ownBlock] at e
    · simp only [Value.ownBlock, Option.some.injEq] at e
      subst e
      unfold Blk at h
      rw [h] at hh
      simp at hh

theorem info3 : (Try.prog.info? 3).map (fun i => (i.zero, i.size, i.bytes)) = some (some (.int .i64 0), 1, 8) := by kernel_rfl

set_option maxHeartbeats 1000000 in
theorem picks_any (v : Value) (l : List (Nat × Nat)) (n : Int) (w : World) (hr : RdS w v l) (hlen8 : l.length ≤ 800) (hn : n ≤ 1000000) (hl : l ≠ []) :
    Calls Try.prog 13 #[v, n64 n] w fun e w' => ∃ v1 v2, e = .returned (.tuple #[v1, v2]) ∧ Rd w' v1 (picksW l n.toNat).1 ∧ OwnS w' w.heap.size v2 (picksW l n.toNat).2 ∧ Below w.heap.size w w' := by
  obtain ⟨i0, hi, hz0, hz1, hz2⟩ := info_parts info3
  have hlp : 1 ≤ l.length := by
    rcases Nat.eq_zero_or_pos l.length with h | h
    · exact absurd (List.eq_nil_of_length_eq_zero h) hl
    · exact h
  have hv : ∃ ao cap, v = .slice ao l.length cap := by
    obtain ⟨ao, cap, h, _⟩ := hr
    exact ⟨ao, cap, h⟩
  obtain ⟨ao, cap, rfl⟩ := hv
  have hne : ((l.length : Int) == 0) = false := by simp; omega
  clear hl
  go_enter Try.func13, Try.ntmps13
  go_wp2_with fail
  refine (clone_any _ l w hr (by omega)).mono ?_
  rintro e w1 ⟨v1, rfl, hO, hB⟩
  go_wp2_with fail
  obtain ⟨N, hN⟩ : ∃ N, N = mx n 0 := ⟨_, rfl⟩
  rw [← hN]
  have hNN : N = (n.toNat : Int) := by rw [hN]; unfold mx; omega
  clear hN
  subst hNN
  obtain ⟨m, hm⟩ : ∃ m, m = n.toNat := ⟨_, rfl⟩
  have hm2 : m ≤ 1000000 := by omega
  rw [← hm]
  have HM := Lib.hid hm
  clear hm hn
  go_loopw [6, 7, 18] (fun out ps i wr => ∃ (k : Nat), k ≤ m ∧ i = n64 k ∧ OwnS wr w.heap.size out (picksW l k).2 ∧ wr.ownsRow w.heap.size 3 1 ps (picksW l k).1.length ((picksW l k).1.map n64) ∧ Below w.heap.size w wr) (fun _ _ i _ => m - (intOf i).toNat)
  case atStart => exact ⟨0, Nat.zero_le _, rfl, hO, World.ownsRow_nil _ _ _ _, hB⟩
  case round =>
    clear hO hB
    obtain ⟨k, hk, rfl, hO, hP, hB⟩ := hrel
    by_cases hlt : k < m
    · go_wp2_with fail
      refine (pick_any _ (picksW l k).2 _ hO.read (by rw [picksW_length]; exact hlen8)).mono ?_
      rintro e w2 ⟨v2, rfl, hO2, hB2⟩
      have hO3 := hO2.base hB.size
      have hP3 := owns_below hP hB2 (Nat.le_refl _)
      have hB3 := hB.trans (hB2.mono hB.size)
      obtain ⟨b, eb⟩ : ∃ b, b = (pickW (picksW l k).2).1 := ⟨_, rfl⟩
      rw [← eb]
      have hs1 : (picksW l (k + 1)).1 = (picksW l k).1 ++ [b] := by rw [eb]; rfl
      have hs2 : (picksW l (k + 1)).2 = (pickW (picksW l k).2).2 := rfl
      have S1 := Lib.hid hs1
      have S2 := Lib.hid hs2
      have HO := Lib.hid hO3
      have HP := Lib.hid hP3
      have hkl : (picksW l k).1.length = k := picksW_count l k
      have HK := Lib.hid hkl
      clear hs1 hs2 eb hO2 hO hP hB2 hB hP3 hO3 hkl
      go_wp2_with (at_builtin; refine wpList_append_own _ rfl (.tmp 25) (.tmp 27) 33 rfl w.heap.size 3 i0 (.int .i64 0) 1 8 Try.underlying33 hi hz0 hz1 hz2 rfl (by decide) _ _ _ rfl (HP.out.alloc _) ⟨w2.heap.size, 0, none⟩ 1 1 [n64 b] rfl rfl ?c1 ?c2 ?c3 ?c4 ?c5 ?_)
      case c1 =>
        intro j u hj
        match j, hj with
        | 0, hj => simp at hj; subst hj; simp [Addr.add]
      case c2 => intro u hu; simp at hu; subst hu; rfl
      case c3 => rw [HK.out]; unfold maxLen; omega
      case c4 => rw [HK.out]; omega
      case c5 => have := hB3.size; simp; omega
      · intro v' w3 hown' hgrow _
        have hB4 := (hB3.alloc hB3.size (.cells #[n64 b] 3)).grown hgrow (by have := hB3.size; simp; omega) (by
          intro q hq
          obtain ⟨_, ⟨rfl, _⟩ | ⟨g, c, cur, rfl, hg, _⟩⟩ := HP.out
          · simp [Value.ownBlock] at hq
          · simp [Value.ownBlock] at hq; omega)
        have hO5 : OwnS w3 w.heap.size v2 (pickW (picksW l k).2).2 := (HO.out.below ((Below.refl w2.heap.size w2).alloc (Nat.le_refl _) _) (Nat.le_refl _)).grown (HP.out.alloc _) hgrow
        have HW := Lib.hid hown'
        have HO5 := Lib.hid hO5
        clear hown' hgrow hO5 hB3
        go_wp2
        go_roundw
        case rel =>
          refine ⟨k + 1, by omega, by go_num, by rw [S2.out]; exact HO5.out, ?_, hB4⟩
          have := HW.out
          rw [S1.out, List.length_append, List.map_append]
          exact this
        case measure => simp [intOf]; omega
    · obtain rfl : k = m := by omega
      have HO := Lib.hid hO
      have HP := Lib.hid hP
      clear hO hP
      go_wp2
      go_ret2
      exact ⟨_, _, rfl, by rw [← HM.out]; exact Rd.of_row HP.out, by rw [← HM.out]; exact HO.out, hB⟩

set_option maxHeartbeats 400000 in
theorem same_yes (w : World) (v v' : Value) (l : List Int) (h : Rd w v l) (h' : Rd w v' l) (hl : l.length ≤ 9223372036854775807) :
    Calls Try.prog 20 #[v, v'] w fun e w' => e = .returned (.bool true) ∧ ∃ k, w' = w.drewN k := by
  obtain ⟨ao, cap, rfl, h⟩ := h
  obtain ⟨ao', cap', rfl, h'⟩ := h'
  by_cases hn : l.length = 0
  · rw [hn]
    clear h h' hn hl
    go_enter Try.func20, Try.ntmps20
    go_wp2_with fail
    refine wp_loop_rounds 1 ?_
    rw [rounds_succ]
    go_wp2
    go_ret
    exact ⟨rfl, 0, rfl⟩
  · obtain ⟨b, off, rfl, _, hc⟩ := h hn
    obtain ⟨b', off', rfl, _, hc'⟩ := h' hn
    clear h h'
    have HC := Lib.hid hc
    have HC' := Lib.hid hc'
    have HN := Lib.hid hn
    clear hc hc' hn
    go_enter Try.func20, Try.ntmps20
    go_wp2_with fail
    go_loopw [13] (fun i wr => ∃ (k n : Nat), k ≤ l.length ∧ i = n64 k ∧ wr = w.drewN n) (fun i _ => l.length - (intOf i).toNat)
    case atStart => exact ⟨0, 0, Nat.zero_le _, rfl, rfl⟩
    case round =>
      obtain ⟨k, n, hk, rfl, rfl⟩ := hrel
      by_cases hlt : k < l.length
      · have c1 := HC.out k hlt
        have c2 := HC'.out k hlt
        obtain ⟨x, ex⟩ : ∃ x, x = l.getD k 0 := ⟨_, rfl⟩
        rw [← ex] at c1 c2
        clear ex
        go_wp2_with fail
        go_quiet (fail)
        go_wp2
        go_roundw
        case rel => exact ⟨k + 1, _, by omega, by go_num, rfl⟩
        case measure => simp [intOf]; omega
      · obtain rfl : k = l.length := by omega
        go_wp2
        go_ret
        exact ⟨rfl, _, rfl⟩

theorem RdS.of_blk {w : World} {b cap : Nat} {l : List (Nat × Nat)} {t : TypeId} (h : Blk w b (shs l).toArray t) : RdS w (.slice (some ⟨b, 0, none⟩) l.length cap) l :=
  ⟨some ⟨b, 0, none⟩, cap, rfl, fun h => (by cases h), fun _ => ⟨b, 0, rfl, h.lt, fun k hk => by
    have := shs_at l k hk
    rw [Nat.zero_add]
    exact ⟨h.cell _ _ (by simp only [List.getElem?_toArray]; exact this.1), h.cell _ _ (by simp only [List.getElem?_toArray]; exact this.2)⟩⟩⟩

theorem inf_one (w : World) : Calls Try.prog 22 #[n64 1] w fun e w' => e = .returned (fl 9218868437227405312) ∧ w = w' := by
  have h2 := frombits_run
  go_enter Try.func22, Try.ntmps22
  go_wp2
  go_ret
  exact ⟨rfl, rfl⟩

def exl : List (Nat × Nat) := [(4611686018427387904, 0), (4607182418800017408, 0)]
theorem ex_picks : (picksW exl 4).1 = [0, 1, 0, 0] := by decide +kernel
theorem ex_weight : weightW 9218868437227405312 = 4696837146684686336 := by decide +kernel
theorem ex_eq : (ord 4696837146684686336 4696837146684686336 == some .eq) = true := by decide +kernel

set_option maxRecDepth 100000 in
theorem alive_yes (w : World) : Calls Try.prog 10 #[] w fun e w' => e = .returned (.bool true) ∧ Below w.heap.size w w' := by
  have hq := ex_eq
  go_enter Try.func10, Try.ntmps10
  go_wp2_with fail
  have hN := blk_new w (shs exl).toArray 27
  refine (picks_any _ exl 4 _ (RdS.of_blk (l := exl) (cap := 2) (b := w.heap.size) (by exact hN)) (by decide) (by decide) (by decide)).mono ?_
  rintro e w1 ⟨v1, v2, rfl, hP, hO, hB⟩
  have hP : Rd w1 v1 [0, 1, 0, 0] := by rw [← ex_picks]; exact hP
  have hB1 : Below w.heap.size w w1 := ((Below.refl _ _).alloc (Nat.le_refl _) _).trans (hB.mono (by simp))
  clear hO hB hN
  go_wp2_with fail
  have hN8 := blk_new w1 (ints [0, 1, 0, 0]) 3
  have hB2 : Below w1.heap.size w1 (w1.alloc (.cells (ints [0, 1, 0, 0]) 3)) := (Below.refl _ _).alloc (Nat.le_refl _) _
  refine (same_yes _ _ _ [0, 1, 0, 0] (by exact hP.below hB2 (Nat.le_refl _)) (by exact Rd.of_blk (cap := 4) hN8) (by decide)).mono ?_
  rintro e w9 ⟨rfl, k9, rfl⟩
  go_wp2_with fail
  refine (inf_one _).mono ?_
  rintro e w9 ⟨rfl, rfl⟩
  go_wp2_with fail
  refine (weight_any _ _).mono ?_
  rintro e w9 ⟨rfl, rfl⟩
  rw [ex_weight]
  go_wp2
  go_ret
  exact ⟨rfl, (hB1.trans (hB2.mono hB1.size)).trans ⟨rfl, rfl, rfl, Nat.le_refl _, fun _ _ => rfl⟩⟩
end Go.Proofs.Ytpnobanhffjmaaa
