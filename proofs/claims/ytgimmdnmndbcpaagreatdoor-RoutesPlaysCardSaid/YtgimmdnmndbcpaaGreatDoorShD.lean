/- share.Pick: what a pick comes to. -/
import Derived.Test.YtgimmdnmndbcpaaGreatDoorShC
import Derived.Test.YtgimmdnmndbcpaaGreatDoorShN
import Derived.Deep.RegionWith
import Derived.Deep.DeepCutAuto
set_option linter.unusedVariables false
set_option linter.unusedSimpArgs false
namespace Go.Proofs.YtgimmdnmndbcpaaGreatDoor
open Go.RowKit Jw Go.Deep
attribute [local go_sem] run_store_float

/-- The turns behind the weights. -/
def trnW (l : List (Nat × Nat)) : List Nat := List.zipWith (fun s x => addW (turnW s.2) x) l (wtsW l)
def newL (l : List (Nat × Nat)) : List (Nat × Nat) := List.zipWith (fun s t => (s.1, t)) l (trnW l)
/-- The first place of a greatest turn among the first k; -1: none. -/
def bestTo (ts : List Nat) : Nat → Int
  | 0 => -1
  | k + 1 => if (decide (bestTo ts k < 0) || (ord (ts.getD k 0) (ts.getD (bestTo ts k).toNat 0) == some .gt)) = true then k else bestTo ts k

theorem wtsW_length (l : List (Nat × Nat)) : (wtsW l).length = l.length := by unfold wtsW; split <;> simp [rawW]
theorem trnW_length (l : List (Nat × Nat)) : (trnW l).length = l.length := by simp [trnW, wtsW_length]
theorem newL_length (l : List (Nat × Nat)) : (newL l).length = l.length := by simp [newL, trnW_length]
theorem bestTo_range (ts : List Nat) (k : Nat) : -1 ≤ bestTo ts k ∧ bestTo ts k < k ∧ (1 ≤ k → 0 ≤ bestTo ts k) := by
  induction k with
  | zero => exact ⟨by simp [bestTo], by simp [bestTo], fun h => by omega⟩
  | succ k ih =>
    simp only [bestTo]
    split
    · exact ⟨by omega, by omega, fun _ => by omega⟩
    · rename_i h
      have : ¬ bestTo ts k < 0 := fun h' => h (by simp [h'])
      exact ⟨ih.1, by omega, fun _ => by omega⟩

theorem wtsW_num (l : List (Nat × Nat)) : ∀ x ∈ wtsW l, Num x := by
  unfold wtsW
  split
  · intro x hx
    rw [List.mem_replicate] at hx
    rw [hx.2]; exact num_one
  · exact rawW_num l

theorem sub_ok2 {x y : Nat} (hx : Ext x) (hy : Num y) : Ieee.double.sub x y = some (subW x y) ∧ Ext (subW x y) := by
  obtain ⟨t, n, j, hy⟩ := hy
  unfold subW
  cases hr : Ieee.double.read x with
  | nan s f => exact absurd hr (hx s f)
  | infinity s =>
    have : Ieee.double.sub x y = some (Ieee.double.write (.infinity s)) := by unfold Ieee.Format.sub; rw [hr, hy]; rfl
    rw [this]
    exact ⟨rfl, by rw [Option.getD_some]; exact read_write _ (fun _ _ e => by cases e)⟩
  | number s m i => exact sub_ok ⟨s, m, i, hr⟩ (Num.ext ⟨t, n, j, hy⟩)

theorem trnW_at (l : List (Nat × Nat)) (k : Nat) (h : k < l.length) : Ieee.double.add (turnW (l.getD k (0, 0)).2) ((wtsW l).getD k 0) = some ((trnW l).getD k 0) ∧ Ext ((trnW l).getD k 0) := by
  have hw : k < (wtsW l).length := by rw [wtsW_length]; exact h
  have e : (trnW l).getD k 0 = addW (turnW (l.getD k (0, 0)).2) ((wtsW l).getD k 0) := by
    unfold trnW
    rw [List.getD_eq_getElem?_getD, List.getElem?_zipWith, List.getElem?_eq_getElem h, List.getElem?_eq_getElem hw, List.getD_eq_getElem?_getD, List.getElem?_eq_getElem h, List.getD_eq_getElem?_getD, List.getElem?_eq_getElem hw]
    rfl
  have hm : (wtsW l).getD k 0 ∈ wtsW l := by
    rw [List.getD_eq_getElem?_getD, List.getElem?_eq_getElem hw]
    exact List.getElem_mem hw
  rw [e]
  exact add_ok (turnW_num _).ext (wtsW_num l _ hm)

/-- A pick: its place (-1: none), the shares behind it. -/
def pickW (l : List (Nat × Nat)) : Int × List (Nat × Nat) :=
  (bestTo (trnW l) l.length, (newL l).set (bestTo (trnW l) l.length).toNat (((newL l).getD (bestTo (trnW l) l.length).toNat (0, 0)).1, subW ((trnW l).getD (bestTo (trnW l) l.length).toNat 0) (totW l)))

set_option maxRecDepth 100000 in
set_option maxRecDepth 20000 in
set_option maxHeartbeats 2000000 in
theorem pick_some (v : Value) (l : List (Nat × Nat)) (w : World) (hr : RdS w v l) (hlen8 : l.length ≤ 800) (hn : l ≠ []) :
    Calls Tryz.prog 52 #[v] w fun e w' => ∃ v', e = .returned (.tuple #[n64 (pickW l).1, v']) ∧ OwnS w' w.heap.size v' (pickW l).2 ∧ Below w.heap.size w w' := by
  have hlen : l.length * 16 ≤ 140737488351232 := by omega
  have hadd : ∀ k, k < l.length → Ieee.double.add (turnW (l.getD k (0, 0)).2) ((wtsW l).getD k 0) = some ((trnW l).getD k 0) := fun k h => (trnW_at l k h).1
  go_enter Tryz.func52, Tryz.ntmps52
  go_wp2_with fail
  refine (clone_any v l w hr hlen).mono ?_
  rintro e w1 ⟨v1, rfl, hO, hB⟩
  rcases hO with ⟨_, e⟩ | ⟨g, cap, rest, rfl, hg, hO⟩
  · exact absurd e hn
  go_wp2_with fail
  refine (weights_any v l w1 (hr.below hB (Nat.le_refl _)) hlen).mono ?_
  rintro e w2 ⟨rfl, hW, hB2⟩
  have hO2 := hO.below hB2 hO.lt
  have hgw : g < w1.heap.size := hO.lt
  have hB3 := hB.trans (hB2.mono hB.size)
  have hsz := hB.size
  generalize w1.heap.size = b at *
  clear hO hB hB2 hr
  go_wp2_with fail
  have HA := Lib.hid hadd
  clear hadd
  go_loopw [7, 18] (fun bv i wr => ∃ (k : Nat), k ≤ l.length ∧ i = n64 k ∧ bv = n64 (bestTo (trnW l) k) ∧ Blk wr g (shs (mix (newL l) l k) ++ rest).toArray 83 ∧ Blk wr b (fls (wtsW l)) 31 ∧ Below w.heap.size w wr) (fun _ i _ => l.length - (intOf i).toNat)
  case atStart => exact ⟨0, Nat.zero_le _, rfl, rfl, by rw [mix_zero]; exact hO2, hW, hB3⟩
  case round =>
    clear hO2 hW hB3
    obtain ⟨k, hk, rfl, rfl, hO, hW, hB⟩ := hrel
    by_cases hlt : k < l.length
    · have hml := mix_length (ys := newL l) (xs := l) (newL_length l) k hk
      have hsl := shs_length (mix (newL l) l k)
      have hmk : (mix (newL l) l k).getD k (0, 0) = l.getD k (0, 0) := by
        rw [List.getD_eq_getElem?_getD, mix_at (newL_length l) k hk, if_neg (by omega), List.getD_eq_getElem?_getD]
      have hat := shs_at (mix (newL l) l k) k (by omega)
      rw [hmk] at hat
      have c2 := hO.cell (k * 2 + 1) _ (by simp only [List.getElem?_toArray]; rw [List.getElem?_append_left (by omega)]; exact hat.2)
      have c3 := hW.cell k _ (fls_at _ k ((wtsW l).getD k 0) (by rw [List.getD_eq_getElem?_getD, List.getElem?_eq_getElem (by rw [wtsW_length]; exact hlt)]; rfl))
      have hf := hO.free (k * 2 + 1)
      have hrun := fun wx => run_float_arith (P := Tryz.prog) wx .add 31 .f64 _ _ _ (HA.out k hlt)
      clear hml hsl hmk hat
      obtain ⟨t, et⟩ : ∃ t, t = (l.getD k (0, 0)).2 := ⟨_, rfl⟩
      obtain ⟨x, exx⟩ : ∃ x, x = (wtsW l).getD k 0 := ⟨_, rfl⟩
      obtain ⟨r, er⟩ : ∃ r, r = (trnW l).getD k 0 := ⟨_, rfl⟩
      rw [← et] at c2 hrun
      rw [← exx] at c3 hrun
      rw [← er] at hrun
      have E := Lib.hid (And.intro et (And.intro exx er))
      clear et exx er
      have hO3 := hO.drew.set (k * 2 + 1) (fl r)
      have hnk : (newL l)[k]? = some ((l.getD k (0, 0)).1, r) := by
        rw [E.out.2.2, newL, List.getElem?_zipWith, List.getElem?_eq_getElem hlt, List.getElem?_eq_getElem (by rw [trnW_length]; exact hlt)]
        simp only [List.getD_eq_getElem?_getD, List.getElem?_eq_getElem hlt, List.getElem?_eq_getElem (show k < (trnW l).length by rw [trnW_length]; exact hlt), Option.getD_some]
      have hset : ((shs (mix (newL l) l k) ++ rest).toArray).setIfInBounds (k * 2 + 1) (fl r) = (shs (mix (newL l) l (k + 1)) ++ rest).toArray := by
        have hml := mix_length (ys := newL l) (xs := l) (newL_length l) k hk
        have hsl := shs_length (mix (newL l) l k)
        have hmk : (mix (newL l) l k).getD k (0, 0) = l.getD k (0, 0) := by
          rw [List.getD_eq_getElem?_getD, mix_at (newL_length l) k hk, if_neg (by omega), List.getD_eq_getElem?_getD]
        rw [List.setIfInBounds_toArray, List.set_append_left _ _ (by omega), shs_set _ _ _ (by omega), hmk, mix_set (newL_length l) k hlt _ hnk]
      rw [hset] at hO3
      have hW3 := hW.drew.set_other ⟨g, k * 2 + 1, none⟩ (fl r) (by show b ≠ g; omega)
      have hB3 := hB.drew.setCell (p := ⟨g, k * 2 + 1, none⟩) hg (fl r)
      clear hset hnk
      go_upto_region 7 with fail
      go_cut [8] (fun s8 wx => s8 = n64 k ∧ Blk wx g (shs (mix (newL l) l (k + 1)) ++ rest).toArray 83 ∧ Blk wx b (fls (wtsW l)) 31 ∧ Below w.heap.size w wx)
      case first =>
        go_region_with (go_at_call 68; refine (turn_any _ _).mono ?_; rintro e w' ⟨rfl, rfl⟩)
        all_goals (go_wp2_with fail; go_meet; exact ⟨rfl, hO3, hW3, hB3⟩)
      case rest =>
        clear hO3 hW3 hB3 hO hW hB c2 c3 hf hrun
        obtain ⟨rfl, hO, hW, hB⟩ := hcut
        have hml := mix_length (ys := newL l) (xs := l) (newL_length l) (k + 1) (by omega)
        have hsl := shs_length (mix (newL l) l (k + 1))
        have hturn : ∀ j, j < k + 1 → wc.cell? ⟨g, j * 2 + 1, none⟩ = some (fl ((trnW l).getD j 0)) := by
          intro j hj
          have hat := (shs_at (mix (newL l) l (k + 1)) j (by omega)).2
          have hmj : ((mix (newL l) l (k + 1)).getD j (0, 0)).2 = (trnW l).getD j 0 := by
            rw [List.getD_eq_getElem?_getD, mix_at (newL_length l) (k + 1) (by omega), if_pos hj, newL, List.getElem?_zipWith, List.getElem?_eq_getElem (show j < l.length by omega), List.getElem?_eq_getElem (show j < (trnW l).length by rw [trnW_length]; omega), List.getD_eq_getElem?_getD, List.getElem?_eq_getElem (show j < (trnW l).length by rw [trnW_length]; omega)]
            rfl
          rw [hmj] at hat
          exact hO.cell (j * 2 + 1) _ (by simp only [List.getElem?_toArray]; rw [List.getElem?_append_left (by omega)]; exact hat)
        have ck := hturn k (by omega)
        have hbr := bestTo_range (trnW l) k
        have hbs : bestTo (trnW l) (k + 1) = if (decide (bestTo (trnW l) k < 0) || (ord ((trnW l).getD k 0) ((trnW l).getD (bestTo (trnW l) k).toNat 0) == some .gt)) = true then (k : Int) else bestTo (trnW l) k := rfl
        obtain ⟨B, eB⟩ : ∃ B, B = bestTo (trnW l) k := ⟨_, rfl⟩
        obtain ⟨tk, ek⟩ : ∃ tk, tk = (trnW l).getD k 0 := ⟨_, rfl⟩
        rw [← eB] at hbr hbs ⊢
        rw [← ek] at ck hbs
        clear hml hsl
        obtain ⟨hb1, hb2, hb3⟩ := hbr
        by_cases hneg : B < 0
        · have hnb : decide (B < 0) = true := by simpa using hneg
          rw [hnb, Bool.true_or, if_pos rfl] at hbs
          have HB := Lib.hid hbs
          clear hbs hturn eB ek E
          go_wp2_with fail
          go_quiet (fail)
          go_wp2
          go_roundw
          case rel => exact ⟨k + 1, by omega, by go_num, by rw [HB.out], hO, hW, ⟨hB.os, hB.tape, hB.output, hB.size, hB.block⟩⟩
          case measure => simp [intOf]; omega
        · obtain ⟨bn, rfl⟩ := Int.eq_ofNat_of_zero_le (show 0 ≤ B by omega)
          have cb := hturn bn (by omega)
          obtain ⟨tb, eb⟩ : ∃ tb, tb = (trnW l).getD bn 0 := ⟨_, rfl⟩
          rw [Int.toNat_natCast, ← eb] at hbs
          rw [← eb] at cb
          have hnb : decide ((bn : Int) < 0) = false := by simp
          rw [hnb, Bool.false_or] at hbs
          clear hturn eB ek eb E hneg
          cases hgt : (ord tk tb == some .gt) with
          | true =>
            rw [hgt, if_pos rfl] at hbs
            have HB := Lib.hid hbs
            clear hbs
            go_wp2_with fail
            go_quiet (fail)
            go_wp2
            go_roundw
            case rel => exact ⟨k + 1, by omega, by go_num, by rw [HB.out], hO, hW, ⟨hB.os, hB.tape, hB.output, hB.size, hB.block⟩⟩
            case measure => simp [intOf]; omega
          | false =>
            rw [hgt, if_neg (by decide)] at hbs
            have HB := Lib.hid hbs
            clear hbs
            go_wp2_with fail
            go_quiet (fail)
            go_wp2
            go_roundw
            case rel => exact ⟨k + 1, by omega, by go_num, by rw [HB.out], hO, hW, ⟨hB.os, hB.tape, hB.output, hB.size, hB.block⟩⟩
            case measure => simp [intOf]; omega
    · obtain rfl : k = l.length := by omega
      have hfull : mix (newL l) l l.length = newL l := by
        have := mix_full (newL_length l)
        rwa [newL_length] at this
      rw [hfull] at hO
      have hlp : 1 ≤ l.length := by
        rcases Nat.eq_zero_or_pos l.length with h | h
        · exact absurd (List.eq_nil_of_length_eq_zero h) hn
        · exact h
      have hbr := bestTo_range (trnW l) l.length
      have hpick1 : (pickW l).1 = bestTo (trnW l) l.length := rfl
      have hpick2 : (pickW l).2 = (newL l).set (bestTo (trnW l) l.length).toNat (((newL l).getD (bestTo (trnW l) l.length).toNat (0, 0)).1, subW ((trnW l).getD (bestTo (trnW l) l.length).toNat 0) (totW l)) := rfl
      have H1 := Lib.hid hpick1
      have H2 := Lib.hid hpick2
      clear hpick1 hpick2 hfull hlt
      obtain ⟨B, eB⟩ : ∃ B, B = bestTo (trnW l) l.length := ⟨_, rfl⟩
      rw [← eB] at hbr ⊢
      obtain ⟨bn, rfl⟩ := Int.eq_ofNat_of_zero_le (show 0 ≤ B by have := hbr.2.2 hlp; omega)
      have EB := Lib.hid eB
      have hbl : bn < l.length := by have := hbr.2.1; omega
      clear eB hbr
      have hsl := shs_length (newL l)
      have hat := (shs_at (newL l) bn (by rw [newL_length]; exact hbl)).2
      have hmj : ((newL l).getD bn (0, 0)).2 = (trnW l).getD bn 0 := by
        rw [newL, List.getD_eq_getElem?_getD, List.getElem?_zipWith, List.getElem?_eq_getElem hbl, List.getElem?_eq_getElem (show bn < (trnW l).length by rw [trnW_length]; omega), List.getD_eq_getElem?_getD, List.getElem?_eq_getElem (show bn < (trnW l).length by rw [trnW_length]; omega)]
        rfl
      rw [hmj] at hat
      have cb := hO.cell (bn * 2 + 1) _ (by simp only [List.getElem?_toArray]; rw [List.getElem?_append_left (by rw [hsl, newL_length]; omega)]; exact hat)
      have hf := hO.free (bn * 2 + 1)
      have hrun := fun wx => run_float_arith (P := Tryz.prog) wx .sub 31 .f64 _ _ _ (sub_ok2 (trnW_at l bn hbl).2 (tot_num l hlen8)).1
      have hO3 := hO.set (bn * 2 + 1) (fl (subW ((trnW l).getD bn 0) (totW l)))
      rw [List.setIfInBounds_toArray, List.set_append_left _ _ (by rw [hsl, newL_length]; omega), shs_set _ _ _ (by rw [newL_length]; exact hbl)] at hO3
      have hB3 := hB.setCell (p := ⟨g, bn * 2 + 1, none⟩) hg (fl (subW ((trnW l).getD bn 0) (totW l)))
      obtain ⟨tb, eb⟩ : ∃ tb, tb = (trnW l).getD bn 0 := ⟨_, rfl⟩
      obtain ⟨tot, et⟩ : ∃ tot, tot = totW l := ⟨_, rfl⟩
      rw [← eb] at cb
      rw [← eb, ← et] at hrun hO3 hB3
      rw [← et]
      have E := Lib.hid (And.intro eb et)
      clear eb et hsl hat hmj hn
      go_wp2
      go_ret2
      have e2 : (pickW l).2 = (newL l).set bn (((newL l).getD bn (0, 0)).1, subW tb tot) := by rw [H2.out, ← EB.out, Int.toNat_natCast, E.out.1, E.out.2]
      have e3 : (pickW l).2.length = l.length := by rw [e2, List.length_set, newL_length]
      refine ⟨.slice (some ⟨g, 0, none⟩) l.length cap, by rw [H1.out, ← EB.out]; rfl, .inr ⟨g, cap, rest, by rw [e3], hg, by rw [e2]; exact hO3⟩, hB3⟩

theorem pick_none (v : Value) (w : World) (hr : RdS w v []) :
    Calls Tryz.prog 52 #[v] w fun e w' => ∃ v', e = .returned (.tuple #[n64 (-1), v']) ∧ OwnS w' w.heap.size v' [] ∧ Below w.heap.size w w' := by
  go_enter Tryz.func52, Tryz.ntmps52
  go_wp2_with fail
  refine (clone_any v [] w hr (by decide)).mono ?_
  rintro e w1 ⟨v1, rfl, hO, hB⟩
  go_wp2_with fail
  refine (weights_any v [] w1 (hr.below hB (Nat.le_refl _)) (by decide)).mono ?_
  rintro e w2 ⟨rfl, hW, hB2⟩
  have hsh : ∃ ao cap, v1 = .slice ao 0 cap := by
    rcases hO with ⟨rfl, _⟩ | ⟨g, cap, rest, rfl, _⟩
    · exact ⟨_, _, rfl⟩
    · exact ⟨_, _, rfl⟩
  obtain ⟨ao, cap, rfl⟩ := hsh
  have hO2 : OwnS w2 w.heap.size (.slice ao 0 cap) [] := by
    rcases hO with h | ⟨g, cap, rest, h, hg, hb⟩
    · exact .inl h
    · exact .inr ⟨g, cap, rest, h, hg, hb.below hB2 hb.lt⟩
  have hB3 := hB.trans (hB2.mono hB.size)
  clear hO hB hB2 hW hr
  go_wp2_with fail
  refine wp_loop_rounds 1 ?_
  rw [rounds_succ]
  go_wp2
  go_ret2
  exact ⟨_, rfl, hO2, hB3⟩

/-- A pick, of any shares. -/
theorem pick_any (v : Value) (l : List (Nat × Nat)) (w : World) (hr : RdS w v l) (hlen8 : l.length ≤ 800) :
    Calls Tryz.prog 52 #[v] w fun e w' => ∃ v', e = .returned (.tuple #[n64 (pickW l).1, v']) ∧ OwnS w' w.heap.size v' (pickW l).2 ∧ Below w.heap.size w w' := by
  by_cases h : l = []
  · subst h
    exact pick_none v w hr
  · exact pick_some v l w hr hlen8 h
end Go.Proofs.YtgimmdnmndbcpaaGreatDoor
