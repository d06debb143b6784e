/- The reference's texts, labels and names: what each call comes to. -/
import Derived.Test.YtgimmdnmndbcpaaGreatDoorB
import Derived.Test.YtgimmdnmndbcpaaGreatDoorRow
import Derived.Test.YtgimmdnmndbcpaaGreatDoorArr
import Derived.Deep.CutBlock
import Derived.OwnWalk
import Derived.Deep.DeepCutAuto
import Derived.Deep.RegionWith
import Derived.Deep.RegionHeld3
import Derived.IntWalk
import Derived.Deep.AppendLies
set_option linter.unusedVariables false
set_option linter.unusedSimpArgs false
namespace Go.Proofs.YtgimmdnmndbcpaaGreatDoor
open Go.RowKit Jw Lab

theorem info9 : (Tryz.prog.info? 9).map (fun i => (i.zero, i.size, i.bytes)) = some (some (.string ⟨#[]⟩), 1, 16) := by kernel_rfl
theorem info_parts' {i : TypeId} {z : Value} {s b : Nat} (h : (Tryz.prog.info? i).map (fun i => (i.zero, i.size, i.bytes)) = some (some z, s, b)) : ∃ i0, Tryz.prog.info? i = some i0 ∧ i0.zero = some z ∧ i0.size = s ∧ i0.bytes = b := by
  cases e : Tryz.prog.info? i with
  | none => rw [e] at h; cases h
  | some i0 =>
    rw [e] at h
    simp only [Option.map_some, Option.some.injEq, Prod.mk.injEq] at h
    exact ⟨i0, rfl, h.1, h.2.1, h.2.2⟩

/-- One cell of an own row is written. -/
theorem own_set {w : World} {base g n cap : Nat} {e : TypeId} {xs : List Value} (h : w.ownsRow base e 1 (.slice (some ⟨g, 0, none⟩) n cap) n xs) (i : Nat) (v : Value) :
    (w.setCell ⟨g, i, none⟩ v).ownsRow base e 1 (.slice (some ⟨g, 0, none⟩) n cap) n (xs.set i v) := by
  obtain ⟨h1, ⟨h, _⟩ | ⟨g', cap', cur, h, hb, hh, hcp, hm, hs, ht⟩⟩ := h
  · cases h
  · injection h with h2 _ h3
    injection h2 with h2
    injection h2 with h2 _ _
    subst h2 h3
    have hk : Blk w g cur e := hh
    refine ⟨by simpa using h1, .inr ⟨g, cap, cur.setIfInBounds i v, rfl, hb, hk.set i v, hcp, hm, by simpa using hs, ?_⟩⟩
    rw [← ht, Array.toList_setIfInBounds, List.take_set]
/-- A list of texts that a call hands back. -/
def Tx (w : World) (base : Nat) (v : Value) (L : List (List UInt8)) : Prop :=
  ∃ g cap, v = .slice (some ⟨g, 0, none⟩) L.length cap ∧ base ≤ g ∧ g < w.heap.size ∧ ∀ k, k < L.length → w.cell? ⟨g, k, none⟩ = some (.string (bs (L.getD k [])))
theorem Tx.below {w w' : World} {base : Nat} {v : Value} {L : List (List UInt8)} {B : Nat} (h : Tx w base v L) (hb : Below B w w') (hB : w.heap.size ≤ B) : Tx w' base v L := by
  obtain ⟨g, cap, hv, h1, h2, h3⟩ := h
  exact ⟨g, cap, hv, h1, Nat.lt_of_lt_of_le h2 hb.size, fun k hk => (hb.cell (p := ⟨g, k, none⟩) (Nat.lt_of_lt_of_le h2 hB)).trans (h3 k hk)⟩
def sv (L : List (List UInt8)) : List Value := L.map fun p => Value.string (bs p)
theorem sv_at (L : List (List UInt8)) (k : Nat) (h : k < L.length) : (sv L)[k]? = some (.string (bs (L.getD k []))) := by
  rw [sv, List.getElem?_map, List.getElem?_eq_getElem h, List.getD_eq_getElem?_getD, List.getElem?_eq_getElem h]
  rfl
theorem own_cell {w : World} {base g n cap : Nat} {e : TypeId} {xs : List Value} (h : w.ownsRow base e 1 (.slice (some ⟨g, 0, none⟩) n cap) n xs) (k : Nat) (hk : k < n) : w.cell? ⟨g, k, none⟩ = xs[k]? ∧ w.frozen? ⟨g, k, none⟩ = false ∧ g < w.heap.size ∧ base ≤ g := by
  obtain ⟨h1, ⟨h, _⟩ | ⟨g', cap', cur, h, hb, hh, hcp, hm, hs, ht⟩⟩ := h
  · cases h
  · injection h with h2 _ h3
    injection h2 with h2
    injection h2 with h2 _ _
    subst h2 h3
    have hk' : Blk w g cur e := hh
    refine ⟨?_, hk'.free k, hk'.lt, hb⟩
    have hkc : k < cur.size := by omega
    rw [hk'.cell k cur[k] (by simp [hkc]), ← ht, List.getElem?_take_of_lt (by omega)]
    simp [hkc]
theorem Tx.own {w : World} {base : Nat} {v : Value} {L : List (List UInt8)} (h : w.ownsRow base 9 1 v L.length (sv L)) (h0 : 0 < L.length) : Tx w base v L := by
  obtain ⟨g, cap, rfl, hb, hlt⟩ := h.form h0
  exact ⟨g, cap, rfl, hb, hlt, fun k hk => (own_cell h k hk).1.trans (sv_at L k hk)⟩

theorem bs_slice (l : List UInt8) (i j : Nat) (hij : i ≤ j) (hj : j ≤ l.length) (w : World) :
    (Instr.slice 9 (.string (bs l)) (some (.int .i64 (i : Int))) (some (.int .i64 (j : Int))) none).run Tryz.prog w = .ok (.string (bs ((l.take j).drop i))) w := by
  rw [run_slice_string w 9 (bs l) .i64 .i64 i j Tryz.underlying9 (by omega) (by omega) (by rw [bs_size]; omega)]
  congr 2
  apply ByteArray.ext
  apply Array.ext'
  simp [bs, List.take_drop]
  rw [show i + (j - i) = j by omega]

set_option maxRecDepth 20000 in
set_option maxRecDepth 20000 in
set_option maxHeartbeats 1000000 in
theorem rsplit_any (l : List UInt8) (hl : l.length ≤ 4294967281) (w : World) :
    Calls Tryz.prog 83 #[.string (bs l)] w fun e w' => ∃ v, e = .returned v ∧ Tx w' w.heap.size v (spl l) ∧ Below w.heap.size w w' := by
  have hsz : (bs l).size = l.length := rfl
  obtain ⟨i0, hi, hz0, hz1, hz2⟩ := info_parts' info9
  have HI := Lib.hid (fun i h wx => bs_at l i h wx)
  have hB1 : Below w.heap.size w (w.alloc (.cells (strs [[]]) 9)) := (Below.refl _ _).alloc (Nat.le_refl _) _
  have hO1 : (w.alloc (.cells (strs [[]]) 9)).ownsRow w.heap.size 9 1 (.slice (some ⟨w.heap.size, 0, none⟩) 1 1) 1 (sv [[]]) :=
    ⟨rfl, .inr ⟨w.heap.size, 1, strs [[]], rfl, Nat.le_refl _, blk_new _ _ _, Nat.le_refl _, by decide, rfl, rfl⟩⟩
  go_enter Tryz.func83, Tryz.ntmps83
  go_upto_region 3 with fail
  go_loopw [3, 4] (fun v i wr => ∃ (k : Nat), k ≤ l.length ∧ i = n64 k ∧ wr.ownsRow w.heap.size 9 1 v (spl (l.take k)).length (sv (spl (l.take k))) ∧ Below w.heap.size w wr) (fun _ i _ => l.length - (intOf i).toNat)
  case atStart => exact ⟨0, Nat.zero_le _, rfl, by exact hO1, hB1⟩
  case round =>
    obtain ⟨k, hk, rfl, hown, hB⟩ := hrel
    clear hO1 hB1
    by_cases hlt : k < l.length
    · obtain ⟨c, hc⟩ : ∃ c, c = l.getD k 0 := ⟨_, rfl⟩
      have hix := HI.out k hlt wr
      rw [← hc] at hix
      have htk : l.take (k + 1) = l.take k ++ [c] := by
        rw [List.take_add_one, List.getElem?_eq_getElem hlt, hc, List.getD_eq_getElem?_getD, List.getElem?_eq_getElem hlt]
        rfl
      have hne : 0 < (spl (l.take k)).length := by rw [spl_length]; omega
      have hle : (spl (l.take k)).length ≤ l.length + 1 := by rw [spl_length]; have := List.count_le_length (a := (46 : UInt8)) (l := l.take k); simp at this; omega
      obtain ⟨L, hL⟩ : ∃ L, L = spl (l.take k) := ⟨_, rfl⟩
      by_cases h46 : c = 46
      · have hn : spl (l.take (k + 1)) = L ++ [[]] := by rw [htk, spl_snoc, if_pos h46, hL]
        rw [← hL] at hown hle hne
        have HN := Lib.hid hn
        have HO := Lib.hid hown
        have q : ((c.toNat : Int) == 46) = true := by rw [h46]; rfl
        have HE := Lib.hid hle
        clear hn hown hL htk hc h46 hle
        go_wp2_with (at_builtin; refine wpList_append_own _ rfl (.tmp 16) (.tmp 17) 105 rfl w.heap.size 9 i0 _ 1 16 Tryz.underlying105 hi hz0 hz1 hz2 rfl (by decide) _ L.length _ rfl (HO.out.alloc _) ⟨wr.heap.size, 0, none⟩ 1 1 (sv [[]]) rfl rfl ?c1 ?c2 ?c3 ?c4 ?c5 ?_)
        case c1 => intro j u hj; rw [addr_add, Nat.zero_add]; exact (blk_new wr (strs [[]]) 9).cell j u (by simpa [strs, sv] using hj)
        case c2 => intro u hu; simp [sv] at hu; rw [hu]; rfl
        case c3 => have := HE.out; unfold maxLen; omega
        case c4 => have := HE.out; omega
        case c5 => have := hB.size; simp; omega
        · intro v' w3 hown' hgrow _
          have hB4 := (hB.alloc hB.size (.cells (strs [[]]) 9)).grown hgrow (by have := hB.size; simp; omega) (by intro g hg; obtain ⟨g', cp, e, h1, _⟩ := HO.out.form hne; rw [e] at hg; simp [Value.ownBlock] at hg; omega)
          have HW := Lib.hid hown'
          clear hown' hgrow
          go_wp2_with fail
          go_roundw
          case rel =>
            refine ⟨k + 1, by omega, by go_num, ?_, hB4⟩
            rw [HN.out]
            have := HW.out
            simpa [sv] using this
          case measure => simp [intOf]; omega
      · have hn : spl (l.take (k + 1)) = L.set (L.length - 1) (L.getD (L.length - 1) [] ++ [c]) := by rw [htk, spl_snoc_set _ _ h46, hL]
        rw [← hL] at hown hle hne
        obtain ⟨g, cap, rfl, hbg, hgl⟩ := hown.form hne
        obtain ⟨j, hj⟩ : ∃ j, L.length = j + 1 := ⟨L.length - 1, by omega⟩
        obtain ⟨hcell, hfree, _, _⟩ := own_cell hown j (by omega)
        rw [sv_at L j (by omega)] at hcell
        rw [show L.length - 1 = j by omega] at hn
        obtain ⟨p, hp⟩ : ∃ p, p = L.getD j [] := ⟨_, rfl⟩
        have hpl : p.length ≤ 4294967281 := by
          have hm : p ∈ spl (l.take k) := by
            rw [← hL, hp, List.getD_eq_getElem?_getD, List.getElem?_eq_getElem (by omega)]
            exact List.getElem_mem _
          have := spl_le _ p hm
          have h2 : (l.take k).length ≤ l.length := by simp; omega
          omega
        rw [← hp] at hcell hn
        have HN := Lib.hid hn
        have HO := Lib.hid hown
        have q : ((c.toNat : Int) == 46) = false := by
          have : c.toNat ≠ 46 := fun e => h46 (UInt8.toNat_inj.1 e)
          simp; omega
        have hcat : bs p ++ bs [c] = bs (p ++ [c]) := by
          apply ByteArray.ext
          apply Array.ext'
          simp [bs]
        have hsl := bs_slice l k (k + 1) (by omega) (by omega) { wr with drawn := wr.drawn + 1 }
        rw [show (l.take (k + 1)).drop k = [c] by rw [htk]; simp [List.drop_append, Nat.min_eq_left hk], show ((k + 1 : Nat) : Int) = (k : Int) + 1 by omega] at hsl
        have HSL := Lib.hid hsl
        clear hsl
        have e1 : (L.length : Int) - 1 = (j : Int) := by omega
        have e2 : j < L.length := by omega
        have e3 : (0 : Int) ≤ (j : Int) ∧ (j : Int) < (L.length : Int) := by omega
        have e4 : (bs p).size = p.length := rfl
        have e8 : ¬ 9223372036854775807 < p.length + 1 := by omega
        have e6 : (bs [c]).size = 1 := rfl
        have e5 : (l.length : Int) ≤ 4294967281 := by omega
        have w1 : IntKind.i64.wrap (j : Int) = j := IntWalk.i64_in _ (by omega)
        have w2 : IntKind.i64.wrap ((k : Int) + 1) = (k : Int) + 1 := IntWalk.i64_in _ (by omega)
        have hcell' : World.cell? { wr with drawn := wr.drawn + 1 } ⟨g, j, none⟩ = some (.string (bs p)) := hcell
        have hfree' : World.frozen? { wr with drawn := wr.drawn + 1 } ⟨g, j, none⟩ = false := hfree
        have HJ := Lib.hid hj
        clear hn hown hL htk hc h46 hle hp hj
        go_upto_region 7 with fail
        go_still_tail 13, (by kernel_rfl)
        refine still_slice_run rfl 9 (.tmp 25) (.tmp 26) (.tmp 28) rfl _ _ _ _ rfl rfl rfl ((run_sliceAt_string _ 9 _ _ _ _ Tryz.underlying9).trans HSL.out) ?_
        repeat still_step
        refine wpStill_nil ?_
        go_wp2
        have hO2 : (wr.setCell ⟨g, j, none⟩ (.string (bs (p ++ [c])))).drew.ownsRow w.heap.size 9 1 (.slice (some ⟨g, 0, none⟩) L.length cap) L.length ((sv L).set j (.string (bs (p ++ [c])))) := own_set HO.out j (.string (bs (p ++ [c])))
        have hB2 : Below w.heap.size w (wr.setCell ⟨g, j, none⟩ (.string (bs (p ++ [c])))).drew := (hB.setCell hbg _).drew
        go_roundw
        case rel =>
          refine ⟨k + 1, by omega, by go_num, ?_, hB2⟩
          rw [HN.out]
          simpa [sv] using hO2
        case measure => simp [intOf]; omega
    · obtain rfl : k = l.length := by omega
      rw [List.take_length] at hown
      have hT := Tx.own hown (by rw [spl_length]; omega)
      clear hown
      go_wp2
      go_ret
      exact ⟨_, rfl, hT, hB⟩
end Go.Proofs.YtgimmdnmndbcpaaGreatDoor
