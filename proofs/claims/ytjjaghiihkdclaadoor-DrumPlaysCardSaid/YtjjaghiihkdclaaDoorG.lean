/- From: what the call comes to. -/
import Derived.Test.YtjjaghiihkdclaaDoorF
import Derived.Lib.SlBytesRow
import Derived.Laws.Cover3
set_option linter.unusedVariables false
set_option linter.unusedSimpArgs false
namespace Go.Proofs.YtjjaghiihkdclaaDoor
open Go.RowKit Jw

theorem take_put (L Z : List Int) (k n : Nat) (hl : L.length = n * 64) (hk : k < n) : put (L.take (k * 64) ++ zer ((n - k) * 64)) k (get L k) = L.take ((k + 1) * 64) ++ zer ((n - (k + 1)) * 64) := by
  have e1 : (L.take (k * 64)).length = k * 64 := by simp; omega
  rw [put, List.take_append_of_le_length (by omega), List.take_of_length_le (by omega), ← List.append_assoc, show (k + 1) * 64 = k * 64 + 64 by omega, take_blk, List.drop_append, e1]
  congr 1
  rw [List.drop_of_length_le (by omega), List.nil_append, zer, List.drop_replicate, zer]
  congr 1
  omega

theorem size5 (w : World) : (Go.sizeOf 5).run Tryd.prog w = .ok 1 w := by
  obtain ⟨i0, hi, hz0, hz1, hz2⟩ := info_parts' info5
  simp [sizeOf, typeInfo, hi, hz1]
theorem get_cell (L : List Int) (k n : Nat) (hl : L.length = n * 64) (hk : k < n) (j : Nat) (v : Value) (hv : ((get L k).map (Value.int .u8))[j]? = some v) : j < 64 ∧ .int .u8 (L.getD (k * 64 + j) 0) = v := by
  have hj : j < 64 := by
    rcases Nat.lt_or_ge j 64 with h | h
    · exact h
    · rw [List.getElem?_eq_none (by simp [get]; omega)] at hv; cases hv
  refine ⟨hj, ?_⟩
  rw [List.getElem?_map, get, List.getElem?_take_of_lt hj, List.getElem?_drop, List.getElem?_eq_getElem (by omega)] at hv
  rw [List.getD_eq_getElem?_getD, List.getElem?_eq_getElem (by omega)]
  simpa using hv
section
variable {w : World}
set_option maxRecDepth 100000 in
set_option maxHeartbeats 1000000 in
theorem from_ok (ao : Option Addr) (cap n : Nat) (L : List Int) (hr : Rb w (.slice ao L.length cap) L) (hl : L.length = n * 64) (hn : 1 ≤ n) (hn2 : n ≤ 4096) (hcap : L.length ≤ cap) (hcap2 : cap ≤ 9223372036854775807) :
    Calls Tryd.prog 17 #[.slice ao L.length cap] w fun e w' => e = .returned (.tuple #[pt (w.heap.size + 1), .nilIface]) ∧ Dr w' (w.heap.size + 1) w.heap.size false false 0 n 0 L ∧ Below w.heap.size w w' := by
  obtain ⟨ao', cap', e1, hrd⟩ := hr
  obtain ⟨b', off, e2, hb', hc⟩ := hrd (by omega)
  obtain ⟨rfl, rfl⟩ : ao = ao' ∧ cap = cap' := by injection e1 with e1 e3 e4; exact ⟨e1, e4⟩
  subst e2
  have HC := Lib.hid hc
  have HL := Lib.hid hl
  clear hc hrd e1
  rw [hl] at hcap ⊢
  clear hl
  have hq : ((n : Int) * 64).tmod 64 = 0 := by rw [Int.tmod_eq_emod_of_nonneg (by omega)]; omega
  have hq2 : ((n : Int) * 64).tdiv 64 = n := by rw [Int.tdiv_eq_ediv_of_nonneg (by omega)]; omega
  have hcst : ((n * 64 : Nat) : Int) = (n : Int) * 64 := by omega
  rw [show Value.slice (some ⟨b', off, none⟩) (n * 64) cap = Value.slice (some ⟨b', off, none⟩) (n * 64) cap from rfl]
  go_enter Tryd.func17, Tryd.ntmps17
  go_wp2_with fail
  refine (new_ok _ n hn hn2).mono ?_
  rintro e w1 ⟨rfl, hd, hB, hz⟩
  have c3 := hd.d.cell 3 _ rfl
  have HD := Lib.hid hd
  have HZ := Lib.hid hz
  clear hd hz hq hq2 hcst
  go_wp2_with fail
  go_loopw [27] (fun i wr => ∃ (k : Nat), k ≤ n ∧ i = n64 k ∧ Dr wr (w.heap.size + 1) w.heap.size false false 0 n 0 (L.take (k * 64) ++ zer ((n - k) * 64)) ∧ Below w.heap.size w wr) (fun i _ => n - (intOf i).toNat)
  case atStart => exact ⟨0, Nat.zero_le _, rfl, by simpa using HD.out, hB⟩
  case round =>
    clear HD HZ c3 hB
    obtain ⟨k, hk, rfl, hd, hB⟩ := hrel
    have c3 := hd.d.cell 3 _ rfl
    by_cases hlt : k < n
    · have m1 : IntKind.i64.wrap ((k : Int) * 64) = (k : Int) * 64 := IntWalk.i64_in _ (by omega)
      have m2 : IntKind.i64.wrap ((k : Int) + 1) = (k : Int) + 1 := IntWalk.i64_in _ (by omega)
      have m3 : IntKind.i64.wrap (((k : Int) + 1) * 64) = ((k : Int) + 1) * 64 := IntWalk.i64_in _ (by omega)
      have hsl := fun W => Lib.run_slice_window (P := Tryd.prog) W 40 5 Tryd.underlying40 size5 b' off (n * 64) cap (k * 64) ((k + 1) * 64) (by omega) (by omega)
      rw [show ((k * 64 : Nat) : Int) = (k : Int) * 64 by omega, show (((k + 1) * 64 : Nat) : Int) = ((k : Int) + 1) * 64 by omega, show (k + 1) * 64 - k * 64 = 64 by omega] at hsl
      have hat := fun W => run_arrayAt (P := Tryd.prog) W 31 5 64 (some ⟨b', off + k * 64, none⟩) 64 (cap - k * 64) Tryd.underlying31 (Nat.le_refl _)
      have HD := Lib.hid hd
      clear hd
      go_upto_region 9 with fail
      go_still_tail 15, (by kernel_rfl)
      have hrange : World.rangeAt { wr with drawn := wr.drawn + 1 } b' (off + k * 64) ((get L k).map (Value.int .u8)) := by
        intro j v hv
        obtain ⟨h1, h2⟩ := get_cell L k n HL.out hlt j v hv
        rw [← h2]
        have := (hB.cell (p := ⟨b', off + (k * 64 + j), none⟩) hb').trans (HC.out (k * 64 + j) (by have := HL.out; omega))
        rw [← Nat.add_assoc] at this
        exact this
      have hload := run_loadAt_mid (P := Tryd.prog) _ b' (off + k * 64) 31 _ _ hrange Tryd.underlying31 rfl (by rw [size31]; simp [get_length L k n HL.out hlt])
      refine still_load_run rfl 31 (.tmp 42) rfl ⟨b', off + k * 64, none⟩ (.agg (row (get L k))) rfl hload ?_
      clear hload hrange
      repeat still_step
      refine wpStill_nil ?_
      obtain ⟨w3, hst, hp3⟩ := store_blk (w := { wr with drawn := wr.drawn + 1 }) (i := k) (B := get L k) (show Blk { wr with drawn := wr.drawn + 1 } w.heap.size _ 31 from HD.out.k) HD.out.len hlt (get_length L k n HL.out hlt)
      rw [take_put L [] k n HL.out hlt] at hp3
      have HST := Lib.hid hst
      have hd3 : Dr w3 (w.heap.size + 1) w.heap.size false false 0 n 0 (L.take ((k + 1) * 64) ++ zer ((n - (k + 1)) * 64)) :=
        ⟨hp3.keeps (show Blk { wr with drawn := wr.drawn + 1 } (w.heap.size + 1) _ 62 from HD.out.d) (by omega), hp3.blk, by
          have := HL.out
          simp [zer]; omega⟩
      have hB3 : Below w.heap.size w w3 := hp3.below (show Below w.heap.size w { wr with drawn := wr.drawn + 1 } from hB.drew) (Nat.le_refl _)
      have HD3 := Lib.hid hd3
      have HB3 := Lib.hid hB3
      clear hst hp3 hd3 hB3 hB c3 m1 m2 m3 hsl hat hcap
      refine wpList_store_run (w' := w3) rfl 31 (.tmp 44) (.tmp 43) rfl ⟨w.heap.size, k * 64, none⟩ (.agg (row (get L k))) rfl rfl HST.out ?_
      clear HST
      go_wp2
      go_roundw
      case rel => exact ⟨k + 1, by omega, by go_num, HD3.out, HB3.out⟩
      case measure => simp [intOf]; omega
    · obtain rfl : k = n := by omega
      have HD := Lib.hid hd
      clear hd
      go_wp2
      go_ret2
      refine ⟨rfl, ?_, hB⟩
      have := HD.out
      rw [Nat.sub_self, Nat.zero_mul, List.take_of_length_le (by rw [HL.out]; exact Nat.le_refl _)] at this
      simpa [zer] using this
end
end Go.Proofs.YtjjaghiihkdclaaDoor
