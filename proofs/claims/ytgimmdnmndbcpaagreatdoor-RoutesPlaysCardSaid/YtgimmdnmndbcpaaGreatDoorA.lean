/- Labels and names: what each call comes to. -/
import Derived.Test.YtgimmdnmndbcpaaGreatDoorChecked
import Derived.Test.YtgimmdnmndbcpaaGreatDoorJw
import Derived.Test.YtgimmdnmndbcpaaGreatDoorPl
import Derived.Test.YtgimmdnmndbcpaaGreatDoorShelf
import Derived.WalkSpells
import Derived.WalkLawsBesides
import Derived.KernelRfl
import Derived.LaidEql
import Derived.Lib.Hide
import Derived.Deep.QuietTactic
import Derived.BigQuiet
import Derived.BigRegion
import Derived.Deep.MidRow
import Derived.StillTailTactics
set_option linter.unusedVariables false
set_option linter.unusedSimpArgs false
namespace Go.Proofs.YtgimmdnmndbcpaaGreatDoor
open Go.RowKit Jw Lab

abbrev n64 (n : Int) : Value := .int .i64 n
/-- A text. -/
def bs (l : List UInt8) : ByteArray := ⟨⟨l⟩⟩
theorem bs_size (l : List UInt8) : (bs l).size = l.length := rfl
theorem bs_list (l : List UInt8) : (bs l).data.toList = l := rfl
theorem bs_of (s : ByteArray) : bs s.data.toList = s := rfl

theorem byte_any (c : UInt8) (w : World) : Calls Tryz.prog 87 #[.int .u8 c.toNat] w fun e w' => e = .returned (.bool (byOk c)) ∧ w = w' := by
  have hlt := c.toNat_lt
  go_enter Tryz.func87, Tryz.ntmps87
  go_wp2
  all_goals
    go_ret
    refine ⟨congrArg (fun b => Ending.returned (Value.bool b)) (?_ : _ = byOk c), rfl⟩
    rw [Bool.eq_iff_iff]
    simp [byOk]
    omega

theorem bs_at (l : List UInt8) (i : Nat) (h : i < l.length) (w : World) : (Instr.index 9 (.string (bs l)) (.int .i64 (i : Int))).run Tryz.prog w = .ok (.int .u8 (l.getD i 0).toNat) w := by
  rw [run_index_string w 9 (bs l) .i64 i Tryz.underlying9, dif_pos ⟨by omega, by rw [bs_size]; omega⟩]
  congr 2
  rw [List.getD_eq_getElem?_getD, List.getElem?_eq_getElem h]
  rfl

theorem label_any (l : List UInt8) (hl : l.length ≤ 9223372036854775807) (w : World) : Calls Tryz.prog 81 #[.string (bs l)] w fun e w' => e = .returned (.bool (labOk l)) ∧ w = w' := by
  have hsz : (bs l).size = l.length := rfl
  rcases Nat.lt_or_ge l.length 1 with h1 | h1
  · have hf : labOk l = false := by simp [labOk]; omega
    go_enter Tryz.func81, Tryz.ntmps81
    go_wp2
    go_ret
    exact ⟨rfl, rfl⟩
  rcases Nat.lt_or_ge 16 l.length with h2 | h2
  · have h1' : ¬ (l.length : Int) < 1 := by omega
    have hf : labOk l = false := by simp [labOk]; omega
    go_enter Tryz.func81, Tryz.ntmps81
    go_wp2
    go_ret
    exact ⟨rfl, rfl⟩
  have hi0 : (Instr.index 9 (.string (bs l)) (.int .i64 0)).run Tryz.prog w = .ok (.int .u8 (l.getD 0 0).toNat) w := bs_at l 0 h1 w
  have hi1 := bs_at l (l.length - 1) (by omega) w
  have e1 : ((l.length - 1 : Nat) : Int) = (l.length : Int) - 1 := by omega
  rw [e1] at hi1
  have t1 : decide ((l.length : Int) < 1) = false := by simp; omega
  have t2 : decide (16 < (l.length : Int)) = false := by simp; omega
  have g0 : l.headD 0 = l.getD 0 0 := by cases l <;> simp
  have g1 : l.getLastD 0 = l.getD (l.length - 1) 0 := by
    rw [List.getD_eq_getElem?_getD, ← List.getLast?_eq_getElem?, List.getLastD_eq_getLast?]
  have hlab : labOk l = (!decide (l.getD 0 0 = 45) && !decide (l.getD (l.length - 1) 0 = 45) && l.all byOk) := by
    unfold labOk
    rw [g0, g1, decide_eq_true h1, decide_eq_true h2]
    rfl
  generalize l.getD 0 0 = x0 at *
  generalize l.getD (l.length - 1) 0 = x1 at *
  have eq45 : ∀ x : UInt8, x = 45 ↔ x.toNat = 45 := fun x => by rw [← UInt8.toNat_inj]; rfl
  rw [show (decide (x0 = 45)) = decide (x0.toNat = 45) by simp [eq45], show (decide (x1 = 45)) = decide (x1.toNat = 45) by simp [eq45]] at hlab
  generalize x0.toNat = y0 at *
  generalize x1.toNat = y1 at *
  clear g0 g1 eq45 e1 x0 x1
  by_cases hy0 : y0 = 45
  · have hf : labOk l = false := by rw [hlab]; simp [hy0]
    have q0 : ((y0 : Int) == 45) = true := by simp; omega
    clear hlab hy0
    go_enter Tryz.func81, Tryz.ntmps81
    go_wp2
    go_ret
    exact ⟨by first | rfl | (rw [hf]; rfl), rfl⟩
  have q0 : ((y0 : Int) == 45) = false := by simp; omega
  by_cases hy1 : y1 = 45
  · have hf : labOk l = false := by rw [hlab]; simp [hy1]
    have q1 : ((y1 : Int) == 45) = true := by simp; omega
    clear hlab hy1 hy0
    go_enter Tryz.func81, Tryz.ntmps81
    go_wp2
    go_ret
    exact ⟨by first | rfl | (rw [hf]; rfl), rfl⟩
  have q1 : ((y1 : Int) == 45) = false := by simp; omega
  have hlab2 : labOk l = l.all byOk := by rw [hlab]; simp [hy0, hy1]
  have HL := Lib.hid hlab2
  have HI := Lib.hid (fun i h => bs_at l i h w)
  have L1 : decide ((0 : Int) < (l.length : Int)) = true := by simp; omega
  clear hlab hlab2 hy0 hy1
  go_enter Tryz.func81, Tryz.ntmps81
  go_upto_region 4 with fail
  clear hi0 hi1 q0 q1 t1 t2 L1
  go_loopw [27] (fun i wr => ∃ (k : Nat), k ≤ l.length ∧ i = n64 k ∧ (∀ j, j < k → byOk (l.getD j 0) = true) ∧ wr = w) (fun i _ => l.length - (intOf i).toNat)
  case atStart => exact ⟨0, by omega, rfl, fun j h => by omega, rfl⟩
  case round =>
    obtain ⟨k, hk, rfl, hall, rfl⟩ := hrel
    have HA := Lib.hid hall
    clear hall
    by_cases hlt : k < l.length
    · have hix := HI.out k hlt
      obtain ⟨x, hx⟩ : ∃ x, x = l.getD k 0 := ⟨_, rfl⟩
      rw [← hx] at hix
      have hmem : x ∈ l := by
        rw [hx, List.getD_eq_getElem?_getD, List.getElem?_eq_getElem hlt]
        exact List.getElem_mem _
      have hc := byte_any x wr
      have ck : ((k : Int) + 1) ≤ 16 := by omega
      have HX := Lib.hid hx
      clear hx
      cases hb : byOk x with
      | false =>
        have hf : labOk l = false := by
          rw [HL.out, List.all_eq_false]
          exact ⟨x, hmem, by simp [hb]⟩
        rw [hb] at hc
        have HC := Lib.hid hc
        clear hb hmem hc
        go_wp2_with (go_at_call 87; refine HC.out.mono ?_; rintro e w' ⟨rfl, rfl⟩)
        go_ret
        exact ⟨by first | rfl | (rw [hf]; rfl), rfl⟩
      | true =>
        rw [hb] at hc
        have HB := Lib.hid hb
        have HC := Lib.hid hc
        clear hb hmem hc
        go_wp2_with (go_at_call 87; refine HC.out.mono ?_; rintro e w' ⟨rfl, rfl⟩)
        go_roundw
        case rel =>
          refine ⟨k + 1, by omega, by go_num, fun j hj => ?_, trivial⟩
          rcases Nat.lt_or_ge j k with h | h
          · exact HA.out j h
          · rw [show j = k by omega, ← HX.out]; exact HB.out
        case measure => simp [intOf]; omega
    · obtain rfl : k = l.length := by omega
      have hf : labOk l = true := by
        rw [HL.out, List.all_eq_true]
        intro x hx
        obtain ⟨j, hj, rfl⟩ := List.getElem_of_mem hx
        have := HA.out j hj
        rw [List.getD_eq_getElem?_getD, List.getElem?_eq_getElem hj] at this
        exact this
      go_wp2
      go_ret
      exact ⟨by first | rfl | (rw [hf]; rfl), rfl⟩

/-- What a list of texts lies as. -/
def strs (L : List (List UInt8)) : Array Value := (L.map fun p => Value.string (bs p)).toArray
theorem strs_size (L : List (List UInt8)) : (strs L).size = L.length := by simp [strs]
theorem strs_at (L : List (List UInt8)) (k : Nat) (h : k < L.length) : (strs L)[k]? = some (.string (bs (L.getD k []))) := by
  rw [strs, List.getElem?_toArray, List.getElem?_map, List.getElem?_eq_getElem h, List.getD_eq_getElem?_getD, List.getElem?_eq_getElem h]
  rfl

theorem splitB_strs (l : List UInt8) : ((Lib.splitB ⟨#[46]⟩ 0 (Lib.countB (bs l) ⟨#[46]⟩) (bs l)).map Value.string).toArray = strs (spl l) ∧ Lib.countB (bs l) ⟨#[46]⟩ + 1 = (spl l).length := by
  have hc : Lib.countB (bs l) ⟨#[46]⟩ = l.count 46 := Lib.count_one 46 l
  have hd := Lib.splitB_data ⟨#[46]⟩ 0 (Lib.countB (bs l) ⟨#[46]⟩) (bs l)
  rw [hc] at hd ⊢
  have hd' : (Lib.splitB ⟨#[46]⟩ 0 (l.count 46) (bs l)).map (·.data.toList) = spl l := hd.trans (splitK_spl l)
  refine ⟨?_, by rw [spl_length]⟩
  rw [strs, ← hd', List.map_map]
  rfl

/-- What lies at the program's variables. -/
structure Gl (w : World) (a : Addr) (m : Int) : Prop where
  name : w.cell? ⟨9, 0, none⟩ = some (.iface 126 (.pointer (some a)))
  mx : w.cell? ⟨19, 0, none⟩ = some (n64 m)
  blk : ∃ c t, w.heap[a.block]? = some (.cells c t (0, 0))
  low : 20 ≤ w.heap.size
theorem Gl.below {w w' : World} {a : Addr} {m : Int} {B : Nat} (h : Gl w a m) (hb : Below B w w') (hB : w.heap.size ≤ B) : Gl w' a m := by
  have hl := h.low
  refine ⟨(hb.cell (p := ⟨9, 0, none⟩) (by show 9 < B; omega)).trans h.name, (hb.cell (p := ⟨19, 0, none⟩) (by show 19 < B; omega)).trans h.mx, ?_, Nat.le_trans h.low hb.size⟩
  obtain ⟨c, t, e⟩ := h.blk
  have hlt : a.block < w.heap.size := Blk.lt (cs := c) (t := t) e
  exact ⟨c, t, by rw [hb.block _ (by omega)]; exact e⟩

theorem split_any (l : List UInt8) (hl : l.length < 4294967281) (m : Int) (w : World) (hm : w.cell? ⟨19, 0, none⟩ = some (n64 m)) :
    Calls Tryz.prog 80 #[.string (bs l), .string ⟨#[46]⟩] w fun e w' => e = .returned (.slice (some ⟨w.heap.size, 0, none⟩) (spl l).length (spl l).length) ∧ w' = w.alloc (.cells (strs (spl l)) 9) := by
  have h := Tryz.strings_Split (bs l) ⟨#[46]⟩ m w hl hm (by decide)
  rw [(splitB_strs l).1, (splitB_strs l).2] at h
  exact h

set_option maxRecDepth 20000 in
set_option maxHeartbeats 1000000 in
theorem name_any (l : List UInt8) (hl : l.length < 4294967281) (a : Addr) (m : Int) (w : World) (hg : Gl w a m) :
    Calls Tryz.prog 74 #[.string (bs l)] w fun e w' => e = .returned (.bool (nmOk l)) ∧ Below w.heap.size w w' := by
  have hsz : (bs l).size = l.length := rfl
  have HS := Lib.hid (split_any l hl m w hg.mx)
  have hn : 1 ≤ (spl l).length := by rw [spl_length]; omega
  have hn2 : (spl l).length ≤ l.length + 1 := by rw [spl_length]; have := List.count_le_length (a := (46 : UInt8)) (l := l); omega
  obtain ⟨L, hL⟩ : ∃ L, L = spl l := ⟨_, rfl⟩
  have hok : nmOk l = (decide (l.length ≤ 63) && decide (L.length ≤ 8) && L.all labOk) := by rw [hL]; rfl
  have hall : ∀ p ∈ L, p.length ≤ l.length := by rw [hL]; exact spl_le l
  rw [← hL] at HS hn hn2
  have HO := Lib.hid hok
  have HA := Lib.hid hall
  have hB : Below w.heap.size w (w.alloc (.cells (strs L) 9)) := (Below.refl _ _).alloc (Nat.le_refl _) _
  have HK := Lib.hid (blk_new w (strs L) 9)
  clear hg hok hL hall
  rcases Nat.lt_or_ge 63 l.length with h1 | h1
  · have hf : nmOk l = false := by rw [HO.out]; simp; omega
    go_enter Tryz.func74, Tryz.ntmps74
    go_wp2_with (go_at_call 80; refine HS.out.mono ?_; rintro e w' ⟨rfl, rfl⟩)
    go_ret
    exact ⟨by first | rfl | (rw [hf]; rfl), hB⟩
  rcases Nat.lt_or_ge 8 L.length with h2 | h2
  · have hf : nmOk l = false := by rw [HO.out]; simp; omega
    have h1' : decide (63 < (l.length : Int)) = false := by simp; omega
    go_enter Tryz.func74, Tryz.ntmps74
    go_wp2_with (go_at_call 80; refine HS.out.mono ?_; rintro e w' ⟨rfl, rfl⟩)
    go_ret
    exact ⟨by first | rfl | (rw [hf]; rfl), hB⟩
  have h1' : decide (63 < (l.length : Int)) = false := by simp; omega
  have h2' : decide (8 < (L.length : Int)) = false := by simp; omega
  have hlab : nmOk l = L.all labOk := by rw [HO.out, decide_eq_true h1, decide_eq_true h2]; rfl
  have HL := Lib.hid hlab
  have L1 : decide ((0 : Int) < (L.length : Int)) = true := by simp; omega
  clear hlab HO
  go_enter Tryz.func74, Tryz.ntmps74
  go_upto_region 5 with (go_at_call 80; refine HS.out.mono ?_; rintro e w' ⟨rfl, rfl⟩)
  clear h1' h2' L1 HS
  obtain ⟨W, hW⟩ : ∃ W, W = w.alloc (.cells (strs L) 9) := ⟨_, rfl⟩
  rw [← hW] at hB HK ⊢
  clear hW
  go_loopw [18] (fun i wr => ∃ (k : Nat), k ≤ L.length ∧ i = n64 k ∧ (∀ j, j < k → labOk (L.getD j []) = true) ∧ wr = W) (fun i _ => L.length - (intOf i).toNat)
  case atStart => exact ⟨0, by omega, rfl, fun j h => by omega, rfl⟩
  case round =>
    obtain ⟨k, hk, rfl, hall, rfl⟩ := hrel
    have HJ := Lib.hid hall
    clear hall
    by_cases hlt : k < L.length
    · have hix := HK.out.cell k _ (strs_at L k hlt)
      obtain ⟨p, hp⟩ : ∃ p, p = L.getD k [] := ⟨_, rfl⟩
      rw [← hp] at hix
      have hmem : p ∈ L := by
        rw [hp, List.getD_eq_getElem?_getD, List.getElem?_eq_getElem hlt]
        exact List.getElem_mem _
      have hc := label_any p (by have := HA.out p hmem; omega) wr
      have ck : ((k : Int) + 1) ≤ 16 := by omega
      have HX := Lib.hid hp
      clear hp
      cases hb : labOk p with
      | false =>
        have hf : nmOk l = false := by
          rw [HL.out, List.all_eq_false]
          exact ⟨p, hmem, by simp [hb]⟩
        rw [hb] at hc
        have HC := Lib.hid hc
        clear hb hmem hc
        go_wp2_with (go_at_call 81; refine HC.out.mono ?_; rintro e w' ⟨rfl, rfl⟩)
        go_ret
        exact ⟨by first | rfl | (rw [hf]; rfl), hB⟩
      | true =>
        rw [hb] at hc
        have HB := Lib.hid hb
        have HC := Lib.hid hc
        clear hb hmem hc
        go_wp2_with (go_at_call 81; refine HC.out.mono ?_; rintro e w' ⟨rfl, rfl⟩)
        go_roundw
        case rel =>
          refine ⟨k + 1, by omega, by go_num, fun j hj => ?_, trivial⟩
          rcases Nat.lt_or_ge j k with h | h
          · exact HJ.out j h
          · rw [show j = k by omega, ← HX.out]; exact HB.out
        case measure => simp [intOf]; omega
    · obtain rfl : k = L.length := by omega
      have hf : nmOk l = true := by
        rw [HL.out, List.all_eq_true]
        intro x hx
        obtain ⟨j, hj, rfl⟩ := List.getElem_of_mem hx
        have := HJ.out j hj
        rw [List.getD_eq_getElem?_getD, List.getElem?_eq_getElem hj] at this
        exact this
      go_wp2
      go_ret
      exact ⟨by first | rfl | (rw [hf]; rfl), hB⟩
end Go.Proofs.YtgimmdnmndbcpaaGreatDoor
