/- The closed facts that the rows of this seat share. -/
import Derived.Test.YtgimmdnmndbcpaaGreatDoorCards
import Derived.Test.YtgimmdnmndbcpaaGreatDoorTie
import Derived.Test.YtgimmdnmndbcpaaGreatDoorRow
import Derived.Test.YtgimmdnmndbcpaaGreatDoorLaid
import Derived.ChangeMaps5
import Derived.Test.YtgimmdnmndbcpaaGreatDoorZn
set_option linter.unusedVariables false
set_option linter.unusedSimpArgs false
namespace Go.Proofs.YtgimmdnmndbcpaaGreatDoor
open Go.ChangeShapes Go.WideShapes Go.ChangeAt Go.RowKit Jw Lab

theorem own : ownKnob Tryz.prog.godebug = none := by kernel_rfl
theorem star : "*" ++ "errors.errorString" = "*errors.errorString" := by decide
theorem sentTypes : SentTypes Tryz.prog 37 126 143 9 where
  hi := ⟨_, Tryz.underlying37⟩
  hrow := fun u h => typeName_ptr_named (nm := "errors.errorString") (by rw [star]; kernel_rfl) (by kernel_rfl) (by decide) u (by rw [star]; exact h)
  hp := Tryz.underlying126
  he := ⟨_, Tryz.underlying143, rfl, rfl⟩
  hs := Tryz.underlying9
  hc := by kernel_rfl
  hcs := by kernel_rfl
noncomputable def low : Nat := (World.holding Tryz.prog default ⟨#[], #[], []⟩).heap.size
/-- A row's list without its first variable. -/
theorem laid_tail {P : Program} {W : World} {x : String × DataW Unit} {l : List (String × DataW Unit)} (h : laidMet P (x :: l) W) : laidMet P l W := by
  obtain ⟨ps, hv, hnd, hrows⟩ := h
  obtain ⟨g, t, cs, fuel, p, q, _, _, _, _, hq, rfl⟩ := hv
  exact ⟨q, hq, List.Nodup.sublist (List.sublist_append_right _ _) hnd, fun b off hm => hrows b off (List.mem_append_right _ hm)⟩
/-- Go's own two tables, as cells. -/
def tabFirst : Array Value := (((List.replicate 128 240 ++ List.replicate 66 241 ++ List.replicate 30 2 ++ [19] ++ List.replicate 12 3 ++ [35] ++ List.replicate 2 3 ++ [52] ++ List.replicate 3 4 ++ [68] ++ List.replicate 11 241 : List Int)).map (Value.int .u8)).toArray
def tabRanges : Array Value := ((([128, 191, 160, 191, 128, 159, 144, 191, 128, 143] ++ List.replicate 22 0 : List Int)).map (Value.int .u8)).toArray
theorem max_len {W : World} (h : W.ShapedOpen Tryz.prog) : ∃ m, W.cell? ⟨19, 0, none⟩ = some (.int .i64 m) := Tryz.laysM219.s1_3 W h
theorem gw_of {W : World} {A : Nat → Addr} (hsh : W.ShapedOpen Tryz.prog) (h : Sents W A) : ∃ m, Gw (fun k => k < W.heap.size) W A m := by
  obtain ⟨m, hm⟩ := max_len hsh
  have hl : 19 < W.heap.size := block_lt_of_cell hm
  obtain ⟨c, t, e⟩ := h.blk 9 (by decide)
  exact ⟨m, ⟨h.cell 9 (by decide), hm, ⟨c, t, e⟩, hl⟩, h.cell, fun k hk => by omega, Blk.lt (cs := c) (t := t) e⟩
end Go.Proofs.YtgimmdnmndbcpaaGreatDoor
