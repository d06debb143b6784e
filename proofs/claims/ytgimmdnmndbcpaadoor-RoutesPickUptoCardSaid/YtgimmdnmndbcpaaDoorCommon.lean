/- The closed facts that the rows of this seat share. -/
import Derived.Test.YtgimmdnmndbcpaaDoorCards
import Derived.Test.YtgimmdnmndbcpaaDoorTie
import Derived.Test.YtgimmdnmndbcpaaDoorRow
import Derived.Test.YtgimmdnmndbcpaaDoorLaid
import Derived.ChangeMaps5
import Derived.Test.YtgimmdnmndbcpaaDoorR4
set_option linter.unusedVariables false
set_option linter.unusedSimpArgs false
namespace Go.Proofs.YtgimmdnmndbcpaaDoor
open Go.ChangeShapes Go.WideShapes Go.ChangeAt Go.RowKit Jw Lab

theorem own : ownKnob Tryd.prog.godebug = none := by kernel_rfl
theorem star : "*" ++ "errors.errorString" = "*errors.errorString" := by decide
theorem sentTypes : SentTypes Tryd.prog 29 113 130 9 where
  hi := ⟨_, Tryd.underlying29⟩
  hrow := fun u h => typeName_ptr_named (nm := "errors.errorString") (by rw [star]; kernel_rfl) (by kernel_rfl) (by decide) u (by rw [star]; exact h)
  hp := Tryd.underlying113
  he := ⟨_, Tryd.underlying130, rfl, rfl⟩
  hs := Tryd.underlying9
  hc := by kernel_rfl
  hcs := by kernel_rfl
noncomputable def low : Nat := (World.holding Tryd.prog default ⟨#[], #[], []⟩).heap.size
/-- A row's list without its first variable. -/
theorem laid_tail {P : Program} {W : World} {x : String × DataW Unit} {l : List (String × DataW Unit)} (h : laidMet P (x :: l) W) : laidMet P l W := by
  obtain ⟨ps, hv, hnd, hrows⟩ := h
  obtain ⟨g, t, cs, fuel, p, q, _, _, _, _, hq, rfl⟩ := hv
  exact ⟨q, hq, List.Nodup.sublist (List.sublist_append_right _ _) hnd, fun b off hm => hrows b off (List.mem_append_right _ hm)⟩
/-- Go's own two tables, as cells. -/
def tabFirst : Array Value := (((List.replicate 128 240 ++ List.replicate 66 241 ++ List.replicate 30 2 ++ [19] ++ List.replicate 12 3 ++ [35] ++ List.replicate 2 3 ++ [52] ++ List.replicate 3 4 ++ [68] ++ List.replicate 11 241 : List Int)).map (Value.int .u8)).toArray
def tabRanges : Array Value := ((([128, 191, 160, 191, 128, 159, 144, 191, 128, 143] ++ List.replicate 22 0 : List Int)).map (Value.int .u8)).toArray
theorem max_len {W : World} (h : W.ShapedOpen Tryd.prog) : ∃ m, W.cell? ⟨6, 0, none⟩ = some (.int .i64 m) := Tryd.laysM219.s1_3 W h
/-- The errors' places, by their variables. -/
def adsOf (A : Nat → Addr) : Nat → Addr
  | 0 => A 3
  | 1 => A 1
  | 2 => A 4
  | 3 => A 0
  | _ => A 2
theorem gw_of {W : World} {A : Nat → Addr} (hsh : W.ShapedOpen Tryd.prog) (h3 : W.cell? ⟨3, 0, none⟩ = some (.iface 113 (.pointer (some (A 0))))) (h1 : W.cell? ⟨1, 0, none⟩ = some (.iface 113 (.pointer (some (A 1)))))
    (h4 : W.cell? ⟨4, 0, none⟩ = some (.iface 113 (.pointer (some (A 2))))) (h0 : W.cell? ⟨0, 0, none⟩ = some (.iface 113 (.pointer (some (A 3))))) (h2 : W.cell? ⟨2, 0, none⟩ = some (.iface 113 (.pointer (some (A 4)))))
    (hb : ∃ c t, W.heap[(A 2).block]? = some (.cells c t (0, 0))) : ∃ m, Gw (fun k => k < W.heap.size) W (adsOf A) m := by
  obtain ⟨m, hm⟩ := max_len hsh
  have hl : 6 < W.heap.size := block_lt_of_cell hm
  refine ⟨m, ⟨h4, hm, hb, hl⟩, fun i hi => ?_, fun k hk => by omega, ?_⟩
  · match i, hi with
    | 0, _ => exact h0
    | 1, _ => exact h1
    | 2, _ => exact h2
    | 3, _ => exact h3
  · obtain ⟨c, t, e⟩ := hb
    exact Blk.lt (cs := c) (t := t) e
end Go.Proofs.YtgimmdnmndbcpaaDoor
