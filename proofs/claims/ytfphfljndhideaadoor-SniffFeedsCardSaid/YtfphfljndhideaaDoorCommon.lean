/- The closed facts that the rows of this seat share. -/
import Derived.Test.YtfphfljndhideaaDoorCards
import Derived.Test.YtfphfljndhideaaDoorTie
import Derived.Test.YtfphfljndhideaaDoorRow
import Derived.Test.YtfphfljndhideaaDoorLaid
import Derived.ChangeMaps5
import Derived.Test.YtfphfljndhideaaDoorA
set_option linter.unusedVariables false
set_option linter.unusedSimpArgs false
namespace Go.Proofs.YtfphfljndhideaaDoor
open Go.ChangeShapes Go.WideShapes Go.ChangeAt Go.RowKit Jw Lab

theorem own : ownKnob Tryd.prog.godebug = none := by kernel_rfl
theorem star : "*" ++ "errors.errorString" = "*errors.errorString" := by decide
theorem sentTypes : SentTypes Tryd.prog 28 83 99 9 where
  hi := ⟨_, Tryd.underlying28⟩
  hrow := fun u h => typeName_ptr_named (nm := "errors.errorString") (by rw [star]; kernel_rfl) (by kernel_rfl) (by decide) u (by rw [star]; exact h)
  hp := Tryd.underlying83
  he := ⟨_, Tryd.underlying99, rfl, rfl⟩
  hs := Tryd.underlying9
  hc := by kernel_rfl
  hcs := by kernel_rfl
noncomputable def low : Nat := (World.holding Tryd.prog default ⟨#[], #[], []⟩).heap.size
/-- A row's list without its first variable. -/
theorem laid_tail {P : Program} {W : World} {x : String × DataW Unit} {l : List (String × DataW Unit)} (h : laidMet P (x :: l) W) : laidMet P l W := by
  obtain ⟨ps, hv, hnd, hrows⟩ := h
  obtain ⟨g, t, cs, fuel, p, q, _, _, _, _, hq, rfl⟩ := hv
  exact ⟨q, hq, List.Nodup.sublist (List.sublist_append_right _ _) hnd, fun b off hm => hrows b off (List.mem_append_right _ hm)⟩
/-- Go's own two tables, as cells. -/
def tabFirst : Array Value := (((List.replicate 128 240 ++ List.replicate 66 241 ++ List.replicate 30 2 ++ [19] ++ List.replicate 12 3 ++ [35] ++ List.replicate 2 3 ++ [52] ++ List.replicate 3 4 ++ [68] ++ List.replicate 11 241 : List Int)).map (Value.int .u8)).toArray
def tabRanges : Array Value := ((([128, 191, 160, 191, 128, 159, 144, 191, 128, 143] ++ List.replicate 22 0 : List Int)).map (Value.int .u8)).toArray
theorem max_len {W : World} (h : W.ShapedOpen Tryd.prog) : ∃ m, W.cell? ⟨2, 0, none⟩ = some (.int .i64 m) := Tryd.laysM219.s1_3 W h
theorem gl_of {W : World} {A : Addr} (hsh : W.ShapedOpen Tryd.prog) (h0 : W.cell? ⟨0, 0, none⟩ = some (.iface 83 (.pointer (some A)))) (hb : ∃ c t, W.heap[A.block]? = some (.cells c t (0, 0))) : ∃ m, Gl W A m := by
  obtain ⟨m, hm⟩ := max_len hsh
  exact ⟨m, h0, hm, hb, by have := block_lt_of_cell hm; exact this⟩
/-- What the bound says of a text. -/
theorem bulk_one {H : Type} (d : DataW H) : 1 ≤ Rows.uptoBulk d := by
  cases d with
  | lit l => cases l <;> simp [Rows.uptoBulk]
  | nil => simp [Rows.uptoBulk]
  | ptr d => simp [Rows.uptoBulk]
  | slice elems spare => simp [Rows.uptoBulk]
  | agg parts => simp [Rows.uptoBulk]
  | iface t d => simp [Rows.uptoBulk]
  | map entries => simp [Rows.uptoBulk]
  | held h => simp [Rows.uptoBulk]
theorem bulk_part {H : Type} {d : DataW H} {l : List (DataW H)} (h : d ∈ l) : Rows.uptoBulk d ≤ Rows.uptoBulkAll l := by
  induction l with
  | nil => cases h
  | cons x r ih =>
    simp only [Rows.uptoBulkAll]
    cases List.mem_cons.1 h with
    | inl e => subst e; omega
    | inr e => have := ih e; omega
theorem bulk_text {H : Type} {s : ByteArray} {l : List (DataW H)} (h : Rows.uptoSmall H l = true) (hm : DataW.lit (.string s.data.toList) ∈ l) : s.data.toList.length ≤ 1048576 := by
  have h1 := of_decide_eq_true h
  have h2 := bulk_part hm
  have h3 : Rows.uptoBulk (DataW.lit (H := H) (.string s.data.toList)) = s.data.toList.length + 1 := by simp [Rows.uptoBulk]
  omega
end Go.Proofs.YtfphfljndhideaaDoor
