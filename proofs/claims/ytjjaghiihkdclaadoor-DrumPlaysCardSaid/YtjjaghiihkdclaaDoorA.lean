/- The small functions of package drum: what each call comes to. -/
import Derived.Test.YtjjaghiihkdclaaDoorChecked
import Derived.Test.YtjjaghiihkdclaaDoorJw
import Derived.WalkSpells
import Derived.WalkLawsBesides
import Derived.KernelRfl
import Derived.LaidEql
import Derived.Lib.Hide
import Derived.Deep.QuietTactic
import Derived.BigQuiet
import Derived.BigRegion
import Derived.Deep.MidRow
import Derived.StillTailTactics
set_option linter.unusedVariables false
set_option linter.unusedSimpArgs false
namespace Go.Proofs.YtjjaghiihkdclaaDoor
open Go.RowKit Jw

/-- An error that a package-level variable holds. -/
abbrev er (a : Addr) : Value := .iface 67 (.pointer (some a))
abbrev n64 (n : Int) : Value := .int .i64 n
abbrev pt (b : Nat) : Value := .pointer (some ⟨b, 0, none⟩)
/-- A row of bytes, as cells. -/
def row (L : List Int) : Array Value := (L.map (Value.int .u8)).toArray
/-- A row of bytes, by value. -/
abbrev bk (L : List Int) : Value := .agg (row L)

section
variable {aR aP : Addr} {w : World} {b g n : Nat} {off ar : Bool} {l wr i : Int}

theorem ask_off (h : Blk w b #[.bool true, .bool ar, n64 l, .slice (some ⟨g, 0, none⟩) n n, n64 wr] 62) (hP : w.cell? ⟨1, 0, none⟩ = some (er aP)) :
    Calls Tryd.prog 27 #[pt b, n64 i] w fun e w' => e = .returned (er aP) ∧ w = w' := by
  have h0 := h.cell 0 _ rfl
  clear h
  go_enter Tryd.func27, Tryd.ntmps27
  go_wp2
  go_ret
  exact ⟨rfl, rfl⟩
theorem ask_out (h : Blk w b #[.bool false, .bool ar, n64 l, .slice (some ⟨g, 0, none⟩) n n, n64 wr] 62) (hR : w.cell? ⟨0, 0, none⟩ = some (er aR)) (hi : i < 0 ∨ (n : Int) ≤ i) :
    Calls Tryd.prog 27 #[pt b, n64 i] w fun e w' => e = .returned (er aR) ∧ w = w' := by
  have h0 := h.cell 0 _ rfl
  have h3 := h.cell 3 _ rfl
  clear h
  rcases hi with hi | hi
  · go_enter Tryd.func27, Tryd.ntmps27
    go_wp2
    go_ret
    exact ⟨rfl, rfl⟩
  · have h' : ¬ i < 0 := by omega
    go_enter Tryd.func27, Tryd.ntmps27
    go_wp2
    go_ret
    exact ⟨rfl, rfl⟩
theorem ask_ok (h : Blk w b #[.bool false, .bool ar, n64 l, .slice (some ⟨g, 0, none⟩) n n, n64 wr] 62) (hi : 0 ≤ i) (hi2 : i < n) :
    Calls Tryd.prog 27 #[pt b, n64 i] w fun e w' => e = .returned .nilIface ∧ w = w' := by
  have h0 := h.cell 0 _ rfl
  have h3 := h.cell 3 _ rfl
  clear h
  go_enter Tryd.func27, Tryd.ntmps27
  go_wp2
  go_ret
  exact ⟨rfl, rfl⟩
theorem goes_no (h : Blk w b #[.bool off, .bool false, n64 l, .slice (some ⟨g, 0, none⟩) n n, n64 wr] 62) :
    Calls Tryd.prog 28 #[pt b] w fun e w' => e = .returned (.bool false) ∧ w = w' := by
  have h1 := h.cell 1 _ rfl
  clear h
  go_enter Tryd.func28, Tryd.ntmps28
  go_wp2
  go_ret
  exact ⟨rfl, rfl⟩
theorem goes_yes (h : Blk w b #[.bool off, .bool true, n64 0, .slice (some ⟨g, 0, none⟩) n n, n64 wr] 62) :
    Calls Tryd.prog 28 #[pt b] w fun e w' => e = .returned (.bool true) ∧ Put b #[.bool true, .bool true, n64 0, .slice (some ⟨g, 0, none⟩) n n, n64 wr] 62 w w' := by
  have h0 := h.cell 0 _ rfl
  have h1 := h.cell 1 _ rfl
  have h2 := h.cell 2 _ rfl
  have f0 := h.free 0
  go_enter Tryd.func28, Tryd.ntmps28
  go_wp2
  go_ret
  exact ⟨rfl, by exact (Put.self h).set 0 _⟩
theorem goes_less (h : Blk w b #[.bool off, .bool true, n64 l, .slice (some ⟨g, 0, none⟩) n n, n64 wr] 62) (hl : 0 < l) (hl2 : l ≤ 9223372036854775807) :
    Calls Tryd.prog 28 #[pt b] w fun e w' => e = .returned (.bool false) ∧ Put b #[.bool off, .bool true, n64 (l - 1), .slice (some ⟨g, 0, none⟩) n n, n64 wr] 62 w w' := by
  have h1 := h.cell 1 _ rfl
  have h2 := h.cell 2 _ rfl
  have f2 := h.free 2
  have hz : (l == 0) = false := by simp; omega
  go_enter Tryd.func28, Tryd.ntmps28
  go_wp2
  go_ret
  exact ⟨rfl, by exact (Put.self h).set 2 _⟩
theorem writes_any (h : Blk w b #[.bool off, .bool ar, n64 l, .slice (some ⟨g, 0, none⟩) n n, n64 wr] 62) :
    Calls Tryd.prog 13 #[pt b] w fun e w' => e = .returned (n64 wr) ∧ w = w' := by
  have h1 := h.cell 4 _ rfl
  clear h
  go_enter Tryd.func13, Tryd.ntmps13
  go_wp2
  go_ret
  exact ⟨rfl, rfl⟩
theorem off_any (h : Blk w b #[.bool off, .bool ar, n64 l, .slice (some ⟨g, 0, none⟩) n n, n64 wr] 62) :
    Calls Tryd.prog 14 #[pt b] w fun e w' => e = .returned (.bool off) ∧ w = w' := by
  have h1 := h.cell 0 _ rfl
  clear h
  go_enter Tryd.func14, Tryd.ntmps14
  go_wp2
  go_ret
  exact ⟨rfl, rfl⟩
theorem blocks_any (h : Blk w b #[.bool off, .bool ar, n64 l, .slice (some ⟨g, 0, none⟩) n n, n64 wr] 62) :
    Calls Tryd.prog 18 #[pt b] w fun e w' => e = .returned (n64 n) ∧ w = w' := by
  have h1 := h.cell 3 _ rfl
  clear h
  go_enter Tryd.func18, Tryd.ntmps18
  go_wp2
  go_ret
  exact ⟨rfl, rfl⟩
theorem arm_yes (h : Blk w b #[.bool off, .bool ar, n64 l, .slice (some ⟨g, 0, none⟩) n n, n64 wr] 62) (hi : 0 ≤ i) :
    Calls Tryd.prog 10 #[pt b, n64 i] w fun e w' => e = .returned (.tuple #[]) ∧ Put b #[.bool off, .bool true, n64 i, .slice (some ⟨g, 0, none⟩) n n, n64 wr] 62 w w' := by
  have h1 := h.cell 1 _ rfl
  have f1 := h.free 1
  have h2 := h.cell 2 _ rfl
  have f2 := h.free 2
  go_enter Tryd.func10, Tryd.ntmps10
  go_wp2
  go_end0
  exact ⟨rfl, by exact ((Put.self h).set 1 _).set 2 _⟩
theorem arm_no (h : Blk w b #[.bool off, .bool ar, n64 l, .slice (some ⟨g, 0, none⟩) n n, n64 wr] 62) (hi : i < 0) :
    Calls Tryd.prog 10 #[pt b, n64 i] w fun e w' => e = .returned (.tuple #[]) ∧ Put b #[.bool off, .bool false, n64 0, .slice (some ⟨g, 0, none⟩) n n, n64 wr] 62 w w' := by
  have h1 := h.cell 1 _ rfl
  have f1 := h.free 1
  have h2 := h.cell 2 _ rfl
  have f2 := h.free 2
  have hd : decide (0 ≤ i) = false := by simpa using hi
  go_enter Tryd.func10, Tryd.ntmps10
  go_wp2
  go_end0
  exact ⟨rfl, by exact ((Put.self h).set 1 _).set 2 _⟩
theorem on_any (h : Blk w b #[.bool off, .bool ar, n64 l, .slice (some ⟨g, 0, none⟩) n n, n64 wr] 62) :
    Calls Tryd.prog 15 #[pt b] w fun e w' => e = .returned (.tuple #[]) ∧ Put b #[.bool false, .bool false, n64 0, .slice (some ⟨g, 0, none⟩) n n, n64 wr] 62 w w' := by
  have h0 := h.cell 0 _ rfl
  have f0 := h.free 0
  have h1 := h.cell 1 _ rfl
  have f1 := h.free 1
  have h2 := h.cell 2 _ rfl
  have f2 := h.free 2
  go_enter Tryd.func15, Tryd.ntmps15
  go_wp2
  go_end0
  exact ⟨rfl, by exact (((Put.self h).set 0 _).set 1 _).set 2 _⟩
end
end Go.Proofs.YtjjaghiihkdclaaDoor
