/- The small functions of package window, and of its reference: what each call comes to. -/
import Derived.Test.YtfklkkckfikfoaaDoorChecked
import Derived.Test.YtfklkkckfikfoaaDoorJw
import Derived.WalkSpells
import Derived.WalkLawsBesides
import Derived.KernelRfl
import Derived.LaidEql
import Derived.Lib.Hide
import Derived.Deep.QuietTactic
import Derived.BigQuiet
import Derived.BigRegion
namespace Go.Proofs.YtfklkkckfikfoaaDoor
open Go.RowKit Jw

/-- An error that a package-level variable holds. -/
abbrev er (a : Addr) : Value := .iface 63 (.pointer (some a))
abbrev n64 (n : Int) : Value := .int .i64 n
abbrev pt (b : Nat) : Value := .pointer (some ⟨b, 0, none⟩)

section
variable {aR aW : Addr} {w : World} {b : Nat}

theorem within_neg (n most : Int) (hR : w.cell? ⟨0, 0, none⟩ = some (er aR)) (h : n < 0) :
    Calls Tryd.prog 32 #[n64 n, n64 most] w fun e w' => e = .returned (er aR) ∧ w = w' := by
  go_enter Tryd.func32, Tryd.ntmps32
  go_wp2
  go_ret
  exact ⟨rfl, rfl⟩
theorem within_over (n most : Int) (hW : w.cell? ⟨14, 0, none⟩ = some (er aW)) (h : 0 ≤ n) (h2 : most < n) :
    Calls Tryd.prog 32 #[n64 n, n64 most] w fun e w' => e = .returned (er aW) ∧ w = w' := by
  go_enter Tryd.func32, Tryd.ntmps32
  go_wp2
  go_ret
  exact ⟨rfl, rfl⟩
theorem within_ok (n most : Int) (h : 0 ≤ n) (h2 : n ≤ most) :
    Calls Tryd.prog 32 #[n64 n, n64 most] w fun e w' => e = .returned .nilIface ∧ w = w' := by
  go_enter Tryd.func32, Tryd.ntmps32
  go_wp2
  go_ret
  exact ⟨rfl, rfl⟩
theorem ask_neg (n most : Int) (h : n < 0) :
    Calls Tryd.prog 33 #[n64 n, n64 most] w fun e w' => e = .returned (n64 1) ∧ w = w' := by
  go_enter Tryd.func33, Tryd.ntmps33
  go_wp2
  go_ret
  exact ⟨rfl, rfl⟩
theorem ask_over (n most : Int) (h : 0 ≤ n) (h2 : most < n) :
    Calls Tryd.prog 33 #[n64 n, n64 most] w fun e w' => e = .returned (n64 15) ∧ w = w' := by
  go_enter Tryd.func33, Tryd.ntmps33
  go_wp2
  go_ret
  exact ⟨rfl, rfl⟩
theorem ask_ok (n most : Int) (h : 0 ≤ n) (h2 : n ≤ most) :
    Calls Tryd.prog 33 #[n64 n, n64 most] w fun e w' => e = .returned (n64 0) ∧ w = w' := by
  go_enter Tryd.func33, Tryd.ntmps33
  go_wp2
  go_ret
  exact ⟨rfl, rfl⟩

theorem sized_no (n : Int) (hR : w.cell? ⟨0, 0, none⟩ = some (er aR)) (h : n < 1 ∨ 65536 < n) :
    Calls Tryd.prog 31 #[n64 n] w fun e w' => e = .returned (.tuple #[n64 0, er aR]) ∧ ∃ k, w' = w.drewN k := by
  rcases h with h | h
  · go_enter Tryd.func31, Tryd.ntmps31
    go_wp2
    go_quiet (fail)
    go_wp2
    go_ret2
    exact ⟨rfl, _, rfl⟩
  · have h' : ¬ n < 1 := by omega
    go_enter Tryd.func31, Tryd.ntmps31
    go_wp2
    go_quiet (fail)
    go_wp2
    go_ret2
    exact ⟨rfl, _, rfl⟩
theorem sized_ok (n : Int) (h1 : 1 ≤ n) (h2 : n ≤ 65536) :
    Calls Tryd.prog 31 #[n64 n] w fun e w' => e = .returned (.tuple #[n64 n, .nilIface]) ∧ w = w' := by
  go_enter Tryd.func31, Tryd.ntmps31
  go_wp2
  go_ret2
  exact ⟨rfl, rfl⟩
theorem newS_ok (n : Int) (h1 : 1 ≤ n) (h2 : n ≤ 65536) :
    Calls Tryd.prog 13 #[n64 n] w fun e w' => e = .returned (.tuple #[pt w.heap.size, .nilIface]) ∧ w' = w.alloc (.cells #[n64 n, n64 0] 57) := by
  go_enter Tryd.func13, Tryd.ntmps13
  go_wp2_with (go_at_call 31; refine (sized_ok _ h1 h2).mono ?_; rintro e w' ⟨rfl, rfl⟩)
  go_ret2
  exact ⟨rfl, rfl⟩
theorem newS_no (n : Int) (hR : w.cell? ⟨0, 0, none⟩ = some (er aR)) (h : n < 1 ∨ 65536 < n) :
    Calls Tryd.prog 13 #[n64 n] w fun e w' => e = .returned (.tuple #[.pointer none, er aR]) ∧ ∃ k, w' = w.drewN k := by
  go_enter Tryd.func13, Tryd.ntmps13
  go_wp2_with (go_at_call 31; refine (sized_no _ hR h).mono ?_; rintro e w' ⟨rfl, k, rfl⟩)
  go_ret2
  exact ⟨rfl, _, rfl⟩
theorem newR_ok (n : Int) (h1 : 1 ≤ n) (h2 : n ≤ 65536) :
    Calls Tryd.prog 18 #[n64 n] w fun e w' => e = .returned (.tuple #[pt w.heap.size, .nilIface]) ∧ w' = w.alloc (.cells #[n64 n, n64 0, n64 0] 60) := by
  go_enter Tryd.func18, Tryd.ntmps18
  go_wp2_with (go_at_call 31; refine (sized_ok _ h1 h2).mono ?_; rintro e w' ⟨rfl, rfl⟩)
  go_ret2
  exact ⟨rfl, rfl⟩
theorem newR_no (n : Int) (hR : w.cell? ⟨0, 0, none⟩ = some (er aR)) (h : n < 1 ∨ 65536 < n) :
    Calls Tryd.prog 18 #[n64 n] w fun e w' => e = .returned (.tuple #[.pointer none, er aR]) ∧ ∃ k, w' = w.drewN k := by
  go_enter Tryd.func18, Tryd.ntmps18
  go_wp2_with (go_at_call 31; refine (sized_no _ hR h).mono ?_; rintro e w' ⟨rfl, k, rfl⟩)
  go_ret2
  exact ⟨rfl, _, rfl⟩
end
end Go.Proofs.YtfklkkckfikfoaaDoor
