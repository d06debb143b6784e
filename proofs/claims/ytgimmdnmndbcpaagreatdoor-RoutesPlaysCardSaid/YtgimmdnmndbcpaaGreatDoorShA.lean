/- The small functions of package share on doubles, and of its reference: what each call comes to. -/
import Derived.Test.YtgimmdnmndbcpaaGreatDoorD
import Derived.Test.YtgimmdnmndbcpaaGreatDoorJw
import Derived.Test.YtgimmdnmndbcpaaGreatDoorShFlt
import Derived.WalkSpells
import Derived.WalkLawsBesides
import Derived.KernelRfl
import Derived.Lib.Hide
import Derived.Deep.QuietTactic
import Derived.BigQuiet
import Derived.BigRegion
import Derived.Outline
set_option linter.unusedVariables false
set_option linter.unusedSimpArgs false
namespace Go.Proofs.YtgimmdnmndbcpaaGreatDoor
open Go.RowKit Jw

abbrev fl (w : Nat) : Value := .float .f64 w

theorem run_store_float {P : Program} {w : World} {a : Addr} {m : Mode} (k : FloatKind) (b : Nat) : (store a (.float k b) m).run P w = stored P w a (.float k b) m := run_store P w a _ m rfl

abbrev ord (x y : Nat) : Option Ordering := FloatKind.f64.format.order x y
/-- A double that is no number. -/
def nanW (w : Nat) : Bool := ord w w != some .eq

theorem isnan_any (x : Nat) (w : World) : Calls Tryz.prog 76 #[fl x] w fun e w' => e = .returned (.bool (nanW x)) ∧ w = w' := by
  go_enter Tryz.func76, Tryz.ntmps76
  go_wp2
  go_ret
  exact ⟨rfl, rfl⟩

/-- What a weight counts, by its bits. -/
def weightW (x : Nat) : Nat :=
  if nanW x = true then 0 else if (ord x 0 == some .lt || ord x 0 == some .eq) = true then 0 else if (ord x 4696837146684686336 == some .gt) = true then 4696837146684686336 else x

theorem weight_any (x : Nat) (w : World) : Calls Tryz.prog 75 #[fl x] w fun e w' => e = .returned (fl (weightW x)) ∧ w = w' := by
  have isn := isnan_any x
  cases h1 : nanW x with
  | true =>
    have e : weightW x = 0 := by simp [weightW, h1]
    rw [e]
    clear e
    go_enter Tryz.func75, Tryz.ntmps75
    go_wp2_with (go_at_call 76; refine (isn _).mono ?_; rintro e w' ⟨rfl, rfl⟩)
    go_ret
    exact ⟨rfl, rfl⟩
  | false =>
    cases h2 : (ord x 0 == some .lt || ord x 0 == some .eq) with
    | true =>
      have e : weightW x = 0 := by simp only [weightW, h1, h2]; rfl
      rw [e]
      clear e
      go_enter Tryz.func75, Tryz.ntmps75
      go_wp2_with (go_at_call 76; refine (isn _).mono ?_; rintro e w' ⟨rfl, rfl⟩)
      go_ret
      exact ⟨rfl, rfl⟩
    | false =>
      cases h3 : (ord x 4696837146684686336 == some .gt) with
      | true =>
        have e : weightW x = 4696837146684686336 := by simp only [weightW, h1, h2, h3]; rfl
        rw [e]
        clear e
        go_enter Tryz.func75, Tryz.ntmps75
        go_wp2_with (go_at_call 76; refine (isn _).mono ?_; rintro e w' ⟨rfl, rfl⟩)
        go_ret
        exact ⟨rfl, rfl⟩
      | false =>
        have e : weightW x = x := by simp only [weightW, h1, h2, h3]; rfl
        rw [e]
        clear e
        go_enter Tryz.func75, Tryz.ntmps75
        go_wp2_with (go_at_call 76; refine (isn _).mono ?_; rintro e w' ⟨rfl, rfl⟩)
        go_ret
        exact ⟨rfl, rfl⟩

theorem bits_run (b : Nat) (w : World) : (callFunc 57 #[fl b]).run Tryz.prog w = .ok (.value (.int .u64 b)) w := by kernel_rfl
theorem frombits_run (n : Int) (w : World) : (callFunc 88 #[.int .u64 n]).run Tryz.prog w = .ok (.value (fl n.toNat)) w := by kernel_rfl

/-- The bits without the sign. -/
def absW (x : Nat) : Nat := (bits BinOp.andNot IntKind.u64 (x : Int) 9223372036854775808).toNat

theorem abs_any (x : Nat) (w : World) : Calls Tryz.prog 82 #[fl x] w fun e w' => e = .returned (fl (absW x)) ∧ w = w' := by
  have h1 := bits_run
  have h2 := frombits_run
  go_enter Tryz.func82, Tryz.ntmps82
  go_wp2
  go_ret
  exact ⟨rfl, rfl⟩

def infW (x : Nat) : Bool := ord (absW x) 9218868437227405311 == some .gt

theorem isinf_any (x : Nat) (w : World) : Calls Tryz.prog 77 #[fl x, n64 0] w fun e w' => e = .returned (.bool (infW x)) ∧ w = w' := by
  go_enter Tryz.func77, Tryz.ntmps77
  go_wp2_with (go_at_call 82; refine (abs_any _ _).mono ?_; rintro e w' ⟨rfl, rfl⟩)
  go_ret
  exact ⟨rfl, rfl⟩

/-- What a turn counts, by its bits. -/
def turnW (x : Nat) : Nat := if nanW x = true then 0 else if infW x = true then 0 else x

theorem turn_any (x : Nat) (w : World) : Calls Tryz.prog 68 #[fl x] w fun e w' => e = .returned (fl (turnW x)) ∧ w = w' := by
  have isn := isnan_any x
  have inf := isinf_any x
  cases h1 : nanW x with
  | true =>
    have e : turnW x = 0 := by simp [turnW, h1]
    rw [e]
    clear e
    go_enter Tryz.func68, Tryz.ntmps68
    go_wp2_with (go_at_call 76; refine (isn _).mono ?_; rintro e w' ⟨rfl, rfl⟩)
    go_ret
    exact ⟨rfl, rfl⟩
  | false =>
    cases h2 : infW x with
    | true =>
      have e : turnW x = 0 := by simp only [turnW, h1, h2]; rfl
      rw [e]
      clear e
      go_enter Tryz.func68, Tryz.ntmps68
      go_wp2_with (first | (go_at_call 76; refine (isn _).mono ?_; rintro e w' ⟨rfl, rfl⟩) | (go_at_call 77; refine (inf _).mono ?_; rintro e w' ⟨rfl, rfl⟩))
      go_ret
      exact ⟨rfl, rfl⟩
    | false =>
      have e : turnW x = x := by simp only [turnW, h1, h2]; rfl
      rw [e]
      clear e
      go_enter Tryz.func68, Tryz.ntmps68
      go_wp2_with (first | (go_at_call 76; refine (isn _).mono ?_; rintro e w' ⟨rfl, rfl⟩) | (go_at_call 77; refine (inf _).mono ?_; rintro e w' ⟨rfl, rfl⟩))
      go_ret
      exact ⟨rfl, rfl⟩
end Go.Proofs.YtgimmdnmndbcpaaGreatDoor
