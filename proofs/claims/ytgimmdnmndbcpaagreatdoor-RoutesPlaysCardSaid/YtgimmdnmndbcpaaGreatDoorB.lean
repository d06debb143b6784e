/- Patterns: what each call comes to. -/
import Derived.Test.YtgimmdnmndbcpaaGreatDoorA
set_option linter.unusedVariables false
set_option linter.unusedSimpArgs false
namespace Go.Proofs.YtgimmdnmndbcpaaGreatDoor
open Go.RowKit Jw Lab

theorem cut_any (l : List UInt8) (w : World) :
    Calls Tryz.prog 73 #[.string (bs l)] w fun e w' => e = .returned (.tuple #[.string (bs (tl l)), .bool (wld l)]) ∧ w' = w := by
  have h : Calls Tryz.prog 79 #[.string (bs l), .string ⟨#[42, 46]⟩] w fun e w' => e = .returned (.tuple #[.string (bs (tl l)), .bool (wld l)]) ∧ w' = w := by
    have := Tryz.strings_CutPrefix (bs l) ⟨#[42, 46]⟩ w
    exact this
  have H := Lib.hid h
  clear h
  go_enter Tryz.func73, Tryz.ntmps73
  go_wp2_with (go_at_call 79; refine H.out.mono ?_; rintro e w' ⟨rfl, rfl⟩)
  go_ret2
  exact ⟨rfl, rfl⟩

theorem pat_any (l : List UInt8) (hl : l.length < 4294967281) (a : Addr) (m : Int) (w : World) (hg : Gl w a m) :
    Calls Tryz.prog 64 #[.string (bs l)] w fun e w' => e = .returned (.bool (patOk l)) ∧ Below w.heap.size w w' := by
  have hsz : (bs l).size = l.length := rfl
  have H1 := Lib.hid (cut_any l w)
  have H2 := Lib.hid (name_any (tl l) (Nat.lt_of_le_of_lt (tl_le l) hl) a m w hg)
  clear hg
  rcases Nat.lt_or_ge 63 l.length with h1 | h1
  · have hf : patOk l = false := by simp [patOk]; omega
    have h1' : decide ((l.length : Int) ≤ 63) = false := by simp; omega
    go_enter Tryz.func64, Tryz.ntmps64
    go_wp2_with (go_at_call 73; refine H1.out.mono ?_; rintro e w' ⟨rfl, rfl⟩)
    go_ret
    exact ⟨by first | rfl | (rw [hf]; rfl), Below.refl _ _⟩
  · have hf : patOk l = nmOk (tl l) := by simp [patOk, h1]
    have h1' : decide ((l.length : Int) ≤ 63) = true := by simp; omega
    have HF := Lib.hid hf
    clear hf
    go_enter Tryz.func64, Tryz.ntmps64
    go_wp2_with (first
      | (go_at_call 73; refine H1.out.mono ?_; rintro e w' ⟨rfl, rfl⟩)
      | (go_at_call 74; refine H2.out.mono ?_; rintro e w' ⟨rfl, hB⟩))
    go_ret
    exact ⟨by rw [HF.out]; rfl, hB⟩

/-- The error of a check. -/
def chk (b : Bool) (a : Addr) : Value := if b then .nilIface else .iface 126 (.pointer (some a))
theorem check_any (l : List UInt8) (hl : l.length < 4294967281) (a : Addr) (m : Int) (w : World) (hg : Gl w a m) :
    Calls Tryz.prog 45 #[.string (bs l)] w fun e w' => e = .returned (chk (patOk l) a) ∧ Below w.heap.size w w' := by
  have H1 := Lib.hid (pat_any l hl a m w hg)
  have HG := Lib.hid hg
  clear hg
  cases hb : patOk l with
  | true =>
    rw [hb] at H1
    clear hb
    go_enter Tryz.func45, Tryz.ntmps45
    go_wp2_with (go_at_call 64; refine H1.out.mono ?_; rintro e w' ⟨rfl, hB⟩)
    go_ret
    exact ⟨rfl, hB⟩
  | false =>
    rw [hb] at H1
    clear hb
    go_enter Tryz.func45, Tryz.ntmps45
    go_wp2_with (go_at_call 64; refine H1.out.mono ?_; rintro e w' ⟨rfl, hB⟩; have hn := (HG.out.below hB (Nat.le_refl _)).name)
    go_ret
    exact ⟨rfl, hB⟩
end Go.Proofs.YtgimmdnmndbcpaaGreatDoor
