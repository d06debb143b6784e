/- From where it refuses; the chapter's example. -/
import Derived.Test.YtjjaghiihkdclaaDoorG
import Derived.LaidEql
set_option linter.unusedVariables false
set_option linter.unusedSimpArgs false
namespace Go.Proofs.YtjjaghiihkdclaaDoor
open Go.RowKit Jw

/-- A block whose first byte alone isn't 0. -/
def bl (x : Int) : List Int := x :: zer 63
theorem bl_length (x : Int) : (bl x).length = 64 := by simp [bl, zer]
theorem build_bl (x : Int) (w : World) : (Instr.build 31 #[(0, .int .u8 x)]).run Tryd.prog w = .ok (.agg (row (bl x))) w := run_build w 31 _ _ (by kernel_rfl)
theorem row_ne : ¬ row (zer 64) = #[] := by
  intro h
  have := congrArg Array.size h
  rw [row_size, zer_length] at this
  simp at this
theorem row_bl (x : Int) : (row (zer 64)).setIfInBounds 0 (.int .u8 x) = row (bl x) := by
  rfl
theorem get_put (L B : List Int) (i j n : Nat) (hl : L.length = n * 64) (hB : B.length = 64) (hi : i < n) (hj : j < n) : get (put L i B) j = if i = j then B else get L j := by
  by_cases h : i = j
  · subst h
    rw [if_pos rfl, get, put, List.drop_append, List.drop_of_length_le (by simp; omega), List.nil_append, show i * 64 - (L.take (i * 64)).length = 0 by simp; omega, List.drop_zero, List.take_append_of_le_length (by omega), List.take_of_length_le (by omega)]
  · rw [if_neg h, get, get, put]
    apply List.ext_getElem?
    intro k
    simp only [List.getElem?_take, List.getElem?_drop, List.getElem?_append, List.length_take]
    by_cases hk : k < 64
    · rw [if_pos hk, if_pos hk, Nat.min_eq_left (by omega)]
      by_cases h1 : j < i
      · rw [if_pos (by omega), if_pos (by omega)]
      · rw [if_neg (by omega), if_neg (by omega), hB]
        congr 1
        omega
    · rw [if_neg hk, if_neg hk]
theorem get_zer (n j : Nat) (hj : j < n) : get (zer (n * 64)) j = zer 64 := by
  rw [get, zer, List.drop_replicate, List.take_replicate, zer]
  congr 1
  omega
theorem store_new (w : World) (B : List Int) (hB : B.length = 64) :
    (Instr.storeAt 31 (.pointer (some ⟨w.heap.size, 0, none⟩)) (.agg (row B))).run Tryd.prog (w.alloc (.cells (row (zer 64)) 31)) = .ok () (w.alloc (.cells (row B) 31)) :=
  run_storeAt_new (P := Tryd.prog) w 31 (row (zer 64)) (row B) (by rw [size31, row_size, hB]) (by rw [row_size, row_size, hB, zer_length]) (row_one _)

section
variable {w : World} {aR aP : Addr}
theorem from_no (ao : Option Addr) (cap len : Nat) (hR : w.cell? ⟨0, 0, none⟩ = some (er aR)) (hl : len % 64 ≠ 0 ∨ len = 0 ∨ 262144 < len) (hl2 : len ≤ 9223372036854775807) :
    Calls Tryd.prog 17 #[.slice ao len cap] w fun e w' => e = .returned (.tuple #[.pointer none, er aR]) ∧ ∃ k, w' = w.drewN k := by
  have hq : ((len : Int)).tmod 64 = ((len % 64 : Nat) : Int) := by rw [Int.tmod_eq_emod_of_nonneg (by omega)]; omega
  have hq2 : ((len : Int)).tdiv 64 = ((len / 64 : Nat) : Int) := by rw [Int.tdiv_eq_ediv_of_nonneg (by omega)]; omega
  by_cases h0 : len % 64 = 0
  · have e0 : (((len % 64 : Nat) : Int) != 0) = false := by simp; omega
    obtain ⟨m, em⟩ : ∃ m, m = ((len / 64 : Nat) : Int) := ⟨_, rfl⟩
    obtain ⟨r, er'⟩ : ∃ r, r = ((len % 64 : Nat) : Int) := ⟨_, rfl⟩
    have hm : m < 1 ∨ 4096 < m := by omega
    have hm1 : 0 ≤ m := by omega
    have hm2 : m ≤ 9223372036854775807 := by omega
    rw [← em] at hq2
    rw [← er'] at hq e0
    clear h0 hl em er'
    go_enter Tryd.func17, Tryd.ntmps17
    go_wp2_with (go_at_call 9; refine (new_no _ _ aR hR hm).mono ?_; rintro e w1 ⟨rfl, k, rfl⟩)
    go_ret2
    exact ⟨rfl, _, rfl⟩
  · have e0 : (((len % 64 : Nat) : Int) != 0) = true := by simp; omega
    obtain ⟨r, er'⟩ : ∃ r, r = ((len % 64 : Nat) : Int) := ⟨_, rfl⟩
    rw [← er'] at hq e0
    clear h0 hl er' hq2
    go_enter Tryd.func17, Tryd.ntmps17
    go_wp2_with fail
    go_quiet (fail)
    go_wp2
    go_ret2
    exact ⟨rfl, _, rfl⟩
end
end Go.Proofs.YtjjaghiihkdclaaDoor
