/- 'int(uint(p) % m)' lies below m. -/
import Derived.IntWalk
import Derived.Laws.Bits64
namespace Jw
open Go Go.RowKit
theorem u64_range (p : Int) : 0 ≤ IntKind.u64.wrap p ∧ IntKind.u64.wrap p < 18446744073709551616 := by
  simp only [IntKind.wrap, IntKind.signed, IntKind.bits]
  simp
  omega
theorem u64_same (m : Int) (h : 0 ≤ m) (h2 : m < 18446744073709551616) : IntKind.u64.wrap m = m := by
  simp only [IntKind.wrap, IntKind.signed, IntKind.bits]
  simp
  omega
/-- 'int(uint(p) % m)'. -/
theorem umod_range (p m : Int) (h : 1 ≤ m) (h2 : m ≤ 4611686018427387904) : 0 ≤ wrap64 ((IntKind.u64.wrap p).tmod m) ∧ wrap64 ((IntKind.u64.wrap p).tmod m) < m := by
  have h1 := u64_range p
  rw [Int.tmod_eq_emod_of_nonneg h1.1]
  have k1 := Int.emod_nonneg (IntKind.u64.wrap p) (show m ≠ 0 by omega)
  have k2 := Int.emod_lt_of_pos (IntKind.u64.wrap p) (show 0 < m by omega)
  generalize IntKind.u64.wrap p % m = q at *
  rw [IntWalk.wrap64_in q ⟨by omega, by omega⟩]
  exact ⟨k1, k2⟩
end Jw
