/- Scripts: a slice of pairs of ints that is read. -/
import Derived.Test.YtfklkkckfikfoaaDoorF
import Derived.Test.YtfklkkckfikfoaaDoorNum
namespace Go.Proofs.YtfklkkckfikfoaaDoor
open Go.RowKit Jw Jf Go.Deep

/-- A slice value reads as these pairs. -/
def Rd2 (w : World) (v : Value) (l : List (Int × Int)) : Prop :=
  ∃ (ao : Option Addr) (cap : Nat), v = .slice ao l.length cap ∧ (l.length ≠ 0 → ∃ b off, ao = some ⟨b, off, none⟩ ∧ b < w.heap.size ∧
    ∀ k, k < l.length → w.cell? ⟨b, off + k * 2, none⟩ = some (n64 (l.getD k (0, 0)).1) ∧ w.cell? ⟨b, off + k * 2 + 1, none⟩ = some (n64 (l.getD k (0, 0)).2))

/-- What the flow's state keeps to. -/
structure FS (S f h d c : Int) : Prop where
  f0 : 0 ≤ f
  h0 : 0 ≤ h
  d0 : 0 ≤ d
  c0 : 0 ≤ c
  le : f + h + d + c ≤ S
  s1 : 1 ≤ S
  s2 : S ≤ 3000

/-- '((x % m) + m) % m'. -/
theorem rem_range (x m : Int) (h : 1 ≤ m) (h2 : m ≤ 100000) : 0 ≤ (wrap64 (x.tmod m + m)).tmod m ∧ (wrap64 (x.tmod m + m)).tmod m < m := by
  have k1 := Int.lt_tmod_of_pos x (show 0 < m by omega)
  have k2 := Int.tmod_lt_of_pos x (show 0 < m by omega)
  generalize x.tmod m = q at *
  rw [IntWalk.wrap64_in (q + m) ⟨by omega, by omega⟩]
  exact ⟨Int.tmod_nonneg m (show 0 ≤ q + m by omega), Int.tmod_lt_of_pos (q + m) (show 0 < m by omega)⟩
end Go.Proofs.YtfklkkckfikfoaaDoor
