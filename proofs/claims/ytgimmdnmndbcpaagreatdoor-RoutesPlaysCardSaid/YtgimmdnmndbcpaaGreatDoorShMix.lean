/- A list that is turned place by place into another one. -/
set_option linter.unusedVariables false
set_option linter.unusedSimpArgs false
namespace Jw

/-- The first k of ys, the others of xs. -/
def mix {α : Type} (ys xs : List α) (k : Nat) : List α := ys.take k ++ xs.drop k

theorem mix_zero {α : Type} (ys xs : List α) : mix ys xs 0 = xs := by simp [mix]
theorem mix_full {α : Type} {ys xs : List α} (h : ys.length = xs.length) : mix ys xs ys.length = ys := by
  unfold mix
  rw [List.take_length, h, List.drop_length, List.append_nil]
theorem mix_length {α : Type} {ys xs : List α} (h : ys.length = xs.length) (k : Nat) (hk : k ≤ xs.length) : (mix ys xs k).length = xs.length := by
  simp [mix]; omega
theorem mix_at {α : Type} {ys xs : List α} (h : ys.length = xs.length) (k : Nat) (hk : k ≤ xs.length) (j : Nat) : (mix ys xs k)[j]? = if j < k then ys[j]? else xs[j]? := by
  unfold mix
  rw [List.getElem?_append]
  simp only [List.length_take, List.getElem?_take, List.getElem?_drop]
  have : min k ys.length = k := by omega
  rw [this]
  split
  · rfl
  · congr 1; omega
theorem mix_set {α : Type} {ys xs : List α} (h : ys.length = xs.length) (k : Nat) (hk : k < xs.length) (y : α) (hy : ys[k]? = some y) : (mix ys xs k).set k y = mix ys xs (k + 1) := by
  apply List.ext_getElem?
  intro j
  rw [List.getElem?_set, mix_at h k (by omega), mix_at h (k + 1) (by omega), mix_length h k (by omega)]
  by_cases e : k = j
  · subst e
    rw [if_pos rfl, if_pos hk, if_pos (by omega), hy]
  · rw [if_neg e]
    by_cases h1 : j < k
    · rw [if_pos h1, if_pos (by omega)]
    · rw [if_neg h1, if_neg (by omega)]
end Jw
