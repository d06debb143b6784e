/- A map from ints to bools that the call itself makes, in which each key holds true: as a list of its keys. -/
import Derived.Test.YtgimmdnmndbcpaaDoorL1
import Derived.Maps.OwnSet
import Derived.Maps.OwnOps
set_option linter.unusedVariables false
set_option linter.unusedSimpArgs false
namespace Go.Proofs.YtgimmdnmndbcpaaDoor
open Go.RowKit Jw Lab Go.Shelf Go.Maps

theorem law3 : Keyed Tryd.prog 3 := int_keyed Tryd.underlying3
theorem zero4 (w : World) : (zeroValue 4).run Tryd.prog w = .ok (.bool false) w := by kernel_rfl
theorem key3 (x : Int) (h : (Lit.int .i64 x).wf = true) : keyOf Tryd.prog 3 (n64 x) = some (.int .i64 x) := keyOf_int_mk Tryd.underlying3 h
/-- Block b is a map of at most n entries, written n times at most, that holds true at each of A's numbers, and nothing else. -/
def Sm (b n : Nat) (A : List Int) (w : World) : Prop :=
  ∃ D : DataW Unit, w.ownsMap Tryd.prog 3 (plainElem Tryd.prog 4) b n D ∧ Maps.size D = A.length ∧ ∀ x, (Lit.int .i64 x).wf = true → Maps.has D (.int .i64 x) = A.contains x ∧ D.atKey (.int .i64 x) (.lit (.bool false)) = .lit (.bool (A.contains x))
theorem sm_made (w : World) : Sm w.heap.size 0 [] (w.alloc (.map #[] 0)) := ⟨.map [], World.ownsMap_made _ _ _ _, rfl, fun x _ => ⟨rfl, rfl⟩⟩
theorem Sm.lt {b n : Nat} {A : List Int} {w : World} (h : Sm b n A w) : b < w.heap.size := by
  obtain ⟨D, ho, _⟩ := h
  exact ho.lt
theorem Sm.same {b n : Nat} {A : List Int} {w w' : World} (h : Sm b n A w) (hb : w'.heap[b]? = w.heap[b]?) : Sm b n A w' := by
  obtain ⟨D, ⟨es, clock, h1, F, hs, hD⟩, r⟩ := h
  exact ⟨D, ⟨es, clock, hb.trans h1, F, hs, hD⟩, r⟩
theorem Sm.fp {b n : Nat} {A : List Int} {w w' : World} {S : Nat → Prop} (h : Sm b n A w) (hf : Fp S w w') (hS : ¬ S b) : Sm b n A w' := h.same (hf.other b h.lt hS)
theorem Sm.look {b n : Nat} {A : List Int} {w : World} (h : Sm b n A w) (x : Int) (hx : (Lit.int .i64 x).wf = true) : (Instr.lookup 42 (.map (some b)) (n64 x) false).run Tryd.prog w = .ok (.bool (A.contains x)) w := by
  obtain ⟨D, ho, _, hk⟩ := h
  obtain ⟨v, ps, hrun, hv⟩ := ho.lookup law3 Tryd.underlying42 (zero4 w) (plainElem_bool Tryd.underlying4 false) (key3 x hx)
  rw [(hk x hx).2] at hv
  have : v = .bool (A.contains x) := by
    unfold plainElem at hv
    cases v <;> simp [Tryd.underlying4] at hv
    simp [hv.1]
  rw [this] at hrun
  exact hrun
theorem Sm.len {b n : Nat} {A : List Int} {w : World} (h : Sm b n A w) (ty : TypeId) : (Builtin.len_ #[42] ty #[.map (some b)]).run Tryd.prog w = .ok (n64 A.length) w := by
  obtain ⟨D, ho, hs, _⟩ := h
  rw [ho.len Tryd.underlying42 ty, hs]
theorem Sm.put {b n : Nat} {A : List Int} {w : World} (h : Sm b n A w) (hn : n < maxLen) (x : Int) (hx : (Lit.int .i64 x).wf = true) :
    ∃ w', (Instr.mapUpdate 42 (.map (some b)) (n64 x) (.bool true)).run Tryd.prog w = .ok () w' ∧ Sm b (n + 1) (if A.contains x = true then A else A ++ [x]) w' ∧ w.grownBy w' (some b) := by
  obtain ⟨D, ho, hs, hk⟩ := h
  have hkl := law3.key (key3 x hx)
  have hT := ho.tidy law3
  obtain ⟨w', hrun, ho', hg⟩ := ho.update law3 Tryd.underlying42 hn (key3 x hx) (plainElem_bool Tryd.underlying4 true)
  refine ⟨w', hrun, ⟨_, ho', ?_, fun y hy => ?_⟩, hg⟩
  · rw [size_put hT, (hk x hx).1, hs]
    split <;> simp
  · by_cases e : y = x
    · subst e
      rw [has_put_same hT.isMap hkl, atKey_put_same hT.isMap hkl]
      have : (if A.contains y = true then A else A ++ [y]).contains y = true := by
        split
        · assumption
        · simp
      rw [this]
      exact ⟨rfl, rfl⟩
    · have hne : (Lit.int .i64 y) ≠ (Lit.int .i64 x) := fun h => e (by injection h)
      rw [has_put_other hne, atKey_put_other hne, (hk y hy).1, (hk y hy).2]
      have : (if A.contains x = true then A else A ++ [x]).contains y = A.contains y := by
        split
        · rfl
        · simp [e]
      rw [this]
      exact ⟨rfl, rfl⟩
end Go.Proofs.YtgimmdnmndbcpaaDoor
