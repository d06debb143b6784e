/- What a row's list of sentinel errors gives: each variable holds a pointer of its own. -/
import Derived.LaidLaws
import Derived.ChangeShapes
namespace Jw
open Go

/-- A sentinel, as a row lists it. -/
abbrev sent (text : List UInt8) : DataW Unit := .iface "*errors.errorString" (.ptr (.agg [.lit (.string text)]))

/-- The closed facts on the types that a sentinel goes through. -/
structure SentTypes (P : Program) (ti tp te ts : TypeId) : Prop where
  hi : ∃ ms, P.underlying ti = some (.interface ms)
  hrow : ∀ u, P.typeName? 3 u = some "*errors.errorString" → u = tp
  hp : P.underlying tp = some (.pointer te)
  he : ∃ f : Field, P.underlying te = some (.struct #[f]) ∧ f.type = ts ∧ f.offset = 0
  hs : P.underlying ts = some .string
  hc : P.cellsOf te = 1
  hcs : P.cellsOf ts = 1

def sentOk (P : Program) (ti : TypeId) (x : String × List UInt8 × Nat) : Bool :=
  decide (P.globalNamed x.1 = some x.2.2) && decide ((P.globals[x.2.2]?).map (·.type) = some ti)

theorem sents_ind {P : Program} {W : World} {ti tp te ts : TypeId} (T : SentTypes P ti tp te ts) (rest : List (String × DataW Unit)) :
    ∀ (names : List (String × List UInt8 × Nat)) (ps : List MemPlace), DataW.LaidVars P W (names.map (fun x => (x.1, sent x.2.1)) ++ rest) ps → ps.Nodup →
      (∀ b off, MemPlace.cell b off ∈ ps → (∃ c t, W.heap[b]? = some (.cells c t (0, 0))) ∧ ∀ u v, W.cell? ⟨b, off, none⟩ = some (.iface u v) → Value.okWide P W .any 0 u v) →
      names.all (sentOk P ti) = true →
      ∃ A : Nat → Addr, (∀ i x, names[i]? = some x → W.cell? ⟨x.2.2, 0, none⟩ = some (.iface tp (.pointer (some (A i)))) ∧ (∃ c t, W.heap[(A i).block]? = some (.cells c t (0, 0))) ∧ (A i).spot = none ∧ MemPlace.cell (A i).block (A i).off ∈ ps) ∧
        (∀ i j, i < j → j < names.length → A i ≠ A j)
  | [], ps, _, _, _, _ => ⟨fun _ => default, fun i x h => by simp at h, fun i j _ h => by simp at h⟩
  | (n, text, g) :: names, ps, h, hnd, hrows, hall => by
    simp only [List.all_cons, Bool.and_eq_true] at hall
    obtain ⟨h0, hall⟩ := hall
    simp only [sentOk, Bool.and_eq_true, decide_eq_true_eq] at h0
    obtain ⟨g0, t0, cs0, f0, p0, q0, hg0, ht0, hv0, hd0, hq, e0⟩ := h
    obtain rfl := Option.some.inj (h0.1.symm.trans hg0)
    obtain rfl := Option.some.inj (h0.2.symm.trans ht0)
    subst e0
    obtain ⟨l0⟩ := cs0
    obtain ⟨ms, hi⟩ := T.hi
    obtain ⟨f, he, hft, hfo⟩ := T.he
    have ok0 : ∀ u v, l0 = [.iface u v] → Value.okWide P W .any 0 u v := fun u v e => by
      subst e
      exact (hrows g 0 (by simp [MemPlace.row])).2 u v (by simpa using World.var?_cell hg0 hv0 0)
    obtain ⟨a0, s0, rfl, hc0, _, _, rfl⟩ := errorString_of_trod hi T.hrow T.hp he hft hfo T.hs T.hc T.hcs hd0 ok0
    have hq' : DataW.LaidVars P W (names.map (fun x => (x.1, sent x.2.1)) ++ rest) q0 := hq
    obtain ⟨A, hA, hne⟩ := sents_ind T rest names q0 hq' (List.Nodup.sublist (List.sublist_append_right _ _) hnd) (fun b off hm => hrows b off (List.mem_append_right _ hm)) hall
    have hsp : a0.spot = none := by
      rcases hsp : a0.spot with _ | x
      · rfl
      · unfold World.cell? at hc0; rw [hsp] at hc0; split at hc0 <;> simp at hc0
    have hm0 : MemPlace.cell a0.block a0.off ∈ MemPlace.row ⟨g, 0, none⟩ [Value.iface tp (.pointer (some a0))].length ++ MemPlace.row a0 1 := List.mem_append_right _ (by simp [MemPlace.row])
    refine ⟨fun i => match i with | 0 => a0 | i + 1 => A i, ?_, ?_⟩
    · intro i x hx
      cases i with
      | zero =>
        simp only [List.getElem?_cons_zero, Option.some.injEq] at hx
        subst hx
        exact ⟨by simpa using World.var?_cell hg0 hv0 0, (hrows a0.block a0.off (List.mem_append_left _ hm0)).1, hsp, List.mem_append_left _ hm0⟩
      | succ i =>
        obtain ⟨k1, k2, k3, k4⟩ := hA i x (by simpa using hx)
        exact ⟨k1, k2, k3, List.mem_append_right _ k4⟩
    · intro i j hij hj
      cases j with
      | zero => omega
      | succ j =>
        have hj' : j < names.length := by simpa using hj
        cases i with
        | succ i => exact hne i j (by omega) hj'
        | zero =>
          intro e
          have e' : a0 = A j := e
          obtain ⟨_, _, _, k4⟩ := hA j names[j] (by simp [hj'])
          rw [← e'] at k4
          exact (List.nodup_append.1 hnd).2.2 _ hm0 _ k4 rfl

/-- The sentinels at the head of a row's list. -/
theorem sents {P : Program} {W : World} {ti tp te ts : TypeId} (T : SentTypes P ti tp te ts) (names : List (String × List UInt8 × Nat)) (rest : List (String × DataW Unit))
    (h : laidMet P (names.map (fun x => (x.1, sent x.2.1)) ++ rest) W) (hall : names.all (sentOk P ti) = true) :
    ∃ A : Nat → Addr, (∀ i x, names[i]? = some x → W.cell? ⟨x.2.2, 0, none⟩ = some (.iface tp (.pointer (some (A i)))) ∧ (∃ c t, W.heap[(A i).block]? = some (.cells c t (0, 0)))) ∧
      (∀ i j, i < names.length → j < names.length → i ≠ j → A i ≠ A j) := by
  obtain ⟨ps, hv, hnd, hrows⟩ := h
  obtain ⟨A, hA, hne⟩ := sents_ind T rest names ps hv hnd hrows hall
  refine ⟨A, fun i x hx => ⟨(hA i x hx).1, (hA i x hx).2.1⟩, fun i j hi hj hij => ?_⟩
  rcases Nat.lt_or_gt_of_ne hij with h | h
  · exact hne i j h hj
  · exact (hne j i h hi).symm
end Jw
