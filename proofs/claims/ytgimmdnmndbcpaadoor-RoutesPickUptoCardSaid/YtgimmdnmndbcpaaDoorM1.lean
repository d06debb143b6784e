/- RoutesMany: what its calls come to. -/
import Derived.Test.YtgimmdnmndbcpaaDoorL1
set_option linter.unusedVariables false
set_option linter.unusedSimpArgs false
namespace Go.Proofs.YtgimmdnmndbcpaaDoor
open Go.RowKit Jw Lab Go.Shelf

/-- Routes of the one name "a", of these agents. -/
structure Mi (L : List Rt) (A : List Int) : Prop where
  ag : L.map Rt.ag = A
  nm : ∀ r ∈ L, r.nm = [97]
theorem Mi.len {L : List Rt} {A : List Int} (h : Mi L A) : L.length = A.length := by rw [← h.ag, List.length_map]
theorem Mi.isr {L : List Rt} {A : List Int} (h : Mi L A) (a : Int) {r : Rt} (hr : r ∈ L) : isR [97] a r = (r.ag == a) := by simp [isR, h.nm r hr]
theorem Mi.filt_a {L : List Rt} {A : List Int} (h : Mi L A) : L.filter (nmR [97]) = L := List.filter_eq_self.2 fun r hr => by simp [nmR, h.nm r hr]
theorem Mi.filt_b {L : List Rt} {A : List Int} (h : Mi L A) : L.filter (nmR [98]) = [] := List.filter_eq_nil_iff.2 fun r hr => by simp [nmR, h.nm r hr]
theorem Mi.cases {L : List Rt} {A : List Int} (h : Mi L A) (a : Int) : (A.contains a = false ∧ idx (isR [97] a) L = -1) ∨ ∃ (k : Nat) (r : Rt), A.contains a = true ∧ L[k]? = some r ∧ r.ag = a ∧ idx (isR [97] a) L = k := by
  unfold idx
  cases e : L.findIdx? (isR [97] a) with
  | none =>
    left
    refine ⟨?_, rfl⟩
    rw [List.findIdx?_eq_none_iff] at e
    rw [← h.ag]
    cases hc : (L.map Rt.ag).contains a with
    | false => rfl
    | true =>
      obtain ⟨r, hr, hra⟩ := List.mem_map.1 (List.contains_iff_mem.1 hc)
      have := e r hr
      rw [h.isr a hr, hra] at this
      simp at this
  | some k =>
    right
    rw [List.findIdx?_eq_some_iff_getElem] at e
    obtain ⟨hk, h1, _⟩ := e
    rw [h.isr a (List.getElem_mem hk)] at h1
    refine ⟨k, L[k], ?_, List.getElem?_eq_getElem hk, by simpa using h1, rfl⟩
    rw [← h.ag]
    exact List.contains_iff_mem.2 (List.mem_map.2 ⟨L[k], List.getElem_mem hk, by simpa using h1⟩)
/-- The agents behind a registration. -/
def addA (A : List Int) (a : Int) : List Int := if A.contains a = true then A else if A.length < 4 then A ++ [a] else A
theorem many_ask (a : Int) (h : 0 ≤ a) (h2 : a < 16) : askE [97] a = none := by
  have e : numOk a = true := by simp [numOk]; omega
  rw [askE, if_pos (by decide), if_pos e]
theorem many_reg {L : List Rt} {A : List Int} (h : Mi L A) (a : Int) (h0 : 0 ≤ a) (h2 : a < 16) (wt : Nat) :
    ∃ L', regL [97] a wt L = (if (A.contains a || decide (A.length < 4)) = true then none else some 1, L') ∧ Mi L' (addA A a) := by
  rw [regL, many_ask a h0 h2]
  simp only
  rcases h.cases a with ⟨hc, hi⟩ | ⟨k, r, hc, hk, hr, hi⟩
  · rw [hi, if_neg (by decide), h.filt_a, addA, hc, h.len]
    by_cases hl : A.length < 4
    · rw [if_neg (by omega), if_pos (show (false || decide (A.length < 4)) = true by simp [hl]), if_neg (by decide), if_pos hl]
      exact ⟨_, rfl, by rw [List.map_append, h.ag]; rfl, fun r hr => by
        rcases List.mem_append.1 hr with h1 | h1
        · exact h.nm r h1
        · rw [List.mem_singleton.1 h1]; rfl⟩
    · rw [if_pos (by omega), if_neg (show ¬ (false || decide (A.length < 4)) = true by simp [hl]), if_neg (by decide), if_neg hl]
      exact ⟨L, rfl, h⟩
  · rw [hi, if_pos (by omega), addA, if_pos hc, hc, if_pos (show (true || decide (A.length < 4)) = true from rfl)]
    refine ⟨_, rfl, ?_, fun x hx => ?_⟩
    · rw [Int.toNat_natCast, List.getD_eq_getElem?_getD, hk]
      rw [← h.ag]
      refine List.ext_getElem? fun j => ?_
      rw [List.getElem?_map, List.getElem?_map, List.getElem?_set]
      split
      · rename_i e
        subst e
        have hlt := (List.getElem?_eq_some_iff.1 hk).1
        rw [if_pos hlt, hk]
        rfl
      · rfl
    · rw [Int.toNat_natCast, List.getD_eq_getElem?_getD, hk] at hx
      rcases List.mem_or_eq_of_mem_set hx with h1 | h1
      · exact h.nm x h1
      · rw [h1]
        exact h.nm r (List.mem_of_getElem? hk)
theorem many_leave {L : List Rt} {A : List Int} (h : Mi L A) (hn : A.Nodup) (a : Int) (h0 : 0 ≤ a) (h2 : a < 16) :
    ∃ L' A', leaveL [97] a L = (if A.contains a = true then none else some 0, L') ∧ Mi L' A' ∧ A'.Nodup ∧ A'.length ≤ A.length ∧ ∀ x, x ∈ A' ↔ x ∈ A ∧ x ≠ a := by
  rw [leaveL, thereL, many_ask a h0 h2]
  simp only
  rcases h.cases a with ⟨hc, hi⟩ | ⟨k, r, hc, hk, hr, hi⟩
  · rw [hi, if_neg (by decide), hc, if_neg (by decide)]
    refine ⟨L, A, rfl, h, hn, Nat.le_refl _, fun x => ⟨fun hx => ⟨hx, fun e => ?_⟩, fun hx => hx.1⟩⟩
    subst e
    have := List.contains_iff_mem.2 hx
    rw [hc] at this
    simp at this
  · rw [hi, if_pos (by omega), hc, if_pos rfl]
    have hka : A[k]? = some a := by rw [← h.ag, List.getElem?_map, hk]; simp [hr]
    refine ⟨L.eraseIdx k, A.eraseIdx k, by simp, ⟨by rw [← map_erase, h.ag], fun x hx => h.nm x (List.mem_of_mem_eraseIdx hx)⟩, List.Nodup.sublist (List.eraseIdx_sublist _ _) hn, (List.eraseIdx_sublist _ _).length_le, fun x => ?_⟩
    rw [List.mem_eraseIdx_iff_getElem?]
    constructor
    · rintro ⟨i, hik, hx⟩
      refine ⟨List.mem_of_getElem? hx, fun e => hik ?_⟩
      subst e
      have h1 := (List.getElem?_eq_some_iff.1 hx)
      have h3 := (List.getElem?_eq_some_iff.1 hka)
      exact (List.getElem_inj hn).1 (h1.2.trans h3.2.symm)
    · rintro ⟨hx, hne⟩
      obtain ⟨i, hxi⟩ := List.mem_iff_getElem?.1 hx
      exact ⟨i, fun e => by subst e; rw [hka] at hxi; exact hne (Option.some.inj hxi).symm, hxi⟩
theorem addA_nodup {A : List Int} (h : A.Nodup) (a : Int) : (addA A a).Nodup := by
  unfold addA
  by_cases hc : A.contains a = true
  · rw [if_pos hc]; exact h
  · rw [if_neg hc]
    by_cases hl : A.length < 4
    · rw [if_pos hl]
      refine List.nodup_append.2 ⟨h, by simp, fun x hx y hy e => ?_⟩
      rw [List.mem_singleton.1 hy] at e
      subst e
      exact hc (List.contains_iff_mem.2 hx)
    · rw [if_neg hl]; exact h
theorem addA_mem {A : List Int} {P : Int → Prop} (h : ∀ x ∈ A, P x) {a : Int} (ha : P a) : ∀ x ∈ addA A a, P x := by
  unfold addA
  intro x hx
  split at hx
  · exact h x hx
  · split at hx
    · rcases List.mem_append.1 hx with h1 | h1
      · exact h x h1
      · rw [List.mem_singleton.1 h1]; exact ha
    · exact h x hx
theorem addA_len {A : List Int} (h : A.length ≤ 4) (a : Int) : (addA A a).length ≤ 4 := by
  unfold addA
  split
  · exact h
  · split
    · simp; omega
    · exact h
end Go.Proofs.YtgimmdnmndbcpaaDoor
