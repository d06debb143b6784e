/- The places of those of which something holds, and turns set at places: in plain Lean. -/
import Derived.Test.YtgimmdnmndbcpaaGreatDoorZ2
set_option linter.unusedVariables false
set_option linter.unusedSimpArgs false
namespace Go.Proofs.YtgimmdnmndbcpaaGreatDoor
open Go.RowKit Jw Lab Go.Shelf

def ix (q : Rt → Bool) : List Rt → Nat → List Nat
  | [], _ => []
  | r :: L, o => if q r = true then o :: ix q L (o + 1) else ix q L (o + 1)
theorem ix_snoc (q : Rt → Bool) (A : List Rt) (r : Rt) (o : Nat) : ix q (A ++ [r]) o = ix q A o ++ (if q r = true then [o + A.length] else []) := by
  induction A generalizing o with
  | nil => simp [ix]
  | cons x A ih =>
    rw [List.cons_append, ix, ix, ih (o + 1)]
    have e : o + 1 + A.length = o + (x :: A).length := by simp; omega
    rw [e]
    split
    · rw [List.cons_append]
    · rfl
theorem ix_len (q : Rt → Bool) (L : List Rt) (o : Nat) : (ix q L o).length = (L.filter q).length := by
  induction L generalizing o with
  | nil => rfl
  | cons r L ih =>
    rw [ix, List.filter_cons]
    cases h : q r with
    | true => rw [if_pos rfl, if_pos rfl, List.length_cons, List.length_cons, ih]
    | false => rw [if_neg (by decide), if_neg (by decide), ih]
theorem ix_at (q : Rt → Bool) (L : List Rt) (o j n : Nat) (h : (ix q L o)[j]? = some n) : ∃ m, n = o + m ∧ L[m]? = (L.filter q)[j]? ∧ m < L.length := by
  induction L generalizing o j with
  | nil => simp [ix] at h
  | cons r L ih =>
    rw [ix] at h
    rw [List.filter_cons]
    cases hq : q r with
    | true =>
      rw [hq, if_pos rfl] at h
      rw [if_pos rfl]
      cases j with
      | zero =>
        simp only [List.getElem?_cons_zero, Option.some.injEq] at h
        exact ⟨0, by omega, rfl, by simp⟩
      | succ j =>
        simp only [List.getElem?_cons_succ] at h
        obtain ⟨m, e, h1, h2⟩ := ih (o + 1) j h
        exact ⟨m + 1, by omega, by simpa using h1, by simp; omega⟩
    | false =>
      rw [hq, if_neg (by decide)] at h
      rw [if_neg (by decide)]
      obtain ⟨m, e, h1, h2⟩ := ih (o + 1) j h
      exact ⟨m + 1, by omega, by simpa using h1, by simp; omega⟩
/-- Turns set at places. -/
def setP : List (Nat × Nat) → List Rt → List Rt
  | [], L => L
  | x :: l, L => setP l (L.set x.1 (tnR x.2 (L.getD x.1 default)))
theorem setP_snoc (l : List (Nat × Nat)) (x : Nat × Nat) (L : List Rt) : setP (l ++ [x]) L = (setP l L).set x.1 (tnR x.2 ((setP l L).getD x.1 default)) := by
  induction l generalizing L with
  | nil => rfl
  | cons y l ih => rw [List.cons_append, setP, setP, ih]
theorem setP_len (l : List (Nat × Nat)) (L : List Rt) : (setP l L).length = L.length := by
  induction l generalizing L with
  | nil => rfl
  | cons y l ih => rw [setP, ih, List.length_set]
theorem tL_set_tn (L : List Rt) (i t : Nat) : tL (L.set i (tnR t (L.getD i default))) = tL L := by
  induction L generalizing i with
  | nil => rfl
  | cons r L ih =>
    cases i with
    | zero => rfl
    | succ i =>
      show tc r ++ tL (L.set i (tnR t (L.getD i default))) = tc r ++ tL L
      rw [ih]
theorem tL_setP (l : List (Nat × Nat)) (L : List Rt) : tL (setP l L) = tL L := by
  induction l generalizing L with
  | nil => rfl
  | cons y l ih => rw [setP, ih, tL_set_tn]
theorem tnL_set_tn (L : List Rt) (i t : Nat) : tnL (L.set i (tnR t (L.getD i default))) = (tnL L).set i (fl t) := by
  induction L generalizing i with
  | nil => rfl
  | cons r L ih =>
    cases i with
    | zero => rfl
    | succ i =>
      show fl r.tn :: tnL (L.set i (tnR t (L.getD i default))) = fl r.tn :: (tnL L).set i (fl t)
      rw [ih]
theorem setP_setT (q : Rt → Bool) (L : List Rt) (ts : List Nat) (P : List Rt) (h : ts.length = (L.filter q).length) : setP ((ix q L P.length).zip ts) (P ++ L) = P ++ setT q L ts := by
  induction L generalizing ts P with
  | nil => simp [ix, setP, setT]
  | cons r L ih =>
    rw [ix, setT]
    rw [List.filter_cons] at h
    cases hq : q r with
    | true =>
      rw [hq, if_pos rfl] at h
      rw [if_pos rfl, if_pos rfl]
      cases ts with
      | nil => simp at h
      | cons t ts =>
        rw [List.zip_cons_cons, setP]
        have e1 : (P ++ r :: L).getD P.length default = r := by simp
        have e2 : (P ++ r :: L).set P.length (tnR t r) = (P ++ [tnR t r]) ++ L := by simp
        rw [e1, e2]
        have := ih ts (P ++ [tnR t r]) (by simpa using h)
        rw [show (P ++ [tnR t r]).length = P.length + 1 by simp] at this
        rw [this]
        simp
    | false =>
      rw [hq, if_neg (by decide)] at h
      rw [if_neg (by decide), if_neg (by decide)]
      have e2 : P ++ r :: L = (P ++ [r]) ++ L := by simp
      have := ih ts (P ++ [r]) h
      rw [show (P ++ [r]).length = P.length + 1 by simp] at this
      rw [e2, this]
      simp
end Go.Proofs.YtgimmdnmndbcpaaGreatDoor
