/- Appending what is read to an own row of bytes. -/
import Derived.Test.YtfphfljndhideaaDoorEl
import Derived.Lib.AppendStr
set_option linter.unusedVariables false
set_option linter.unusedSimpArgs false
namespace Go.Proofs.YtfphfljndhideaaDoor
open Go Go.RowKit Jw Lab

theorem wp_app_rb {ops : Array Oper} {rest : List Oper} {o : Oper} {a : Act} {Q : Exit → Act → World → Prop} (hgd : o.guard = none) (s x : Operand)
    (ho : o.op = .call { callee := .builtin .append, args := #[s, x], argTypes := #[37, 37] }) (w : World) (base : Nat) (l more : List UInt8) (sl : Value) (hown : w.ownsRow base 5 1 sl l.length (bv l))
    (hs : a.eval s = sl) (v : Value) (hx : a.eval x = v) (hr : Rb w v more) (hno : ∀ n c, v = .slice none n c → n = 0 ∧ c = 0) (hsz : l.length + more.length ≤ 140737488355328) (hbase : base ≤ w.heap.size)
    (h : ∀ v' w', w'.ownsRow base 5 1 v' (l ++ more).length (bv (l ++ more)) → w.grownBy w' sl.ownBlock → wpList Tryd.prog ops Q rest (a.put o.dst v') w') : wpList Tryd.prog ops Q (o :: rest) a w := by
  obtain ⟨i0, hi, hz0, hz1, hz2⟩ := info_parts' info5
  obtain ⟨ao, c, rfl, hc⟩ := hr
  cases ao with
  | none =>
    obtain ⟨h0, rfl⟩ := hno _ _ rfl
    have hnil := List.eq_nil_of_length_eq_zero h0
    subst hnil
    refine wpList_append_own_none hgd s x 37 ho base 5 i0 1 Tryd.underlying37 hi sl l.length (bv l) hs hown hx ?_
    exact h sl w (by rw [List.append_nil]; exact hown) ⟨rfl, rfl, rfl, Nat.le_refl _, fun _ _ _ => rfl⟩
  | some ad =>
    refine wpList_append_own w hgd s x 37 ho base 5 i0 _ 1 1 Tryd.underlying37 hi hz0 hz1 hz2 rfl (by decide) sl l.length (bv l) hs hown ad more.length c (bv more) hx (by rw [bv_len]; omega) (fun j u hj => by
      have hjl : j < more.length := by
        have := (List.getElem?_eq_some_iff.1 hj).1
        rwa [bv_len] at this
      rw [bv_at more j hjl] at hj
      obtain ⟨b, off, e, _, hcc⟩ := hc (by omega)
      obtain rfl : ad = ⟨b, off, none⟩ := Option.some.inj e
      rw [addr_add, hcc j hjl]
      exact hj) (bv_cell more) (by unfold maxLen; omega) (by omega) hbase (fun v' w' h2 h3 _ => h v' w' ?_ h3)
    rw [bv_append, List.length_append]
    exact h2
theorem strCells_bv (l : List UInt8) : Lib.strCells (bs l) = bv l := rfl
theorem wp_app_str {ops : Array Oper} {rest : List Oper} {o : Oper} {a : Act} {Q : Exit → Act → World → Prop} (hgd : o.guard = none) (s x : Operand)
    (ho : o.op = .call { callee := .builtin .append, args := #[s, x], argTypes := #[37, 9] }) (w : World) (base : Nat) (l more : List UInt8) (sl : Value) (hown : w.ownsRow base 5 1 sl l.length (bv l))
    (hs : a.eval s = sl) (hx : a.eval x = .string (bs more)) (hsz : l.length + more.length ≤ 140737488355328) (hbase : base ≤ w.heap.size)
    (h : ∀ v' w', w'.ownsRow base 5 1 v' (l ++ more).length (bv (l ++ more)) → w.grownBy w' sl.ownBlock → wpList Tryd.prog ops Q rest (a.put o.dst v') w') : wpList Tryd.prog ops Q (o :: rest) a w := by
  obtain ⟨i0, hi, hz0, hz1, hz2⟩ := info_parts' info5
  have s1 : (bs more).size = more.length := rfl
  refine Lib.wpList_append_own_string w hgd s x 37 9 ho base 5 i0 Tryd.underlying37 Tryd.underlying9 hi hz0 hz1 hz2 sl l.length (bv l) hs hown (bs more) hx (by rw [s1]; unfold maxLen; omega) (by rw [s1]; omega) hbase (fun v' w' h2 h3 _ => h v' w' ?_ h3)
  rw [bv_append, List.length_append]
  exact h2
theorem empty_own (base : Nat) (w : World) (hb : base ≤ w.heap.size) : (w.alloc (.cells #[] 5)).ownsRow base 5 1 (.slice (some ⟨w.heap.size, 0, none⟩) 0 0) ([] : List UInt8).length (bv []) :=
  ⟨rfl, .inr ⟨w.heap.size, 0, #[], rfl, hb, blk_new _ _ _, Nat.le_refl _, by decide, rfl, rfl⟩⟩
theorem grown_below {w w' : World} {row : Option Nat} {B : Nat} (h : w.grownBy w' row) (hr : ∀ g, row = some g → B ≤ g) (hB : B ≤ w.heap.size) : Below B w w' :=
  ⟨h.os, h.tape, h.output, h.size, fun k hk => h.block k (by omega) (fun e => by have := hr k e.symm; omega)⟩
end Go.Proofs.YtfphfljndhideaaDoor
