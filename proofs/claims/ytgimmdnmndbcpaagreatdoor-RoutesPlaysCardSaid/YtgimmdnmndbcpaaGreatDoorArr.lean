/- Whole arrays, by value, loaded and stored by a walk: one step each, by the equation of its run. -/
import Derived.WalkKit
import Derived.Deep.MidRow
import Derived.StillTailTactics
set_option linter.unusedVariables false
set_option linter.unusedSimpArgs false
namespace Jw
open Go Go.RowKit
section
variable {P : Program} {ops : Array Oper} {rest : List Oper} {o : Oper} {a : Act} {w w' : World}
theorem wp_load_run {K : Act → World → Prop} {Q : Exit → Act → World → Prop} (ty : TypeId) (x : Operand) (ho : o.op = .load ty x) (ad : Addr) (v : Value) (hx : a.eval x = .pointer (some ad))
    (hrun : (Instr.loadAt ty (.pointer (some ad))).run P w = .ok v w) (h : K (a.put o.dst v) w) : o.wp P a w K Q := by
  unfold Oper.wp execOp
  simp only [ho, hx, Sem.run_bind, Sem.run_pure, hrun, Result.andThen_ok]
  exact h
theorem wpList_load_run {Q : Exit → Act → World → Prop} (hgd : o.guard = none) (ty : TypeId) (x : Operand) (ho : o.op = .load ty x) (ad : Addr) (v : Value) (hx : a.eval x = .pointer (some ad))
    (hrun : (Instr.loadAt ty (.pointer (some ad))).run P w = .ok v w) (h : wpList P ops Q rest (a.put o.dst v) w) : wpList P ops Q (o :: rest) a w :=
  wpList_plain hgd fun _ hK => wp_load_run ty x ho ad v hx hrun (hK _ _ h)
theorem wp_store_run {K : Act → World → Prop} {Q : Exit → Act → World → Prop} (ty : TypeId) (x y : Operand) (ho : o.op = .store ty x y) (ad : Addr) (v : Value) (hx : a.eval x = .pointer (some ad)) (hy : a.eval y = v)
    (hrun : (Instr.storeAt ty (.pointer (some ad)) v).run P w = .ok () w') (h : K (a.put o.dst undef) w') : o.wp P a w K Q := by
  unfold Oper.wp execOp
  simp only [ho, hx, hy, Sem.run_bind, Sem.run_pure, hrun, Result.andThen_ok]
  exact h
theorem wpList_store_run {Q : Exit → Act → World → Prop} (hgd : o.guard = none) (ty : TypeId) (x y : Operand) (ho : o.op = .store ty x y) (ad : Addr) (v : Value) (hx : a.eval x = .pointer (some ad)) (hy : a.eval y = v)
    (hrun : (Instr.storeAt ty (.pointer (some ad)) v).run P w = .ok () w') (h : wpList P ops Q rest (a.put o.dst undef) w') : wpList P ops Q (o :: rest) a w :=
  wpList_plain hgd fun _ hK => wp_store_run ty x y ho ad v hx hy hrun (hK _ _ h)
theorem still_load_run {Q : Act → Prop} (hgd : o.guard = none) (ty : TypeId) (x : Operand) (ho : o.op = .load ty x) (ad : Addr) (v : Value) (hx : a.eval x = .pointer (some ad))
    (hrun : (Instr.loadAt ty (.pointer (some ad))).run P w = .ok v w) (h : wpStill P ops w Q rest (a.put o.dst v)) : wpStill P ops w Q (o :: rest) a := by
  refine wpStill_step fun K hK => ?_
  have hw : Region.wanted o (yielded ops a.tmps) = true := by simp [Region.wanted, hgd]
  rw [if_pos hw]
  unfold Oper.still execOp
  simp only [ho, hx, Sem.run_bind, Sem.run_pure, hrun, Result.andThen_ok]
  rw [Oper.stillUpon_value]
  exact hK _ h
theorem still_slice_run {Q : Act → Prop} (hgd : o.guard = none) (ty : TypeId) (x lo hi : Operand) (ho : o.op = .slice ty x (some lo) (some hi) none) (u v1 v2 v : Value) (hx : a.eval x = u) (h1 : a.eval lo = v1) (h2 : a.eval hi = v2)
    (hrun : (Instr.sliceAt ty u (some v1) (some v2) none).run P w = .ok v w) (h : wpStill P ops w Q rest (a.put o.dst v)) : wpStill P ops w Q (o :: rest) a := by
  refine wpStill_step fun K hK => ?_
  have hw : Region.wanted o (yielded ops a.tmps) = true := by simp [Region.wanted, hgd]
  rw [if_pos hw]
  unfold Oper.still execOp
  simp only [ho, hx, h1, h2, Option.map_some, Option.map_none, Sem.run_bind, Sem.run_pure, hrun, Result.andThen_ok]
  rw [Oper.stillUpon_value]
  exact hK _ h
theorem still_load_on {Q : Act → Prop} (hw : Region.wanted o (yielded ops a.tmps) = true) (ty : TypeId) (x : Operand) (ho : o.op = .load ty x) (ad : Addr) (v : Value) (hx : a.eval x = .pointer (some ad))
    (hrun : (Instr.loadAt ty (.pointer (some ad))).run P w = .ok v w) (h : wpStill P ops w Q rest (a.put o.dst v)) : wpStill P ops w Q (o :: rest) a := by
  refine wpStill_step fun K hK => ?_
  rw [if_pos hw]
  unfold Oper.still execOp
  simp only [ho, hx, Sem.run_bind, Sem.run_pure, hrun, Result.andThen_ok]
  rw [Oper.stillUpon_value]
  exact hK _ h
theorem wpList_load_on {Q : Exit → Act → World → Prop} (hw : Region.wanted o (yielded ops a.tmps) = true) (ty : TypeId) (x : Operand) (ho : o.op = .load ty x) (ad : Addr) (v : Value) (hx : a.eval x = .pointer (some ad))
    (hrun : (Instr.loadAt ty (.pointer (some ad))).run P w = .ok v w) (h : wpList P ops Q rest (a.put o.dst v) w) : wpList P ops Q (o :: rest) a w :=
  wpList_step fun K hK => by rw [if_pos hw]; exact wp_load_run ty x ho ad v hx hrun (hK _ _ h)
theorem exec_load {eval : Operand → Value} (ty : TypeId) (x : Operand) (ho : o.op = .load ty x) (ad : Addr) (v : Value) (hx : eval x = .pointer (some ad))
    (hrun : (Instr.loadAt ty (.pointer (some ad))).run P w = .ok v w) : (execOp eval o).run P w = .ok (.value v) w := by
  unfold execOp
  simp only [ho, hx, Sem.run_bind, Sem.run_pure, hrun, Result.andThen_ok]
end
end Jw
