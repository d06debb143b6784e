/- RoutesMany (jackfieldlaw16/extra.go) answers true for every input, whatever lies in memory, and lets its arguments stand; the variables that its row lists are tied to the program's text. -/
import Derived.Test.YtgimmdnmndbcpaaDoorCommon
import Derived.Test.YtgimmdnmndbcpaaDoorM4
set_option linter.unusedVariables false
set_option linter.unusedSimpArgs false
namespace Go.Proofs.YtgimmdnmndbcpaaDoor
open Go.ChangeShapes Go.WideShapes Go.ChangeAt Go.RowKit Jw

/-- The errors that the row lists. -/
def many_list : List (String × List UInt8 × Nat) :=
  [("jackfield/api.ErrRange", [106, 97, 99, 107, 102, 105, 101, 108, 100, 58, 32, 114, 97, 110, 103, 101], 3), ("jackfield/api.ErrFull", [106, 97, 99, 107, 102, 105, 101, 108, 100, 58, 32, 102, 117, 108, 108], 1), ("jackfield/api.ErrName", [106, 97, 99, 107, 102, 105, 101, 108, 100, 58, 32, 110, 97, 109, 101], 4), ("jackfield/api.ErrNone", [106, 97, 99, 107, 102, 105, 101, 108, 100, 58, 32, 110, 111, 110, 101], 0), ("jackfield/api.ErrBusy", [106, 97, 99, 107, 102, 105, 101, 108, 100, 58, 32, 98, 117, 115, 121], 2)]

set_option maxRecDepth 20000 in
theorem many_contract (H : Type) (enc : TypeId × Value → H) (W : World) (base : Nat) (args : Array Value) (ds gs : List (DataW H)) (before : List MemPlace)
    (hval : ∀ (j : Nat) t v, Tryd.f4.params[j]? = some t → args[j]? = some v → Value.okWide Tryd.prog W .any base t v)
    (hW : DataW.Whole enc Tryd.prog Tryd.f4.params.toList Rows.routesManySpec.vars false W args.toList ds gs before) (hL : laidMetH Tryd.prog Rows.routesManyRow.laid W)
    (hsz : (DataW.weightsEach Tryd.prog (Tryd.f4.params.toList ++ []) (ds ++ gs)).all (· ≤ reachBytes) = true) (hsh : W.ShapedOpen Tryd.prog) :
    Calls Tryd.prog 4 args W fun e W' => ∃ v, e = .returned v ∧ Rows.routesManySpec.post enc Tryd.prog Tryd.f4 false true false false W args v W' := by
  have hW' := hW
  obtain ⟨p, q, hA0, hV, rfl, hfz, hnd⟩ := hW
  have hA : DataW.TrodAll enc Tryd.prog W 0 (fun _ => true) true Tryd.f4.params.toList args.toList ds p := hA0
  rw [Tryd.params4] at hA hval
  obtain ⟨v0, vs0, d0, ds0, p0, q0, hargs, rfl, rfl, h0, r0⟩ := trodAll_cons hA
  obtain ⟨rfl, rfl, rfl⟩ := trodAll_nil r0
  obtain rfl : args = #[v0] := by cases args; simp_all
  obtain ⟨rfl, rfl⟩ := trodVars_none hV
  have hlt0 : ∀ x ∈ p0, x.block < W.heap.size := fun x hx => by
    have := hW'.lt x (by simp [hx])
    simpa using this
  obtain ⟨ao0, cap0, l0, sp0, rfl, _, hm0, hc0, hb0, hd0⟩ := open_nums Tryd.underlying41 Tryd.underlying3 (by kernel_rfl) (hval 0 41 v0 rfl rfl) h0 hlt0
  unfold maxLen at hm0
  obtain ⟨A, hAc, hAne⟩ := sents sentTypes many_list [("unicode/utf8.first", Rows.laid_unicode_utf8_first)] (laid_tail (show laidMet Tryd.prog (("unicode/utf8.acceptRanges", Rows.laid_unicode_utf8_acceptRanges) :: (many_list.map (fun x => (x.1, sent x.2.1)) ++ [("unicode/utf8.first", Rows.laid_unicode_utf8_first)])) W from hL)) (by kernel_rfl)
  have hR := (hAc 0 _ rfl).1
  have hRb := (hAc 0 _ rfl).2
  have hF := (hAc 1 _ rfl).1
  have hFb := (hAc 1 _ rfl).2
  have hN := (hAc 2 _ rfl).1
  have hNb := (hAc 2 _ rfl).2
  have hO := (hAc 3 _ rfl).1
  have hOb := (hAc 3 _ rfl).2
  have hU := (hAc 4 _ rfl).1
  have hUb := (hAc 4 _ rfl).2
  obtain ⟨m, hG⟩ := gw_of hsh hR hF hN hO hU hNb
  refine (manyLaw_walk (.slice ao0 l0.length cap0) l0 W (adsOf A) m hG ⟨ao0, cap0, rfl, hc0⟩ (by omega)).mono fun e W' ⟨he, hB⟩ => ?_
  subst he
  exact ⟨_, rfl, law_post (tb := 4) (by kernel_rfl) (by kernel_rfl) rfl Tryd.underlying4 rfl hW' rfl hB⟩

/-- A world for the witness: the variables hold what their initialisers lay. -/
noncomputable def many_world (os : Os) : World :=
  let w0 := World.holding Tryd.prog os ⟨#[.cells #[.string { data := #[106, 97, 99, 107, 102, 105, 101, 108, 100, 58, 32, 114, 97, 110, 103, 101] }] 130, .cells #[.string { data := #[106, 97, 99, 107, 102, 105, 101, 108, 100, 58, 32, 102, 117, 108, 108] }] 130, .cells #[.string { data := #[106, 97, 99, 107, 102, 105, 101, 108, 100, 58, 32, 110, 97, 109, 101] }] 130, .cells #[.string { data := #[106, 97, 99, 107, 102, 105, 101, 108, 100, 58, 32, 110, 111, 110, 101] }] 130, .cells #[.string { data := #[106, 97, 99, 107, 102, 105, 101, 108, 100, 58, 32, 98, 117, 115, 121] }] 130], #[], []⟩
  { w0 with heap := (((((((w0.heap.modify 3 fun | .cells _ t frozen => .cells #[.iface 113 (.pointer (some ⟨low + 0, 0, none⟩))] t frozen | o => o).modify 1 fun | .cells _ t frozen => .cells #[.iface 113 (.pointer (some ⟨low + 1, 0, none⟩))] t frozen | o => o).modify 4 fun | .cells _ t frozen => .cells #[.iface 113 (.pointer (some ⟨low + 2, 0, none⟩))] t frozen | o => o).modify 0 fun | .cells _ t frozen => .cells #[.iface 113 (.pointer (some ⟨low + 3, 0, none⟩))] t frozen | o => o).modify 2 fun | .cells _ t frozen => .cells #[.iface 113 (.pointer (some ⟨low + 4, 0, none⟩))] t frozen | o => o)).modify 7 fun | .cells _ t frozen => .cells tabFirst t frozen | o => o).modify 8 fun | .cells _ t frozen => .cells tabRanges t frozen | o => o }
theorem many_met (os : Os) : laidMet Tryd.prog Rows.routesManyRow.laid ((many_world os).forCall (fun _ _ => 0) ⟨#[], #[.slice none 0 0], []⟩).memory :=
  laidMet_of_run' 8 (by kernel_rfl) (by kernel_rfl)
theorem many_reads (os : Os) {H : Type} (enc : TypeId × Value → H) : ∃ places, DataW.whole enc Tryd.prog ((many_world os).forCall (fun _ _ => 0) ⟨#[], #[.slice none 0 0], []⟩).memory Tryd.f4.params.toList Rows.routesManySpec.vars false (#[.slice none 0 0] : Array Value).toList 8 = some ([.nil], [], places) :=
  ⟨[], by kernel_rfl⟩

set_option maxRecDepth 100000 in
theorem many_lifted (os : Os) (started : os.Started) (H : Type) (enc : TypeId × Value → H) (F : Stop.Interp) :
    ReturnsInHanded {} Tryd.checked os 4 .any ((OpenSpec.ofChange Rows.routesManySpec).preRow enc Tryd.prog Tryd.f4 Rows.routesManyRow.domain false Rows.routesManyRow.laid) (((OpenSpec.ofChange Rows.routesManySpec).at F).post enc Tryd.prog Tryd.f4 false true false false) := by
  obtain ⟨places, hx⟩ := many_reads os enc
  refine returnsInHanded_of_row (C := Tryd.checked) (s := (OpenSpec.ofChange Rows.routesManySpec)) own started (by kernel_rfl) Tryd.func4
    (witness_row_at (enc := enc) (C := Tryd.checked) false (many_world os) #[.slice none 0 0] rfl (by kernel_rfl) (by kernel_rfl) (by kernel_rfl)
      (OpenSpec.preRow_of_cond 8 hx (by kernel_rfl) (fun k hk => by cases hk) (by kernel_rfl) (many_met os))) ?_
  intro W base args ds gs before hval hW _ hcond hsz hL hsh _
  exact many_contract H enc W base args ds gs before hval hW hL hsz hsh

theorem many_said : Rows.RoutesManySaid :=
  OpenClaim.holds_of_cond 4 Tryd.f4 rfl rfl rfl rfl rfl rfl rfl ⟨rfl, rfl, rfl, rfl, rfl⟩ rfl rfl rfl rfl rfl (by kernel_rfl) Tryd.func4 (by kernel_rfl)
    (of_decide_eq_true (by kernel_rfl)) (by unfold Func.isWrapper; first | (rw [if_pos (by decide +kernel)]; kernel_rfl) | (rw [if_neg (by decide +kernel)]; exact ⟨rfl, rfl⟩))
    (fun os started H enc _ F => by rw [OpenClaim.pre_eq_preRow]; exact many_lifted os started H enc F)

theorem many_plain (f : FuncId) (fn : Func) (hf : Tryd.pinned.checked.prog.funcNamed "jackfield/jackfieldlaw16.RoutesMany" = some f) (hfn : Tryd.pinned.checked.prog.funcs[f]? = some fn) :
    true = Tryd.pinned.checked.prog.looks [] ∧ ∀ (j : Nat) t, fn.params[j]? = some t → Tryd.pinned.checked.prog.wantsStandIn t = false := by
  obtain rfl : f = 4 := Option.some.inj ((show Tryd.prog.funcNamed "jackfield/jackfieldlaw16.RoutesMany" = some 4 by kernel_rfl).symm.trans hf) |>.symm
  obtain rfl : fn = Tryd.f4 := (Option.some.inj (Tryd.func4.symm.trans hfn)).symm
  refine ⟨by kernel_rfl, fun j t ht => ?_⟩
  have hall : Tryd.f4.params.toList.all (fun t => !Tryd.prog.wantsStandIn t) = true := by kernel_rfl
  have := List.all_eq_true.1 hall t (by simpa using Array.mem_of_getElem? ht)
  have h2 : Tryd.prog.wantsStandIn t = false := by simpa using this
  exact h2

theorem many_card : Rows.RoutesManyCardSaid :=
  Claim7.holds_tied_plain_at .later [] _ _ _ _ many_said (fun _ h => by cases h) (by kernel_rfl) (fun _ h => by cases h) routesMany_row_tie rfl ⟨rfl, rfl⟩ (by kernel_rfl) rfl many_plain (by kernel_rfl)
#print axioms many_card
end Go.Proofs.YtgimmdnmndbcpaaDoor
