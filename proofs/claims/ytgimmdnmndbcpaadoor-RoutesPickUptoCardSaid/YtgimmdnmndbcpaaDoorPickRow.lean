/- RoutesPick (jackfieldlaw16/law.go) answers true for every input, whatever lies in memory, and lets its arguments stand; the variables that its row lists are tied to the program's text. The second form: where what it reads is of bulk at most 1048576. -/
import Derived.Test.YtgimmdnmndbcpaaDoorCommon
import Derived.Test.YtgimmdnmndbcpaaDoorP3
import Derived.Test.YtgimmdnmndbcpaaDoorPo
import Derived.Test.YtgimmdnmndbcpaaDoorBulk
set_option linter.unusedVariables false
set_option linter.unusedSimpArgs false
namespace Go.Proofs.YtgimmdnmndbcpaaDoor
open Go.ChangeShapes Go.WideShapes Go.ChangeAt Go.RowKit Jw

/-- The errors that the row lists. -/
def pick_list : List (String × List UInt8 × Nat) :=
  [("jackfield/api.ErrRange", [106, 97, 99, 107, 102, 105, 101, 108, 100, 58, 32, 114, 97, 110, 103, 101], 3), ("jackfield/api.ErrFull", [106, 97, 99, 107, 102, 105, 101, 108, 100, 58, 32, 102, 117, 108, 108], 1), ("jackfield/api.ErrName", [106, 97, 99, 107, 102, 105, 101, 108, 100, 58, 32, 110, 97, 109, 101], 4), ("jackfield/api.ErrNone", [106, 97, 99, 107, 102, 105, 101, 108, 100, 58, 32, 110, 111, 110, 101], 0), ("jackfield/api.ErrBusy", [106, 97, 99, 107, 102, 105, 101, 108, 100, 58, 32, 98, 117, 115, 121], 2)]

set_option maxRecDepth 20000 in
theorem pick_contract (H : Type) (enc : TypeId × Value → H) (W : World) (base : Nat) (args : Array Value) (ds gs : List (DataW H)) (before : List MemPlace)
    (hval : ∀ (j : Nat) t v, Tryd.f5.params[j]? = some t → args[j]? = some v → Value.okWide Tryd.prog W .any base t v)
    (hW : DataW.Whole enc Tryd.prog Tryd.f5.params.toList Rows.routesPickSpec.vars false W args.toList ds gs before) (hL : laidMetH Tryd.prog Rows.routesPickUptoRow.laid W)
    (hsz : (DataW.weightsEach Tryd.prog (Tryd.f5.params.toList ++ []) (ds ++ gs)).all (· ≤ reachBytes) = true) (hsh : W.ShapedOpen Tryd.prog) (hup : Rows.uptoSmall H (ds ++ gs) = true) :
    Calls Tryd.prog 5 args W fun e W' => ∃ v, e = .returned v ∧ Rows.routesPickSpec.post enc Tryd.prog Tryd.f5 false true false false W args v W' := by
  have hW' := hW
  obtain ⟨p, q, hA0, hV, rfl, hfz, hnd⟩ := hW
  have hA : DataW.TrodAll enc Tryd.prog W 0 (fun _ => true) true Tryd.f5.params.toList args.toList ds p := hA0
  rw [Tryd.params5] at hA hval
  obtain ⟨v0, vs0, d0, ds0, p0, q0, hargs, rfl, rfl, h0, r0⟩ := trodAll_cons hA
  obtain ⟨v1, vs1, d1, ds1, p1, q1, rfl, rfl, rfl, h1, r1⟩ := trodAll_cons r0
  obtain ⟨v2, vs2, d2, ds2, p2, q2, rfl, rfl, rfl, h2, r2⟩ := trodAll_cons r1
  obtain ⟨rfl, rfl, rfl⟩ := trodAll_nil r2
  obtain rfl : args = #[v0, v1, v2] := by cases args; simp_all
  obtain ⟨rfl, rfl⟩ := trodVars_none hV
  have hlt0 : ∀ x ∈ p0, x.block < W.heap.size := fun x hx => by
    have := hW'.lt x (by simp [hx])
    simpa using this
  have hlt1 : ∀ x ∈ p1, x.block < W.heap.size := fun x hx => by
    have := hW'.lt x (by simp [hx])
    simpa using this
  have hlt2 : ∀ x ∈ p2, x.block < W.heap.size := fun x hx => by
    have := hW'.lt x (by simp [hx])
    simpa using this
  obtain ⟨L0, hR0, hm0, hw0⟩ := open_pos Tryd.underlying46 Tryd.underlying48 (by kernel_rfl) (by kernel_rfl) Tryd.underlying3 Tryd.underlying3 Tryd.underlying3 Tryd.underlying9 Tryd.underlying31 Tryd.underlying41 Tryd.underlying3 (by kernel_rfl) (hval 0 46 v0 rfl rfl) h0 hlt0
  unfold maxLen at hm0
  obtain ⟨s1, rfl, rfl, rfl, hs1⟩ := Go.ChangeMaps.open_string Tryd.underlying9 (hval 1 9 v1 rfl rfl) h1
  unfold maxLen at hs1
  obtain ⟨ao2, cap2, l2, sp2, rfl, _, hm2, hc2, hb2, hd2⟩ := open_nums Tryd.underlying41 Tryd.underlying3 (by kernel_rfl) (hval 2 41 v2 rfl rfl) h2 hlt2
  unfold maxLen at hm2
  obtain ⟨A, hAc, hAne⟩ := sents sentTypes pick_list [("unicode/utf8.first", Rows.laid_unicode_utf8_first)] (laid_tail (show laidMet Tryd.prog (("unicode/utf8.acceptRanges", Rows.laid_unicode_utf8_acceptRanges) :: (pick_list.map (fun x => (x.1, sent x.2.1)) ++ [("unicode/utf8.first", Rows.laid_unicode_utf8_first)])) W from hL)) (by kernel_rfl)
  have hR := (hAc 0 _ rfl).1
  have hRb := (hAc 0 _ rfl).2
  have hF := (hAc 1 _ rfl).1
  have hFb := (hAc 1 _ rfl).2
  have hN := (hAc 2 _ rfl).1
  have hNb := (hAc 2 _ rfl).2
  have hO := (hAc 3 _ rfl).1
  have hOb := (hAc 3 _ rfl).2
  have hU := (hAc 4 _ rfl).1
  have hUb := (hAc 4 _ rfl).2
  obtain ⟨m, hG⟩ := gw_of hsh hR hF hN hO hU hNb
  have hb1 := bulk_text hup (s := s1) (by simp)
  refine (pickLaw_walk v0 L0 s1.data.toList (.slice ao2 l2.length cap2) l2 W (adsOf A) m hG hR0 (by omega) (by omega) ⟨ao2, cap2, rfl, hc2⟩ (by omega)).mono fun e W' ⟨he, hB⟩ => ?_
  subst he
  exact ⟨_, rfl, law_post (tb := 4) (by kernel_rfl) (by kernel_rfl) rfl Tryd.underlying4 rfl hW' rfl hB⟩

/-- A world for the witness: the variables hold what their initialisers lay. -/
noncomputable def pick_world (os : Os) : World :=
  let w0 := World.holding Tryd.prog os ⟨#[.cells #[.string { data := #[106, 97, 99, 107, 102, 105, 101, 108, 100, 58, 32, 114, 97, 110, 103, 101] }] 130, .cells #[.string { data := #[106, 97, 99, 107, 102, 105, 101, 108, 100, 58, 32, 102, 117, 108, 108] }] 130, .cells #[.string { data := #[106, 97, 99, 107, 102, 105, 101, 108, 100, 58, 32, 110, 97, 109, 101] }] 130, .cells #[.string { data := #[106, 97, 99, 107, 102, 105, 101, 108, 100, 58, 32, 110, 111, 110, 101] }] 130, .cells #[.string { data := #[106, 97, 99, 107, 102, 105, 101, 108, 100, 58, 32, 98, 117, 115, 121] }] 130], #[], []⟩
  { w0 with heap := (((((((w0.heap.modify 3 fun | .cells _ t frozen => .cells #[.iface 113 (.pointer (some ⟨low + 0, 0, none⟩))] t frozen | o => o).modify 1 fun | .cells _ t frozen => .cells #[.iface 113 (.pointer (some ⟨low + 1, 0, none⟩))] t frozen | o => o).modify 4 fun | .cells _ t frozen => .cells #[.iface 113 (.pointer (some ⟨low + 2, 0, none⟩))] t frozen | o => o).modify 0 fun | .cells _ t frozen => .cells #[.iface 113 (.pointer (some ⟨low + 3, 0, none⟩))] t frozen | o => o).modify 2 fun | .cells _ t frozen => .cells #[.iface 113 (.pointer (some ⟨low + 4, 0, none⟩))] t frozen | o => o)).modify 7 fun | .cells _ t frozen => .cells tabFirst t frozen | o => o).modify 8 fun | .cells _ t frozen => .cells tabRanges t frozen | o => o }
theorem pick_met (os : Os) : laidMet Tryd.prog Rows.routesPickUptoRow.laid ((pick_world os).forCall (fun _ _ => 0) ⟨#[], #[.slice none 0 0, .string ⟨#[]⟩, .slice none 0 0], []⟩).memory :=
  laidMet_of_run' 8 (by kernel_rfl) (by kernel_rfl)
theorem pick_reads (os : Os) {H : Type} (enc : TypeId × Value → H) : ∃ places, DataW.whole enc Tryd.prog ((pick_world os).forCall (fun _ _ => 0) ⟨#[], #[.slice none 0 0, .string ⟨#[]⟩, .slice none 0 0], []⟩).memory Tryd.f5.params.toList Rows.routesPickSpec.vars false (#[.slice none 0 0, .string ⟨#[]⟩, .slice none 0 0] : Array Value).toList 8 = some ([.nil, .lit (.string []), .nil], [], places) :=
  ⟨[], by kernel_rfl⟩

set_option maxRecDepth 100000 in
theorem pick_lifted (os : Os) (started : os.Started) (H : Type) (enc : TypeId × Value → H) (F : Stop.Interp) :
    ReturnsInHanded {} Tryd.checked os 5 .any ((Rows.OpenSpec.upto Rows.routesPickSpec).preRow enc Tryd.prog Tryd.f5 Rows.routesPickUptoRow.domain false Rows.routesPickUptoRow.laid) (((Rows.OpenSpec.upto Rows.routesPickSpec).at F).post enc Tryd.prog Tryd.f5 false true false false) := by
  obtain ⟨places, hx⟩ := pick_reads os enc
  refine returnsInHanded_of_row (C := Tryd.checked) (s := (Rows.OpenSpec.upto Rows.routesPickSpec)) own started (by kernel_rfl) Tryd.func5
    (witness_row_at (enc := enc) (C := Tryd.checked) false (pick_world os) #[.slice none 0 0, .string ⟨#[]⟩, .slice none 0 0] rfl (by kernel_rfl) (by kernel_rfl) (by kernel_rfl)
      (OpenSpec.preRow_of_cond 8 hx (by kernel_rfl) (fun k hk => by cases hk; kernel_rfl) (by kernel_rfl) (pick_met os))) ?_
  intro W base args ds gs before hval hW _ hcond hsz hL hsh _
  exact pick_contract H enc W base args ds gs before hval hW hL hsz hsh (hcond _ rfl)

theorem pick_said : Rows.RoutesPickUptoSaid :=
  OpenClaim.holds_of_cond 5 Tryd.f5 rfl rfl rfl rfl rfl rfl rfl ⟨rfl, rfl, rfl, rfl, rfl⟩ rfl rfl rfl rfl rfl (by kernel_rfl) Tryd.func5 (by kernel_rfl)
    (of_decide_eq_true (by kernel_rfl)) (by unfold Func.isWrapper; first | (rw [if_pos (by decide +kernel)]; kernel_rfl) | (rw [if_neg (by decide +kernel)]; exact ⟨rfl, rfl⟩))
    (fun os started H enc _ F => by rw [OpenClaim.pre_eq_preRow]; exact pick_lifted os started H enc F)

theorem pick_plain (f : FuncId) (fn : Func) (hf : Tryd.pinned.checked.prog.funcNamed "jackfield/jackfieldlaw16.RoutesPick" = some f) (hfn : Tryd.pinned.checked.prog.funcs[f]? = some fn) :
    true = Tryd.pinned.checked.prog.looks [] ∧ ∀ (j : Nat) t, fn.params[j]? = some t → Tryd.pinned.checked.prog.wantsStandIn t = false := by
  obtain rfl : f = 5 := Option.some.inj ((show Tryd.prog.funcNamed "jackfield/jackfieldlaw16.RoutesPick" = some 5 by kernel_rfl).symm.trans hf) |>.symm
  obtain rfl : fn = Tryd.f5 := (Option.some.inj (Tryd.func5.symm.trans hfn)).symm
  refine ⟨by kernel_rfl, fun j t ht => ?_⟩
  have hall : Tryd.f5.params.toList.all (fun t => !Tryd.prog.wantsStandIn t) = true := by kernel_rfl
  have := List.all_eq_true.1 hall t (by simpa using Array.mem_of_getElem? ht)
  have h2 : Tryd.prog.wantsStandIn t = false := by simpa using this
  exact h2

theorem pick_card : Rows.RoutesPickUptoCardSaid :=
  Claim7.holds_tied_plain_at .later [] _ _ _ _ pick_said (fun _ h => by cases h) (by kernel_rfl) (fun _ h => by cases h) routesPickUpto_row_tie rfl ⟨rfl, rfl⟩ (by kernel_rfl) rfl pick_plain (by kernel_rfl)
#print axioms pick_card
end Go.Proofs.YtgimmdnmndbcpaaDoor
