/- SniffFeeds (jackfieldlaw17/law.go) answers true for every input, whatever lies in memory, and lets its arguments stand; the variables that its row lists are tied to the program's text. -/
import Derived.Test.YtfphfljndhideaaDoorCommon
import Derived.Test.YtfphfljndhideaaDoorF3
import Derived.Test.YtfphfljndhideaaDoorOpn5
set_option linter.unusedVariables false
set_option linter.unusedSimpArgs false
namespace Go.Proofs.YtfphfljndhideaaDoor
open Go.ChangeShapes Go.WideShapes Go.ChangeAt Go.RowKit Jw

/-- The errors that the row lists. -/
def feeds_list : List (String × List UInt8 × Nat) :=
  [("jackfield/api.ErrName", [106, 97, 99, 107, 102, 105, 101, 108, 100, 58, 32, 110, 97, 109, 101], 0), ("jackfield/api.ErrState", [106, 97, 99, 107, 102, 105, 101, 108, 100, 58, 32, 115, 116, 97, 116, 101], 1)]

theorem feeds_contract (H : Type) (enc : TypeId × Value → H) (W : World) (base : Nat) (args : Array Value) (ds gs : List (DataW H)) (before : List MemPlace)
    (hval : ∀ (j : Nat) t v, Tryd.f11.params[j]? = some t → args[j]? = some v → Value.okWide Tryd.prog W .any base t v)
    (hW : DataW.Whole enc Tryd.prog Tryd.f11.params.toList Rows.sniffFeedsSpec.vars false W args.toList ds gs before) (hL : laidMetH Tryd.prog Rows.sniffFeedsRow.laid W)
    (hsz : (DataW.weightsEach Tryd.prog (Tryd.f11.params.toList ++ []) (ds ++ gs)).all (· ≤ reachBytes) = true) (hsh : W.ShapedOpen Tryd.prog) :
    Calls Tryd.prog 11 args W fun e W' => ∃ v, e = .returned v ∧ Rows.sniffFeedsSpec.post enc Tryd.prog Tryd.f11 false true false false W args v W' := by
  have hW' := hW
  obtain ⟨p, q, hA0, hV, rfl, hfz, hnd⟩ := hW
  have hA : DataW.TrodAll enc Tryd.prog W 0 (fun _ => true) true Tryd.f11.params.toList args.toList ds p := hA0
  rw [Tryd.params11] at hA hval
  obtain ⟨v0, vs0, d0, ds0, p0, q0, hargs, rfl, rfl, h0, r0⟩ := trodAll_cons hA
  obtain ⟨rfl, rfl, rfl⟩ := trodAll_nil r0
  obtain rfl : args = #[v0] := by cases args; simp_all
  obtain ⟨rfl, rfl⟩ := trodVars_none hV
  have hlt0 : ∀ x ∈ p0, x.block < W.heap.size := fun x hx => by
    have := hW'.lt x (by simp [hx])
    simpa using this
  obtain ⟨L0, hR0, hm0, hs0⟩ := open_pieces Tryd.underlying47 Tryd.underlying37 Tryd.underlying5 (by kernel_rfl) (by kernel_rfl) (hval 0 47 v0 rfl rfl) h0 hlt0
  unfold maxLen at hm0 hs0
  obtain ⟨A, hAc, hAne⟩ := sents sentTypes feeds_list [("unicode/utf8.first", Rows.laid_unicode_utf8_first)] (laid_tail (show laidMet Tryd.prog (("unicode/utf8.acceptRanges", Rows.laid_unicode_utf8_acceptRanges) :: (feeds_list.map (fun x => (x.1, sent x.2.1)) ++ [("unicode/utf8.first", Rows.laid_unicode_utf8_first)])) W from hL)) (by kernel_rfl)
  have hN := (hAc 0 _ rfl).1
  have hNb := (hAc 0 _ rfl).2
  obtain ⟨m, hG⟩ := gl_of hsh hN hNb
  have hS := (hAc 1 _ rfl).1
  have hSb := (hAc 1 _ rfl).2
  refine (feedsLaw_walk L0 v0 W hR0 (by omega) (fun p hp => by have := hs0 p hp; omega) (A 0) (A 1) m hG hS).mono fun e W' ⟨he, hB⟩ => ?_
  subst he
  exact ⟨_, rfl, law_post (tb := 4) (by kernel_rfl) (by kernel_rfl) rfl Tryd.underlying4 rfl hW' rfl hB⟩

/-- A world for the witness: the variables hold what their initialisers lay. -/
noncomputable def feeds_world (os : Os) : World :=
  let w0 := World.holding Tryd.prog os ⟨#[.cells #[.string { data := #[106, 97, 99, 107, 102, 105, 101, 108, 100, 58, 32, 110, 97, 109, 101] }] 99, .cells #[.string { data := #[106, 97, 99, 107, 102, 105, 101, 108, 100, 58, 32, 115, 116, 97, 116, 101] }] 99], #[], []⟩
  { w0 with heap := ((((w0.heap.modify 0 fun | .cells _ t frozen => .cells #[.iface 83 (.pointer (some ⟨low + 0, 0, none⟩))] t frozen | o => o).modify 1 fun | .cells _ t frozen => .cells #[.iface 83 (.pointer (some ⟨low + 1, 0, none⟩))] t frozen | o => o)).modify 3 fun | .cells _ t frozen => .cells tabFirst t frozen | o => o).modify 4 fun | .cells _ t frozen => .cells tabRanges t frozen | o => o }
theorem feeds_met (os : Os) : laidMet Tryd.prog Rows.sniffFeedsRow.laid ((feeds_world os).forCall (fun _ _ => 0) ⟨#[], #[.slice none 0 0], []⟩).memory :=
  laidMet_of_run' 8 (by kernel_rfl) (by kernel_rfl)
theorem feeds_reads (os : Os) {H : Type} (enc : TypeId × Value → H) : ∃ places, DataW.whole enc Tryd.prog ((feeds_world os).forCall (fun _ _ => 0) ⟨#[], #[.slice none 0 0], []⟩).memory Tryd.f11.params.toList Rows.sniffFeedsSpec.vars false (#[.slice none 0 0] : Array Value).toList 8 = some ([.nil], [], places) :=
  ⟨[], by kernel_rfl⟩

set_option maxRecDepth 100000 in
theorem feeds_lifted (os : Os) (started : os.Started) (H : Type) (enc : TypeId × Value → H) (F : Stop.Interp) :
    ReturnsInHanded {} Tryd.checked os 11 .any ((OpenSpec.ofChange Rows.sniffFeedsSpec).preRow enc Tryd.prog Tryd.f11 Rows.sniffFeedsRow.domain false Rows.sniffFeedsRow.laid) (((OpenSpec.ofChange Rows.sniffFeedsSpec).at F).post enc Tryd.prog Tryd.f11 false true false false) := by
  obtain ⟨places, hx⟩ := feeds_reads os enc
  refine returnsInHanded_of_row (C := Tryd.checked) (s := (OpenSpec.ofChange Rows.sniffFeedsSpec)) own started (by kernel_rfl) Tryd.func11
    (witness_row_at (enc := enc) (C := Tryd.checked) false (feeds_world os) #[.slice none 0 0] rfl (by kernel_rfl) (by kernel_rfl) (by kernel_rfl)
      (OpenSpec.preRow_of_cond 8 hx (by kernel_rfl) (fun k hk => by cases hk) (by kernel_rfl) (feeds_met os))) ?_
  intro W base args ds gs before hval hW _ hcond hsz hL hsh _
  exact feeds_contract H enc W base args ds gs before hval hW hL hsz hsh

theorem feeds_said : Rows.SniffFeedsSaid :=
  OpenClaim.holds_of_cond 11 Tryd.f11 rfl rfl rfl rfl rfl rfl rfl ⟨rfl, rfl, rfl, rfl, rfl⟩ rfl rfl rfl rfl rfl (by kernel_rfl) Tryd.func11 (by kernel_rfl)
    (of_decide_eq_true (by kernel_rfl)) (by unfold Func.isWrapper; first | (rw [if_pos (by decide +kernel)]; kernel_rfl) | (rw [if_neg (by decide +kernel)]; exact ⟨rfl, rfl⟩))
    (fun os started H enc _ F => by rw [OpenClaim.pre_eq_preRow]; exact feeds_lifted os started H enc F)

theorem feeds_plain (f : FuncId) (fn : Func) (hf : Tryd.pinned.checked.prog.funcNamed "jackfield/jackfieldlaw17.SniffFeeds" = some f) (hfn : Tryd.pinned.checked.prog.funcs[f]? = some fn) :
    true = Tryd.pinned.checked.prog.looks [] ∧ ∀ (j : Nat) t, fn.params[j]? = some t → Tryd.pinned.checked.prog.wantsStandIn t = false := by
  obtain rfl : f = 11 := Option.some.inj ((show Tryd.prog.funcNamed "jackfield/jackfieldlaw17.SniffFeeds" = some 11 by kernel_rfl).symm.trans hf) |>.symm
  obtain rfl : fn = Tryd.f11 := (Option.some.inj (Tryd.func11.symm.trans hfn)).symm
  refine ⟨by kernel_rfl, fun j t ht => ?_⟩
  have hall : Tryd.f11.params.toList.all (fun t => !Tryd.prog.wantsStandIn t) = true := by kernel_rfl
  have := List.all_eq_true.1 hall t (by simpa using Array.mem_of_getElem? ht)
  have h2 : Tryd.prog.wantsStandIn t = false := by simpa using this
  exact h2

theorem feeds_card : Rows.SniffFeedsCardSaid :=
  Claim7.holds_tied_plain_at .later [] _ _ _ _ feeds_said (fun _ h => by cases h) (by kernel_rfl) (fun _ h => by cases h) sniffFeeds_row_tie rfl ⟨rfl, rfl⟩ (by kernel_rfl) rfl feeds_plain (by kernel_rfl)
#print axioms feeds_card
end Go.Proofs.YtfphfljndhideaaDoor
