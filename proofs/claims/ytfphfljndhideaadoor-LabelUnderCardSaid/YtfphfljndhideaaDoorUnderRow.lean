/- LabelUnder (jackfieldlaw08/law.go) answers true for every input, whatever lies in memory, and lets its arguments stand; the variables that its row lists are tied to the program's text. -/
import Derived.Test.YtfphfljndhideaaDoorCommon
import Derived.Test.YtfphfljndhideaaDoorQ2
import Derived.Test.YtfphfljndhideaaDoorOpn2
set_option linter.unusedVariables false
set_option linter.unusedSimpArgs false
namespace Go.Proofs.YtfphfljndhideaaDoor
open Go.ChangeShapes Go.WideShapes Go.ChangeAt Go.RowKit Jw

/-- The errors that the row lists. -/
def under_list : List (String × List UInt8 × Nat) :=
  [("jackfield/api.ErrName", [106, 97, 99, 107, 102, 105, 101, 108, 100, 58, 32, 110, 97, 109, 101], 0)]

theorem under_contract (H : Type) (enc : TypeId × Value → H) (W : World) (base : Nat) (args : Array Value) (ds gs : List (DataW H)) (before : List MemPlace)
    (hval : ∀ (j : Nat) t v, Tryd.f7.params[j]? = some t → args[j]? = some v → Value.okWide Tryd.prog W .any base t v)
    (hW : DataW.Whole enc Tryd.prog Tryd.f7.params.toList Rows.labelUnderSpec.vars false W args.toList ds gs before) (hL : laidMetH Tryd.prog Rows.labelUnderRow.laid W)
    (hsz : (DataW.weightsEach Tryd.prog (Tryd.f7.params.toList ++ []) (ds ++ gs)).all (· ≤ reachBytes) = true) (hsh : W.ShapedOpen Tryd.prog) :
    Calls Tryd.prog 7 args W fun e W' => ∃ v, e = .returned v ∧ Rows.labelUnderSpec.post enc Tryd.prog Tryd.f7 false true false false W args v W' := by
  have hW' := hW
  obtain ⟨p, q, hA0, hV, rfl, hfz, hnd⟩ := hW
  have hA : DataW.TrodAll enc Tryd.prog W 0 (fun _ => true) true Tryd.f7.params.toList args.toList ds p := hA0
  rw [Tryd.params7] at hA hval
  obtain ⟨v0, vs0, d0, ds0, p0, q0, hargs, rfl, rfl, h0, r0⟩ := trodAll_cons hA
  obtain ⟨v1, vs1, d1, ds1, p1, q1, rfl, rfl, rfl, h1, r1⟩ := trodAll_cons r0
  obtain ⟨v2, vs2, d2, ds2, p2, q2, rfl, rfl, rfl, h2, r2⟩ := trodAll_cons r1
  obtain ⟨rfl, rfl, rfl⟩ := trodAll_nil r2
  obtain rfl : args = #[v0, v1, v2] := by cases args; simp_all
  obtain ⟨rfl, rfl⟩ := trodVars_none hV
  have hlt0 : ∀ x ∈ p0, x.block < W.heap.size := fun x hx => by
    have := hW'.lt x (by simp [hx])
    simpa using this
  have hlt1 : ∀ x ∈ p1, x.block < W.heap.size := fun x hx => by
    have := hW'.lt x (by simp [hx])
    simpa using this
  have hlt2 : ∀ x ∈ p2, x.block < W.heap.size := fun x hx => by
    have := hW'.lt x (by simp [hx])
    simpa using this
  obtain ⟨s0, rfl, rfl, rfl, hs0⟩ := Go.ChangeMaps.open_string Tryd.underlying9 (hval 0 9 v0 rfl rfl) h0
  unfold maxLen at hs0
  obtain ⟨s1, rfl, rfl, rfl, hs1⟩ := Go.ChangeMaps.open_string Tryd.underlying9 (hval 1 9 v1 rfl rfl) h1
  unfold maxLen at hs1
  obtain ⟨L2, hR2, hm2, hs2, hk2, hj2, hz2⟩ := open_txts2 Tryd.underlying24 Tryd.underlying9 (by kernel_rfl) (hval 2 24 v2 rfl rfl) h2 hlt2
  unfold maxLen at hm2 hs2
  obtain ⟨A, hAc, hAne⟩ := sents sentTypes under_list [("unicode/utf8.first", Rows.laid_unicode_utf8_first)] (laid_tail (show laidMet Tryd.prog (("unicode/utf8.acceptRanges", Rows.laid_unicode_utf8_acceptRanges) :: (under_list.map (fun x => (x.1, sent x.2.1)) ++ [("unicode/utf8.first", Rows.laid_unicode_utf8_first)])) W from hL)) (by kernel_rfl)
  have hN := (hAc 0 _ rfl).1
  have hNb := (hAc 0 _ rfl).2
  obtain ⟨m, hG⟩ := gl_of hsh hN hNb
  refine (underLaw_walk s0.data.toList s1.data.toList L2 v2 W hR2 hz2 (fun p hp => by have := hs2 p hp; omega) (A 0) m hG).mono fun e W' ⟨he, hB⟩ => ?_
  subst he
  exact ⟨_, rfl, law_post (tb := 4) (by kernel_rfl) (by kernel_rfl) rfl Tryd.underlying4 rfl hW' rfl hB⟩

/-- A world for the witness: the variables hold what their initialisers lay. -/
noncomputable def under_world (os : Os) : World :=
  let w0 := World.holding Tryd.prog os ⟨#[.cells #[.string { data := #[106, 97, 99, 107, 102, 105, 101, 108, 100, 58, 32, 110, 97, 109, 101] }] 99], #[], []⟩
  { w0 with heap := (((w0.heap.modify 0 fun | .cells _ t frozen => .cells #[.iface 83 (.pointer (some ⟨low + 0, 0, none⟩))] t frozen | o => o)).modify 3 fun | .cells _ t frozen => .cells tabFirst t frozen | o => o).modify 4 fun | .cells _ t frozen => .cells tabRanges t frozen | o => o }
theorem under_met (os : Os) : laidMet Tryd.prog Rows.labelUnderRow.laid ((under_world os).forCall (fun _ _ => 0) ⟨#[], #[.string ⟨#[]⟩, .string ⟨#[]⟩, .slice none 0 0], []⟩).memory :=
  laidMet_of_run' 8 (by kernel_rfl) (by kernel_rfl)
theorem under_reads (os : Os) {H : Type} (enc : TypeId × Value → H) : ∃ places, DataW.whole enc Tryd.prog ((under_world os).forCall (fun _ _ => 0) ⟨#[], #[.string ⟨#[]⟩, .string ⟨#[]⟩, .slice none 0 0], []⟩).memory Tryd.f7.params.toList Rows.labelUnderSpec.vars false (#[.string ⟨#[]⟩, .string ⟨#[]⟩, .slice none 0 0] : Array Value).toList 8 = some ([.lit (.string []), .lit (.string []), .nil], [], places) :=
  ⟨[], by kernel_rfl⟩

set_option maxRecDepth 100000 in
theorem under_lifted (os : Os) (started : os.Started) (H : Type) (enc : TypeId × Value → H) (F : Stop.Interp) :
    ReturnsInHanded {} Tryd.checked os 7 .any ((OpenSpec.ofChange Rows.labelUnderSpec).preRow enc Tryd.prog Tryd.f7 Rows.labelUnderRow.domain false Rows.labelUnderRow.laid) (((OpenSpec.ofChange Rows.labelUnderSpec).at F).post enc Tryd.prog Tryd.f7 false true false false) := by
  obtain ⟨places, hx⟩ := under_reads os enc
  refine returnsInHanded_of_row (C := Tryd.checked) (s := (OpenSpec.ofChange Rows.labelUnderSpec)) own started (by kernel_rfl) Tryd.func7
    (witness_row_at (enc := enc) (C := Tryd.checked) false (under_world os) #[.string ⟨#[]⟩, .string ⟨#[]⟩, .slice none 0 0] rfl (by kernel_rfl) (by kernel_rfl) (by kernel_rfl)
      (OpenSpec.preRow_of_cond 8 hx (by kernel_rfl) (fun k hk => by cases hk) (by kernel_rfl) (under_met os))) ?_
  intro W base args ds gs before hval hW _ hcond hsz hL hsh _
  exact under_contract H enc W base args ds gs before hval hW hL hsz hsh

theorem under_said : Rows.LabelUnderSaid :=
  OpenClaim.holds_of_cond 7 Tryd.f7 rfl rfl rfl rfl rfl rfl rfl ⟨rfl, rfl, rfl, rfl, rfl⟩ rfl rfl rfl rfl rfl (by kernel_rfl) Tryd.func7 (by kernel_rfl)
    (of_decide_eq_true (by kernel_rfl)) (by unfold Func.isWrapper; first | (rw [if_pos (by decide +kernel)]; kernel_rfl) | (rw [if_neg (by decide +kernel)]; exact ⟨rfl, rfl⟩))
    (fun os started H enc _ F => by rw [OpenClaim.pre_eq_preRow]; exact under_lifted os started H enc F)

theorem under_plain (f : FuncId) (fn : Func) (hf : Tryd.pinned.checked.prog.funcNamed "jackfield/jackfieldlaw08.LabelUnder" = some f) (hfn : Tryd.pinned.checked.prog.funcs[f]? = some fn) :
    true = Tryd.pinned.checked.prog.looks [] ∧ ∀ (j : Nat) t, fn.params[j]? = some t → Tryd.pinned.checked.prog.wantsStandIn t = false := by
  obtain rfl : f = 7 := Option.some.inj ((show Tryd.prog.funcNamed "jackfield/jackfieldlaw08.LabelUnder" = some 7 by kernel_rfl).symm.trans hf) |>.symm
  obtain rfl : fn = Tryd.f7 := (Option.some.inj (Tryd.func7.symm.trans hfn)).symm
  refine ⟨by kernel_rfl, fun j t ht => ?_⟩
  have hall : Tryd.f7.params.toList.all (fun t => !Tryd.prog.wantsStandIn t) = true := by kernel_rfl
  have := List.all_eq_true.1 hall t (by simpa using Array.mem_of_getElem? ht)
  have h2 : Tryd.prog.wantsStandIn t = false := by simpa using this
  exact h2

theorem under_card : Rows.LabelUnderCardSaid :=
  Claim7.holds_tied_plain_at .later [] _ _ _ _ under_said (fun _ h => by cases h) (by kernel_rfl) (fun _ h => by cases h) labelUnder_row_tie rfl ⟨rfl, rfl⟩ (by kernel_rfl) rfl under_plain (by kernel_rfl)
#print axioms under_card
end Go.Proofs.YtfphfljndhideaaDoor
