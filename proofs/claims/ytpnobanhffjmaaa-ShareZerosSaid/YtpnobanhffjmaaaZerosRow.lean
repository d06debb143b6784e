/- ShareZeros (jackfieldlaw15/law.go) answers true for all weights, whatever lies in memory, and lets its argument stand. -/
import Derived.Test.YtpnobanhffjmaaaRow
import Derived.Test.YtpnobanhffjmaaaRows
import Derived.LaidLaws
import Derived.Test.YtpnobanhffjmaaaZeros
import Derived.Test.YtpnobanhffjmaaaRowF
namespace Go.Proofs.Ytpnobanhffjmaaa
open Go.ChangeShapes Go.WideShapes Go.ChangeAt Go.RowKit Jw

theorem zeros_own : ownKnob Try.prog.godebug = none := by kernel_rfl

theorem zeros_contract (H : Type) (enc : TypeId × Value → H) (W : World) (base : Nat) (args : Array Value) (ds gs : List (DataW H)) (before : List MemPlace)
    (hval : ∀ (j : Nat) t v, Try.f3.params[j]? = some t → args[j]? = some v → Value.okWide Try.prog W .any base t v)
    (hW : DataW.Whole enc Try.prog Try.f3.params.toList Rows.shareZerosSpec.vars false W args.toList ds gs before) (hL : laidMetH Try.prog Rows.shareZerosRow.laid W)
    (hsz : (DataW.weightsEach Try.prog (Try.f3.params.toList ++ []) (ds ++ gs)).all (· ≤ reachBytes) = true) (hsh : W.ShapedOpen Try.prog) :
    Calls Try.prog 3 args W fun e W' => ∃ v, e = .returned v ∧ Rows.shareZerosSpec.post enc Try.prog Try.f3 false true false false W args v W' := by
  have hW' := hW
  obtain ⟨p, q, hA0, hV, rfl, hfz, hnd⟩ := hW
  have hA : DataW.TrodAll enc Try.prog W 0 (fun _ => true) true Try.f3.params.toList args.toList ds p := hA0
  rw [Try.params3] at hA hval
  obtain ⟨v0, vs0, d0, ds0, p0, q0, hargs, rfl, rfl, h0, r0⟩ := trodAll_cons hA
  obtain ⟨rfl, rfl, rfl⟩ := trodAll_nil r0
  obtain rfl : args = #[v0] := by cases args; simp_all
  obtain ⟨rfl, rfl⟩ := trodVars_none hV
  have hlt0 : ∀ x ∈ p0, x.block < W.heap.size := fun x hx => by
    have := hW'.lt x (by simp [hx])
    simpa using this
  obtain ⟨ao0, cap0, l0, rfl, hm0, hc0⟩ := open_floats Try.underlying22 Try.underlying25 (by kernel_rfl) (hval 0 22 v0 rfl rfl) h0 hlt0
  unfold maxLen at hm0
  refine (zeros_walk W ao0 l0 cap0 ⟨ao0, cap0, rfl, hc0⟩ hm0).mono fun e W' ⟨he, hB⟩ => ?_
  subst he
  exact ⟨_, rfl, law_post (tb := 4) (by kernel_rfl) (by kernel_rfl) rfl Try.underlying4 rfl hW' rfl hB⟩

/-- A world for the witness: the variables hold what their initialisers lay. -/
noncomputable def zeros_world (os : Os) : World :=
  let w0 := World.holding Try.prog os ⟨#[], #[], []⟩
  { w0 with heap := w0.heap }
theorem zeros_met (os : Os) : laidMet Try.prog Rows.shareZerosRow.laid ((zeros_world os).forCall (fun _ _ => 0) ⟨#[], #[.slice none 0 0], []⟩).memory :=
  laidMet_of_run' 8 (by kernel_rfl) (by kernel_rfl)
theorem zeros_reads (os : Os) {H : Type} (enc : TypeId × Value → H) : ∃ places, DataW.whole enc Try.prog ((zeros_world os).forCall (fun _ _ => 0) ⟨#[], #[.slice none 0 0], []⟩).memory Try.f3.params.toList Rows.shareZerosSpec.vars false (#[.slice none 0 0] : Array Value).toList 8 = some ([.nil], [], places) :=
  ⟨[], by kernel_rfl⟩

set_option maxRecDepth 100000 in
theorem zeros_lifted (os : Os) (started : os.Started) (H : Type) (enc : TypeId × Value → H) (F : Stop.Interp) :
    ReturnsInHanded {} Try.checked os 3 .any ((OpenSpec.ofChange Rows.shareZerosSpec).preRow enc Try.prog Try.f3 Rows.shareZerosRow.domain false Rows.shareZerosRow.laid) (((OpenSpec.ofChange Rows.shareZerosSpec).at F).post enc Try.prog Try.f3 false true false false) := by
  obtain ⟨places, hx⟩ := zeros_reads os enc
  refine returnsInHanded_of_row (C := Try.checked) (s := (OpenSpec.ofChange Rows.shareZerosSpec)) zeros_own started (by kernel_rfl) Try.func3
    (witness_row_at (enc := enc) (C := Try.checked) false (zeros_world os) #[.slice none 0 0] rfl (by kernel_rfl) (by kernel_rfl) (by kernel_rfl)
      (OpenSpec.preRow_of_cond 8 hx (by kernel_rfl) (fun k hk => by cases hk) (by kernel_rfl) (zeros_met os))) ?_
  intro W base args ds gs before hval hW _ hcond hsz hL hsh _
  exact zeros_contract H enc W base args ds gs before hval hW hL hsz hsh

theorem zeros_said : Rows.ShareZerosSaid :=
  OpenClaim.holds_of_cond 3 Try.f3 rfl rfl rfl rfl rfl rfl rfl ⟨rfl, rfl, rfl, rfl, rfl⟩ rfl rfl rfl rfl rfl (by kernel_rfl) Try.func3 (by kernel_rfl)
    (of_decide_eq_true (by kernel_rfl)) (by unfold Func.isWrapper; first | (rw [if_pos (by decide +kernel)]; kernel_rfl) | (rw [if_neg (by decide +kernel)]; exact ⟨rfl, rfl⟩))
    (fun os started H enc _ F => by rw [OpenClaim.pre_eq_preRow]; exact zeros_lifted os started H enc F)

#print axioms zeros_said
end Go.Proofs.Ytpnobanhffjmaaa
