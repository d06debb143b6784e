/- SharePicks (jackfieldlaw15/law.go) answers true for all shares, whatever lies in memory, and lets its argument stand. -/
import Derived.Test.YtpnobanhffjmaaaRow
import Derived.Test.YtpnobanhffjmaaaRows
import Derived.LaidLaws
import Derived.Test.YtpnobanhffjmaaaPicks
import Derived.Test.YtpnobanhffjmaaaRowF
set_option linter.unusedVariables false
set_option linter.unusedSimpArgs false
namespace Go.Proofs.Ytpnobanhffjmaaa
open Go.ChangeShapes Go.WideShapes Go.ChangeAt Go.RowKit Jw

theorem picks_own : ownKnob Try.prog.godebug = none := by kernel_rfl

theorem picks_contract (H : Type) (enc : TypeId × Value → H) (W : World) (base : Nat) (args : Array Value) (ds gs : List (DataW H)) (before : List MemPlace)
    (hval : ∀ (j : Nat) t v, Try.f6.params[j]? = some t → args[j]? = some v → Value.okWide Try.prog W .any base t v)
    (hW : DataW.Whole enc Try.prog Try.f6.params.toList Rows.sharePicksSpec.vars false W args.toList ds gs before) (hL : laidMetH Try.prog Rows.sharePicksRow.laid W)
    (hsz : (DataW.weightsEach Try.prog (Try.f6.params.toList ++ []) (ds ++ gs)).all (· ≤ reachBytes) = true) (hsh : W.ShapedOpen Try.prog) :
    Calls Try.prog 6 args W fun e W' => ∃ v, e = .returned v ∧ Rows.sharePicksSpec.post enc Try.prog Try.f6 false true false false W args v W' := by
  have hW' := hW
  obtain ⟨p, q, hA0, hV, rfl, hfz, hnd⟩ := hW
  have hA : DataW.TrodAll enc Try.prog W 0 (fun _ => true) true Try.f6.params.toList args.toList ds p := hA0
  rw [Try.params6] at hA hval
  obtain ⟨v0, vs0, d0, ds0, p0, q0, hargs, rfl, rfl, h0, r0⟩ := trodAll_cons hA
  obtain ⟨rfl, rfl, rfl⟩ := trodAll_nil r0
  obtain rfl : args = #[v0] := by cases args; simp_all
  obtain ⟨rfl, rfl⟩ := trodVars_none hV
  have hlt0 : ∀ x ∈ p0, x.block < W.heap.size := fun x hx => by
    have := hW'.lt x (by simp [hx])
    simpa using this
  obtain ⟨ao0, cap0, l0, rfl, hm0, hnil0, hc0⟩ := open_fpairs Try.underlying24 Try.underlying27 (by kernel_rfl) rfl rfl (by kernel_rfl) (by kernel_rfl) Try.underlying25 Try.underlying25 (hval 0 24 v0 rfl rfl) h0 hlt0
  unfold maxLen at hm0
  refine (picks_walk W ao0 l0 cap0 ⟨ao0, cap0, rfl, hnil0, hc0⟩ hm0).mono fun e W' ⟨he, hB⟩ => ?_
  subst he
  exact ⟨_, rfl, law_post (tb := 4) (by kernel_rfl) (by kernel_rfl) rfl Try.underlying4 rfl hW' rfl hB⟩

/-- A world for the witness: the variables hold what their initialisers lay. -/
noncomputable def picks_world (os : Os) : World :=
  let w0 := World.holding Try.prog os ⟨#[], #[], []⟩
  { w0 with heap := w0.heap }
theorem picks_met (os : Os) : laidMet Try.prog Rows.sharePicksRow.laid ((picks_world os).forCall (fun _ _ => 0) ⟨#[], #[.slice none 0 0], []⟩).memory :=
  laidMet_of_run' 8 (by kernel_rfl) (by kernel_rfl)
theorem picks_reads (os : Os) {H : Type} (enc : TypeId × Value → H) : ∃ places, DataW.whole enc Try.prog ((picks_world os).forCall (fun _ _ => 0) ⟨#[], #[.slice none 0 0], []⟩).memory Try.f6.params.toList Rows.sharePicksSpec.vars false (#[.slice none 0 0] : Array Value).toList 8 = some ([.nil], [], places) :=
  ⟨[], by kernel_rfl⟩

set_option maxRecDepth 100000 in
theorem picks_lifted (os : Os) (started : os.Started) (H : Type) (enc : TypeId × Value → H) (F : Stop.Interp) :
    ReturnsInHanded {} Try.checked os 6 .any ((OpenSpec.ofChange Rows.sharePicksSpec).preRow enc Try.prog Try.f6 Rows.sharePicksRow.domain false Rows.sharePicksRow.laid) (((OpenSpec.ofChange Rows.sharePicksSpec).at F).post enc Try.prog Try.f6 false true false false) := by
  obtain ⟨places, hx⟩ := picks_reads os enc
  refine returnsInHanded_of_row (C := Try.checked) (s := (OpenSpec.ofChange Rows.sharePicksSpec)) picks_own started (by kernel_rfl) Try.func6
    (witness_row_at (enc := enc) (C := Try.checked) false (picks_world os) #[.slice none 0 0] rfl (by kernel_rfl) (by kernel_rfl) (by kernel_rfl)
      (OpenSpec.preRow_of_cond 8 hx (by kernel_rfl) (fun k hk => by cases hk) (by kernel_rfl) (picks_met os))) ?_
  intro W base args ds gs before hval hW _ hcond hsz hL hsh _
  exact picks_contract H enc W base args ds gs before hval hW hL hsz hsh

theorem picks_said : Rows.SharePicksSaid :=
  OpenClaim.holds_of_cond 6 Try.f6 rfl rfl rfl rfl rfl rfl rfl ⟨rfl, rfl, rfl, rfl, rfl⟩ rfl rfl rfl rfl rfl (by kernel_rfl) Try.func6 (by kernel_rfl)
    (of_decide_eq_true (by kernel_rfl)) (by unfold Func.isWrapper; first | (rw [if_pos (by decide +kernel)]; kernel_rfl) | (rw [if_neg (by decide +kernel)]; exact ⟨rfl, rfl⟩))
    (fun os started H enc _ F => by rw [OpenClaim.pre_eq_preRow]; exact picks_lifted os started H enc F)

#print axioms picks_said
end Go.Proofs.Ytpnobanhffjmaaa
