/- ShareScales (jackfieldlaw15/extra.go) answers true for all weights and numbers, whatever lies in memory, and lets its arguments stand. -/
import Derived.Test.YtpnobanhffjmaaaRow
import Derived.Test.YtpnobanhffjmaaaRows
import Derived.LaidLaws
import Derived.Test.YtpnobanhffjmaaaScales
import Derived.Test.YtpnobanhffjmaaaRowF
set_option linter.unusedVariables false
set_option linter.unusedSimpArgs false
namespace Go.Proofs.Ytpnobanhffjmaaa
open Go.ChangeShapes Go.WideShapes Go.ChangeAt Go.RowKit Jw

theorem scales_own : ownKnob Try.prog.godebug = none := by kernel_rfl

theorem scales_contract (H : Type) (enc : TypeId × Value → H) (W : World) (base : Nat) (args : Array Value) (ds gs : List (DataW H)) (before : List MemPlace)
    (hval : ∀ (j : Nat) t v, Try.f7.params[j]? = some t → args[j]? = some v → Value.okWide Try.prog W .any base t v)
    (hW : DataW.Whole enc Try.prog Try.f7.params.toList Rows.shareScalesSpec.vars false W args.toList ds gs before) (hL : laidMetH Try.prog Rows.shareScalesRow.laid W)
    (hsz : (DataW.weightsEach Try.prog (Try.f7.params.toList ++ []) (ds ++ gs)).all (· ≤ reachBytes) = true) (hsh : W.ShapedOpen Try.prog) :
    Calls Try.prog 7 args W fun e W' => ∃ v, e = .returned v ∧ Rows.shareScalesSpec.post enc Try.prog Try.f7 false true false false W args v W' := by
  have hW' := hW
  obtain ⟨p, q, hA0, hV, rfl, hfz, hnd⟩ := hW
  have hA : DataW.TrodAll enc Try.prog W 0 (fun _ => true) true Try.f7.params.toList args.toList ds p := hA0
  rw [Try.params7] at hA hval
  obtain ⟨v0, vs0, d0, ds0, p0, q0, hargs, rfl, rfl, h0, r0⟩ := trodAll_cons hA
  obtain ⟨v1, vs1, d1, ds1, p1, q1, rfl, rfl, rfl, h1, r1⟩ := trodAll_cons r0
  obtain ⟨v2, vs2, d2, ds2, p2, q2, rfl, rfl, rfl, h2, r2⟩ := trodAll_cons r1
  obtain ⟨rfl, rfl, rfl⟩ := trodAll_nil r2
  obtain rfl : args = #[v0, v1, v2] := by cases args; simp_all
  obtain ⟨rfl, rfl⟩ := trodVars_none hV
  have hlt0 : ∀ x ∈ p0, x.block < W.heap.size := fun x hx => by
    have := hW'.lt x (by simp [hx])
    simpa using this
  have hlt1 : ∀ x ∈ p1, x.block < W.heap.size := fun x hx => by
    have := hW'.lt x (by simp [hx])
    simpa using this
  have hlt2 : ∀ x ∈ p2, x.block < W.heap.size := fun x hx => by
    have := hW'.lt x (by simp [hx])
    simpa using this
  obtain ⟨ao0, cap0, l0, sp0, rfl, _, hm0, hc0, hb0, hd0⟩ := open_nums Try.underlying33 Try.underlying3 (by kernel_rfl) (hval 0 33 v0 rfl rfl) h0 hlt0
  unfold maxLen at hm0
  obtain ⟨n1, rfl, rfl, rfl, wf1⟩ := open_int Try.underlying3 (hval 1 3 v1 rfl rfl) h1
  simp [Lit.wf] at wf1
  obtain ⟨n2, rfl, rfl, rfl, wf2⟩ := open_int Try.underlying3 (hval 2 3 v2 rfl rfl) h2
  simp [Lit.wf] at wf2
  refine (scales_walk W ao0 l0 cap0 ⟨ao0, cap0, rfl, hc0⟩ hm0 n1 n2).mono fun e W' ⟨he, hB⟩ => ?_
  subst he
  exact ⟨_, rfl, law_post (tb := 4) (by kernel_rfl) (by kernel_rfl) rfl Try.underlying4 rfl hW' rfl hB⟩

/-- A world for the witness: the variables hold what their initialisers lay. -/
noncomputable def scales_world (os : Os) : World :=
  let w0 := World.holding Try.prog os ⟨#[], #[], []⟩
  { w0 with heap := w0.heap }
theorem scales_met (os : Os) : laidMet Try.prog Rows.shareScalesRow.laid ((scales_world os).forCall (fun _ _ => 0) ⟨#[], #[.slice none 0 0, .int .i64 0, .int .i64 0], []⟩).memory :=
  laidMet_of_run' 8 (by kernel_rfl) (by kernel_rfl)
theorem scales_reads (os : Os) {H : Type} (enc : TypeId × Value → H) : ∃ places, DataW.whole enc Try.prog ((scales_world os).forCall (fun _ _ => 0) ⟨#[], #[.slice none 0 0, .int .i64 0, .int .i64 0], []⟩).memory Try.f7.params.toList Rows.shareScalesSpec.vars false (#[.slice none 0 0, .int .i64 0, .int .i64 0] : Array Value).toList 8 = some ([.nil, .lit (.int .i64 0), .lit (.int .i64 0)], [], places) :=
  ⟨[], by kernel_rfl⟩

set_option maxRecDepth 100000 in
theorem scales_lifted (os : Os) (started : os.Started) (H : Type) (enc : TypeId × Value → H) (F : Stop.Interp) :
    ReturnsInHanded {} Try.checked os 7 .any ((OpenSpec.ofChange Rows.shareScalesSpec).preRow enc Try.prog Try.f7 Rows.shareScalesRow.domain false Rows.shareScalesRow.laid) (((OpenSpec.ofChange Rows.shareScalesSpec).at F).post enc Try.prog Try.f7 false true false false) := by
  obtain ⟨places, hx⟩ := scales_reads os enc
  refine returnsInHanded_of_row (C := Try.checked) (s := (OpenSpec.ofChange Rows.shareScalesSpec)) scales_own started (by kernel_rfl) Try.func7
    (witness_row_at (enc := enc) (C := Try.checked) false (scales_world os) #[.slice none 0 0, .int .i64 0, .int .i64 0] rfl (by kernel_rfl) (by kernel_rfl) (by kernel_rfl)
      (OpenSpec.preRow_of_cond 8 hx (by kernel_rfl) (fun k hk => by cases hk) (by kernel_rfl) (scales_met os))) ?_
  intro W base args ds gs before hval hW _ hcond hsz hL hsh _
  exact scales_contract H enc W base args ds gs before hval hW hL hsz hsh

theorem scales_said : Rows.ShareScalesSaid :=
  OpenClaim.holds_of_cond 7 Try.f7 rfl rfl rfl rfl rfl rfl rfl ⟨rfl, rfl, rfl, rfl, rfl⟩ rfl rfl rfl rfl rfl (by kernel_rfl) Try.func7 (by kernel_rfl)
    (of_decide_eq_true (by kernel_rfl)) (by unfold Func.isWrapper; first | (rw [if_pos (by decide +kernel)]; kernel_rfl) | (rw [if_neg (by decide +kernel)]; exact ⟨rfl, rfl⟩))
    (fun os started H enc _ F => by rw [OpenClaim.pre_eq_preRow]; exact scales_lifted os started H enc F)

#print axioms scales_said
end Go.Proofs.Ytpnobanhffjmaaa
