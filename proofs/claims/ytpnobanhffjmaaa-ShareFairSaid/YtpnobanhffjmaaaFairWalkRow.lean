/- ShareFair (jackfieldlaw15/law.go) answers true for all weights and numbers, whatever lies in memory, and lets its arguments stand. -/
import Derived.Test.YtpnobanhffjmaaaRow
import Derived.Test.YtpnobanhffjmaaaRows
import Derived.LaidLaws
import Derived.Test.YtpnobanhffjmaaaFairWalk
import Derived.Test.YtpnobanhffjmaaaRowF
set_option linter.unusedVariables false
set_option linter.unusedSimpArgs false
namespace Go.Proofs.Ytpnobanhffjmaaa
open Go.ChangeShapes Go.WideShapes Go.ChangeAt Go.RowKit Jw

theorem fair_own : ownKnob Try.prog.godebug = none := by kernel_rfl

theorem fair_contract (H : Type) (enc : TypeId × Value → H) (W : World) (base : Nat) (args : Array Value) (ds gs : List (DataW H)) (before : List MemPlace)
    (hval : ∀ (j : Nat) t v, Try.f9.params[j]? = some t → args[j]? = some v → Value.okWide Try.prog W .any base t v)
    (hW : DataW.Whole enc Try.prog Try.f9.params.toList Rows.shareFairSpec.vars false W args.toList ds gs before) (hL : laidMetH Try.prog Rows.shareFairRow.laid W)
    (hsz : (DataW.weightsEach Try.prog (Try.f9.params.toList ++ []) (ds ++ gs)).all (· ≤ reachBytes) = true) (hsh : W.ShapedOpen Try.prog) :
    Calls Try.prog 9 args W fun e W' => ∃ v, e = .returned v ∧ Rows.shareFairSpec.post enc Try.prog Try.f9 false true false false W args v W' := by
  have hW' := hW
  obtain ⟨p, q, hA0, hV, rfl, hfz, hnd⟩ := hW
  have hA : DataW.TrodAll enc Try.prog W 0 (fun _ => true) true Try.f9.params.toList args.toList ds p := hA0
  rw [Try.params9] at hA hval
  obtain ⟨v0, vs0, d0, ds0, p0, q0, hargs, rfl, rfl, h0, r0⟩ := trodAll_cons hA
  obtain ⟨v1, vs1, d1, ds1, p1, q1, rfl, rfl, rfl, h1, r1⟩ := trodAll_cons r0
  obtain ⟨rfl, rfl, rfl⟩ := trodAll_nil r1
  obtain rfl : args = #[v0, v1] := by cases args; simp_all
  obtain ⟨rfl, rfl⟩ := trodVars_none hV
  have hlt0 : ∀ x ∈ p0, x.block < W.heap.size := fun x hx => by
    have := hW'.lt x (by simp [hx])
    simpa using this
  have hlt1 : ∀ x ∈ p1, x.block < W.heap.size := fun x hx => by
    have := hW'.lt x (by simp [hx])
    simpa using this
  obtain ⟨ao0, cap0, l0, sp0, rfl, _, hm0, hc0, hb0, hd0⟩ := open_nums Try.underlying33 Try.underlying3 (by kernel_rfl) (hval 0 33 v0 rfl rfl) h0 hlt0
  unfold maxLen at hm0
  obtain ⟨n1, rfl, rfl, rfl, wf1⟩ := open_int Try.underlying3 (hval 1 3 v1 rfl rfl) h1
  simp [Lit.wf] at wf1
  refine (fair_walk W ao0 l0 cap0 ⟨ao0, cap0, rfl, hc0⟩ hm0 n1).mono fun e W' ⟨he, hB⟩ => ?_
  subst he
  exact ⟨_, rfl, law_post (tb := 4) (by kernel_rfl) (by kernel_rfl) rfl Try.underlying4 rfl hW' rfl hB⟩

/-- A world for the witness: the variables hold what their initialisers lay. -/
noncomputable def fair_world (os : Os) : World :=
  let w0 := World.holding Try.prog os ⟨#[], #[], []⟩
  { w0 with heap := w0.heap }
theorem fair_met (os : Os) : laidMet Try.prog Rows.shareFairRow.laid ((fair_world os).forCall (fun _ _ => 0) ⟨#[], #[.slice none 0 0, .int .i64 0], []⟩).memory :=
  laidMet_of_run' 8 (by kernel_rfl) (by kernel_rfl)
theorem fair_reads (os : Os) {H : Type} (enc : TypeId × Value → H) : ∃ places, DataW.whole enc Try.prog ((fair_world os).forCall (fun _ _ => 0) ⟨#[], #[.slice none 0 0, .int .i64 0], []⟩).memory Try.f9.params.toList Rows.shareFairSpec.vars false (#[.slice none 0 0, .int .i64 0] : Array Value).toList 8 = some ([.nil, .lit (.int .i64 0)], [], places) :=
  ⟨[], by kernel_rfl⟩

set_option maxRecDepth 100000 in
theorem fair_lifted (os : Os) (started : os.Started) (H : Type) (enc : TypeId × Value → H) (F : Stop.Interp) :
    ReturnsInHanded {} Try.checked os 9 .any ((OpenSpec.ofChange Rows.shareFairSpec).preRow enc Try.prog Try.f9 Rows.shareFairRow.domain false Rows.shareFairRow.laid) (((OpenSpec.ofChange Rows.shareFairSpec).at F).post enc Try.prog Try.f9 false true false false) := by
  obtain ⟨places, hx⟩ := fair_reads os enc
  refine returnsInHanded_of_row (C := Try.checked) (s := (OpenSpec.ofChange Rows.shareFairSpec)) fair_own started (by kernel_rfl) Try.func9
    (witness_row_at (enc := enc) (C := Try.checked) false (fair_world os) #[.slice none 0 0, .int .i64 0] rfl (by kernel_rfl) (by kernel_rfl) (by kernel_rfl)
      (OpenSpec.preRow_of_cond 8 hx (by kernel_rfl) (fun k hk => by cases hk) (by kernel_rfl) (fair_met os))) ?_
  intro W base args ds gs before hval hW _ hcond hsz hL hsh _
  exact fair_contract H enc W base args ds gs before hval hW hL hsz hsh

theorem fair_said : Rows.ShareFairSaid :=
  OpenClaim.holds_of_cond 9 Try.f9 rfl rfl rfl rfl rfl rfl rfl ⟨rfl, rfl, rfl, rfl, rfl⟩ rfl rfl rfl rfl rfl (by kernel_rfl) Try.func9 (by kernel_rfl)
    (of_decide_eq_true (by kernel_rfl)) (by unfold Func.isWrapper; first | (rw [if_pos (by decide +kernel)]; kernel_rfl) | (rw [if_neg (by decide +kernel)]; exact ⟨rfl, rfl⟩))
    (fun os started H enc _ F => by rw [OpenClaim.pre_eq_preRow]; exact fair_lifted os started H enc F)

#print axioms fair_said
end Go.Proofs.Ytpnobanhffjmaaa
