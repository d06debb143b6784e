/- DrumImages (jackfieldlaw04/extra.go) answers true for every input, whatever lies in memory, and lets its arguments stand; the two errors that its row lists are tied to the program's text. -/
import Derived.Test.YtjjaghiihkdclaaDoorCommon
import Derived.Test.YtjjaghiihkdclaaDoorImages
import Derived.Test.YtjjaghiihkdclaaDoorOpn
set_option linter.unusedVariables false
set_option linter.unusedSimpArgs false
namespace Go.Proofs.YtjjaghiihkdclaaDoor
open Go.ChangeShapes Go.WideShapes Go.ChangeAt Go.RowKit Jw

/-- The errors that the row lists. -/
def images_list : List (String × List UInt8 × Nat) :=
  [("jackfield/api.ErrRange", [106, 97, 99, 107, 102, 105, 101, 108, 100, 58, 32, 114, 97, 110, 103, 101], 0), ("jackfield/api.ErrPower", [106, 97, 99, 107, 102, 105, 101, 108, 100, 58, 32, 112, 111, 119, 101, 114], 1)]

theorem images_contract (H : Type) (enc : TypeId × Value → H) (W : World) (base : Nat) (args : Array Value) (ds gs : List (DataW H)) (before : List MemPlace)
    (hval : ∀ (j : Nat) t v, Tryd.f6.params[j]? = some t → args[j]? = some v → Value.okWide Tryd.prog W .any base t v)
    (hW : DataW.Whole enc Tryd.prog Tryd.f6.params.toList Rows.drumImagesSpec.vars false W args.toList ds gs before) (hL : laidMetH Tryd.prog Rows.drumImagesRow.laid W)
    (hsz : (DataW.weightsEach Tryd.prog (Tryd.f6.params.toList ++ []) (ds ++ gs)).all (· ≤ reachBytes) = true) (hsh : W.ShapedOpen Tryd.prog) :
    Calls Tryd.prog 6 args W fun e W' => ∃ v, e = .returned v ∧ Rows.drumImagesSpec.post enc Tryd.prog Tryd.f6 false true false false W args v W' := by
  have hW' := hW
  obtain ⟨p, q, hA0, hV, rfl, hfz, hnd⟩ := hW
  have hA : DataW.TrodAll enc Tryd.prog W 0 (fun _ => true) true Tryd.f6.params.toList args.toList ds p := hA0
  rw [Tryd.params6] at hA hval
  obtain ⟨v0, vs0, d0, ds0, p0, q0, hargs, rfl, rfl, h0, r0⟩ := trodAll_cons hA
  obtain ⟨v1, vs1, d1, ds1, p1, q1, rfl, rfl, rfl, h1, r1⟩ := trodAll_cons r0
  obtain ⟨v2, vs2, d2, ds2, p2, q2, rfl, rfl, rfl, h2, r2⟩ := trodAll_cons r1
  obtain ⟨rfl, rfl, rfl⟩ := trodAll_nil r2
  obtain rfl : args = #[v0, v1, v2] := by cases args; simp_all
  obtain ⟨rfl, rfl⟩ := trodVars_none hV
  have hlt0 : ∀ x ∈ p0, x.block < W.heap.size := fun x hx => by
    have := hW'.lt x (by simp [hx])
    simpa using this
  have hlt1 : ∀ x ∈ p1, x.block < W.heap.size := fun x hx => by
    have := hW'.lt x (by simp [hx])
    simpa using this
  have hlt2 : ∀ x ∈ p2, x.block < W.heap.size := fun x hx => by
    have := hW'.lt x (by simp [hx])
    simpa using this
  obtain ⟨ao0, cap0, l0, rfl, hlc0, hm0, hn0, hc0, hb0⟩ := open_u8s Tryd.underlying40 Tryd.underlying5 (by kernel_rfl) (hval 0 40 v0 rfl rfl) h0 hlt0
  unfold maxLen at hm0
  obtain ⟨n1, rfl, rfl, rfl, wf1⟩ := open_int Tryd.underlying3 (hval 1 3 v1 rfl rfl) h1
  simp [Lit.wf] at wf1
  obtain ⟨n2, rfl, rfl, rfl, wf2⟩ := open_int Tryd.underlying5 (hval 2 5 v2 rfl rfl) h2
  simp [Lit.wf] at wf2
  obtain ⟨A, hAc, hAne⟩ := sents sentTypes images_list [] hL (by kernel_rfl)
  have hR := (hAc 0 _ rfl).1
  have hRb := (hAc 0 _ rfl).2
  have hP := (hAc 1 _ rfl).1
  have hPb := (hAc 1 _ rfl).2
  refine (images_walk W (A 0) (A 1) ⟨hR, hP⟩ n1 n2 ao0 l0 cap0 ⟨ao0, cap0, rfl, hc0⟩ hlc0 hm0).mono fun e W' ⟨he, hB⟩ => ?_
  subst he
  exact ⟨_, rfl, law_post (tb := 4) (by kernel_rfl) (by kernel_rfl) rfl Tryd.underlying4 rfl hW' rfl hB⟩

/-- A world for the witness: the variables hold what their initialisers lay. -/
noncomputable def images_world (os : Os) : World :=
  let w0 := World.holding Tryd.prog os ⟨#[.cells #[.string { data := #[106, 97, 99, 107, 102, 105, 101, 108, 100, 58, 32, 114, 97, 110, 103, 101] }] 84, .cells #[.string { data := #[106, 97, 99, 107, 102, 105, 101, 108, 100, 58, 32, 112, 111, 119, 101, 114] }] 84], #[], []⟩
  { w0 with heap := ((w0.heap.modify 0 fun | .cells _ t frozen => .cells #[.iface 67 (.pointer (some ⟨low + 0, 0, none⟩))] t frozen | o => o).modify 1 fun | .cells _ t frozen => .cells #[.iface 67 (.pointer (some ⟨low + 1, 0, none⟩))] t frozen | o => o) }
theorem images_met (os : Os) : laidMet Tryd.prog Rows.drumImagesRow.laid ((images_world os).forCall (fun _ _ => 0) ⟨#[], #[.slice none 0 0, .int .i64 0, .int .u8 0], []⟩).memory :=
  laidMet_of_run' 8 (by kernel_rfl) (by kernel_rfl)
theorem images_reads (os : Os) {H : Type} (enc : TypeId × Value → H) : ∃ places, DataW.whole enc Tryd.prog ((images_world os).forCall (fun _ _ => 0) ⟨#[], #[.slice none 0 0, .int .i64 0, .int .u8 0], []⟩).memory Tryd.f6.params.toList Rows.drumImagesSpec.vars false (#[.slice none 0 0, .int .i64 0, .int .u8 0] : Array Value).toList 8 = some ([.nil, .lit (.int .i64 0), .lit (.int .u8 0)], [], places) :=
  ⟨[], by kernel_rfl⟩

set_option maxRecDepth 100000 in
theorem images_lifted (os : Os) (started : os.Started) (H : Type) (enc : TypeId × Value → H) (F : Stop.Interp) :
    ReturnsInHanded {} Tryd.checked os 6 .any ((OpenSpec.ofChange Rows.drumImagesSpec).preRow enc Tryd.prog Tryd.f6 Rows.drumImagesRow.domain false Rows.drumImagesRow.laid) (((OpenSpec.ofChange Rows.drumImagesSpec).at F).post enc Tryd.prog Tryd.f6 false true false false) := by
  obtain ⟨places, hx⟩ := images_reads os enc
  refine returnsInHanded_of_row (C := Tryd.checked) (s := (OpenSpec.ofChange Rows.drumImagesSpec)) own started (by kernel_rfl) Tryd.func6
    (witness_row_at (enc := enc) (C := Tryd.checked) false (images_world os) #[.slice none 0 0, .int .i64 0, .int .u8 0] rfl (by kernel_rfl) (by kernel_rfl) (by kernel_rfl)
      (OpenSpec.preRow_of_cond 8 hx (by kernel_rfl) (fun k hk => by cases hk) (by kernel_rfl) (images_met os))) ?_
  intro W base args ds gs before hval hW _ hcond hsz hL hsh _
  exact images_contract H enc W base args ds gs before hval hW hL hsz hsh

theorem images_said : Rows.DrumImagesSaid :=
  OpenClaim.holds_of_cond 6 Tryd.f6 rfl rfl rfl rfl rfl rfl rfl ⟨rfl, rfl, rfl, rfl, rfl⟩ rfl rfl rfl rfl rfl (by kernel_rfl) Tryd.func6 (by kernel_rfl)
    (of_decide_eq_true (by kernel_rfl)) (by unfold Func.isWrapper; first | (rw [if_pos (by decide +kernel)]; kernel_rfl) | (rw [if_neg (by decide +kernel)]; exact ⟨rfl, rfl⟩))
    (fun os started H enc _ F => by rw [OpenClaim.pre_eq_preRow]; exact images_lifted os started H enc F)

theorem images_plain (f : FuncId) (fn : Func) (hf : Tryd.pinned.checked.prog.funcNamed "jackfield/jackfieldlaw04.DrumImages" = some f) (hfn : Tryd.pinned.checked.prog.funcs[f]? = some fn) :
    true = Tryd.pinned.checked.prog.looks [] ∧ ∀ (j : Nat) t, fn.params[j]? = some t → Tryd.pinned.checked.prog.wantsStandIn t = false := by
  obtain rfl : f = 6 := Option.some.inj ((show Tryd.prog.funcNamed "jackfield/jackfieldlaw04.DrumImages" = some 6 by kernel_rfl).symm.trans hf) |>.symm
  obtain rfl : fn = Tryd.f6 := (Option.some.inj (Tryd.func6.symm.trans hfn)).symm
  refine ⟨by kernel_rfl, fun j t ht => ?_⟩
  have hall : Tryd.f6.params.toList.all (fun t => !Tryd.prog.wantsStandIn t) = true := by kernel_rfl
  have := List.all_eq_true.1 hall t (by simpa using Array.mem_of_getElem? ht)
  have h2 : Tryd.prog.wantsStandIn t = false := by simpa using this
  exact h2

theorem images_card : Rows.DrumImagesCardSaid :=
  Claim7.holds_tied_plain_at .later [] _ _ _ _ images_said (fun _ h => by cases h) (by kernel_rfl) (fun _ h => by cases h) drumImages_row_tie rfl ⟨rfl, rfl⟩ (by kernel_rfl) rfl images_plain (by kernel_rfl)
#print axioms images_card
end Go.Proofs.YtjjaghiihkdclaaDoor
