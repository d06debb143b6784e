/- WindowPlays (jackfieldlaw13/law.go) answers true for every size and every script, whatever lies in memory, and lets its arguments stand; the eighteen errors that its row lists are tied to the program's text. -/
import Derived.Test.YtfklkkckfikfoaaDoorCommon
import Derived.Test.YtfklkkckfikfoaaDoorPlaysA
set_option linter.unusedVariables false
set_option linter.unusedSimpArgs false
namespace Go.Proofs.YtfklkkckfikfoaaDoor
open Go.ChangeShapes Go.WideShapes Go.ChangeAt Go.RowKit Jw

/-- The errors that the row lists. -/
def plays_list : List (String × List UInt8 × Nat) :=
  [("jackfield/api.ErrRange", [106, 97, 99, 107, 102, 105, 101, 108, 100, 58, 32, 114, 97, 110, 103, 101], 0), ("jackfield/api.ErrShort", [106, 97, 99, 107, 102, 105, 101, 108, 100, 58, 32, 115, 104, 111, 114, 116], 1), ("jackfield/api.ErrLong", [106, 97, 99, 107, 102, 105, 101, 108, 100, 58, 32, 108, 111, 110, 103], 2), ("jackfield/api.ErrTail", [106, 97, 99, 107, 102, 105, 101, 108, 100, 58, 32, 116, 97, 105, 108], 3), ("jackfield/api.ErrBroken", [106, 97, 99, 107, 102, 105, 101, 108, 100, 58, 32, 98, 114, 111, 107, 101, 110], 4), ("jackfield/api.ErrPower", [106, 97, 99, 107, 102, 105, 101, 108, 100, 58, 32, 112, 111, 119, 101, 114], 5), ("jackfield/api.ErrFrame", [106, 97, 99, 107, 102, 105, 101, 108, 100, 58, 32, 102, 114, 97, 109, 101], 6), ("jackfield/api.ErrFull", [106, 97, 99, 107, 102, 105, 101, 108, 100, 58, 32, 102, 117, 108, 108], 7), ("jackfield/api.ErrGap", [106, 97, 99, 107, 102, 105, 101, 108, 100, 58, 32, 103, 97, 112], 8), ("jackfield/api.ErrName", [106, 97, 99, 107, 102, 105, 101, 108, 100, 58, 32, 110, 97, 109, 101], 9), ("jackfield/api.ErrTaken", [106, 97, 99, 107, 102, 105, 101, 108, 100, 58, 32, 116, 97, 107, 101, 110], 10), ("jackfield/api.ErrNone", [106, 97, 99, 107, 102, 105, 101, 108, 100, 58, 32, 110, 111, 110, 101], 11), ("jackfield/api.ErrOwner", [106, 97, 99, 107, 102, 105, 101, 108, 100, 58, 32, 111, 119, 110, 101, 114], 12), ("jackfield/api.ErrProof", [106, 97, 99, 107, 102, 105, 101, 108, 100, 58, 32, 112, 114, 111, 111, 102], 13), ("jackfield/api.ErrWindow", [106, 97, 99, 107, 102, 105, 101, 108, 100, 58, 32, 119, 105, 110, 100, 111, 119], 14), ("jackfield/api.ErrStream", [106, 97, 99, 107, 102, 105, 101, 108, 100, 58, 32, 115, 116, 114, 101, 97, 109], 15), ("jackfield/api.ErrState", [106, 97, 99, 107, 102, 105, 101, 108, 100, 58, 32, 115, 116, 97, 116, 101], 16), ("jackfield/api.ErrBusy", [106, 97, 99, 107, 102, 105, 101, 108, 100, 58, 32, 98, 117, 115, 121], 17)]
theorem plays_at (k : Nat) (h : k < 18) : ∃ x, plays_list[k]? = some x ∧ x.2.2 = k := by
  match k, h with
  | 0, _ => exact ⟨_, rfl, rfl⟩ | 1, _ => exact ⟨_, rfl, rfl⟩ | 2, _ => exact ⟨_, rfl, rfl⟩ | 3, _ => exact ⟨_, rfl, rfl⟩ | 4, _ => exact ⟨_, rfl, rfl⟩ | 5, _ => exact ⟨_, rfl, rfl⟩
  | 6, _ => exact ⟨_, rfl, rfl⟩ | 7, _ => exact ⟨_, rfl, rfl⟩ | 8, _ => exact ⟨_, rfl, rfl⟩ | 9, _ => exact ⟨_, rfl, rfl⟩ | 10, _ => exact ⟨_, rfl, rfl⟩ | 11, _ => exact ⟨_, rfl, rfl⟩
  | 12, _ => exact ⟨_, rfl, rfl⟩ | 13, _ => exact ⟨_, rfl, rfl⟩ | 14, _ => exact ⟨_, rfl, rfl⟩ | 15, _ => exact ⟨_, rfl, rfl⟩ | 16, _ => exact ⟨_, rfl, rfl⟩ | 17, _ => exact ⟨_, rfl, rfl⟩
  | k + 18, h => exact absurd h (by omega)
theorem plays_sents {W : World} {A : Nat → Addr} (hAc : ∀ i x, plays_list[i]? = some x → W.cell? ⟨x.2.2, 0, none⟩ = some (er (A i)) ∧ ∃ c t, W.heap[(A i).block]? = some (.cells c t (0, 0)))
    (hAne : ∀ i j, i < plays_list.length → j < plays_list.length → i ≠ j → A i ≠ A j) : Sents W A := by
  have hl : plays_list.length = 18 := rfl
  have hc : ∀ i, i < 18 → W.cell? ⟨i, 0, none⟩ = some (er (A i)) := fun i hi => by
    obtain ⟨x, hx, e⟩ := plays_at i hi
    have := (hAc i x hx).1
    rw [e] at this
    exact this
  refine ⟨hc, fun i hi => ?_, fun i j hij hj => hAne i j (by omega) (by omega) (by omega), ?_⟩
  · obtain ⟨x, hx, e⟩ := plays_at i hi
    exact (hAc i x hx).2
  · have := block_lt_of_cell (hc 17 (by decide))
    exact this

theorem plays_contract (H : Type) (enc : TypeId × Value → H) (W : World) (base : Nat) (args : Array Value) (ds gs : List (DataW H)) (before : List MemPlace)
    (hval : ∀ (j : Nat) t v, Tryd.f5.params[j]? = some t → args[j]? = some v → Value.okWide Tryd.prog W .any base t v)
    (hW : DataW.Whole enc Tryd.prog Tryd.f5.params.toList Rows.windowPlaysSpec.vars false W args.toList ds gs before) (hL : laidMetH Tryd.prog Rows.windowPlaysRow.laid W)
    (hsz : (DataW.weightsEach Tryd.prog (Tryd.f5.params.toList ++ []) (ds ++ gs)).all (· ≤ reachBytes) = true) (hsh : W.ShapedOpen Tryd.prog) :
    Calls Tryd.prog 5 args W fun e W' => ∃ v, e = .returned v ∧ Rows.windowPlaysSpec.post enc Tryd.prog Tryd.f5 false true false false W args v W' := by
  have hW' := hW
  obtain ⟨p, q, hA0, hV, rfl, hfz, hnd⟩ := hW
  have hA : DataW.TrodAll enc Tryd.prog W 0 (fun _ => true) true Tryd.f5.params.toList args.toList ds p := hA0
  rw [Tryd.params5] at hA hval
  obtain ⟨v0, vs0, d0, ds0, p0, q0, hargs, rfl, rfl, h0, r0⟩ := trodAll_cons hA
  obtain ⟨v1, vs1, d1, ds1, p1, q1, rfl, rfl, rfl, h1, r1⟩ := trodAll_cons r0
  obtain ⟨rfl, rfl, rfl⟩ := trodAll_nil r1
  obtain rfl : args = #[v0, v1] := by cases args; simp_all
  obtain ⟨rfl, rfl⟩ := trodVars_none hV
  have hlt0 : ∀ x ∈ p0, x.block < W.heap.size := fun x hx => by
    have := hW'.lt x (by simp [hx])
    simpa using this
  have hlt1 : ∀ x ∈ p1, x.block < W.heap.size := fun x hx => by
    have := hW'.lt x (by simp [hx])
    simpa using this
  obtain ⟨n0, rfl, rfl, rfl, wf0⟩ := open_int Tryd.underlying3 (hval 0 3 v0 rfl rfl) h0
  simp [Lit.wf] at wf0
  obtain ⟨ao1, cap1, l1, rfl, hm1, hc1⟩ := open_pairs Tryd.underlying37 Tryd.underlying48 (by kernel_rfl) rfl rfl (by kernel_rfl) (by kernel_rfl) Tryd.underlying3 Tryd.underlying3 (hval 1 37 v1 rfl rfl) h1 hlt1
  unfold maxLen at hm1
  obtain ⟨A, hAc, hAne⟩ := sents sentTypes plays_list [] hL (by kernel_rfl)
  refine (plays_walk W A (plays_sents hAc hAne) n0 ao1 l1 cap1 ⟨ao1, cap1, rfl, hc1⟩ hm1).mono fun e W' ⟨he, hB⟩ => ?_
  subst he
  exact ⟨_, rfl, law_post (tb := 4) (by kernel_rfl) (by kernel_rfl) rfl Tryd.underlying4 rfl hW' rfl hB⟩

/-- A world for the witness: the variables hold what their initialisers lay. -/
noncomputable def plays_world (os : Os) : World :=
  let w0 := World.holding Tryd.prog os ⟨#[.cells #[.string { data := #[106, 97, 99, 107, 102, 105, 101, 108, 100, 58, 32, 114, 97, 110, 103, 101] }] 80, .cells #[.string { data := #[106, 97, 99, 107, 102, 105, 101, 108, 100, 58, 32, 115, 104, 111, 114, 116] }] 80, .cells #[.string { data := #[106, 97, 99, 107, 102, 105, 101, 108, 100, 58, 32, 108, 111, 110, 103] }] 80, .cells #[.string { data := #[106, 97, 99, 107, 102, 105, 101, 108, 100, 58, 32, 116, 97, 105, 108] }] 80, .cells #[.string { data := #[106, 97, 99, 107, 102, 105, 101, 108, 100, 58, 32, 98, 114, 111, 107, 101, 110] }] 80, .cells #[.string { data := #[106, 97, 99, 107, 102, 105, 101, 108, 100, 58, 32, 112, 111, 119, 101, 114] }] 80, .cells #[.string { data := #[106, 97, 99, 107, 102, 105, 101, 108, 100, 58, 32, 102, 114, 97, 109, 101] }] 80, .cells #[.string { data := #[106, 97, 99, 107, 102, 105, 101, 108, 100, 58, 32, 102, 117, 108, 108] }] 80, .cells #[.string { data := #[106, 97, 99, 107, 102, 105, 101, 108, 100, 58, 32, 103, 97, 112] }] 80, .cells #[.string { data := #[106, 97, 99, 107, 102, 105, 101, 108, 100, 58, 32, 110, 97, 109, 101] }] 80, .cells #[.string { data := #[106, 97, 99, 107, 102, 105, 101, 108, 100, 58, 32, 116, 97, 107, 101, 110] }] 80, .cells #[.string { data := #[106, 97, 99, 107, 102, 105, 101, 108, 100, 58, 32, 110, 111, 110, 101] }] 80, .cells #[.string { data := #[106, 97, 99, 107, 102, 105, 101, 108, 100, 58, 32, 111, 119, 110, 101, 114] }] 80, .cells #[.string { data := #[106, 97, 99, 107, 102, 105, 101, 108, 100, 58, 32, 112, 114, 111, 111, 102] }] 80, .cells #[.string { data := #[106, 97, 99, 107, 102, 105, 101, 108, 100, 58, 32, 119, 105, 110, 100, 111, 119] }] 80, .cells #[.string { data := #[106, 97, 99, 107, 102, 105, 101, 108, 100, 58, 32, 115, 116, 114, 101, 97, 109] }] 80, .cells #[.string { data := #[106, 97, 99, 107, 102, 105, 101, 108, 100, 58, 32, 115, 116, 97, 116, 101] }] 80, .cells #[.string { data := #[106, 97, 99, 107, 102, 105, 101, 108, 100, 58, 32, 98, 117, 115, 121] }] 80], #[], []⟩
  { w0 with heap := ((((((((((((((((((w0.heap.modify 0 fun | .cells _ t frozen => .cells #[.iface 63 (.pointer (some ⟨low + 0, 0, none⟩))] t frozen | o => o).modify 1 fun | .cells _ t frozen => .cells #[.iface 63 (.pointer (some ⟨low + 1, 0, none⟩))] t frozen | o => o).modify 2 fun | .cells _ t frozen => .cells #[.iface 63 (.pointer (some ⟨low + 2, 0, none⟩))] t frozen | o => o).modify 3 fun | .cells _ t frozen => .cells #[.iface 63 (.pointer (some ⟨low + 3, 0, none⟩))] t frozen | o => o).modify 4 fun | .cells _ t frozen => .cells #[.iface 63 (.pointer (some ⟨low + 4, 0, none⟩))] t frozen | o => o).modify 5 fun | .cells _ t frozen => .cells #[.iface 63 (.pointer (some ⟨low + 5, 0, none⟩))] t frozen | o => o).modify 6 fun | .cells _ t frozen => .cells #[.iface 63 (.pointer (some ⟨low + 6, 0, none⟩))] t frozen | o => o).modify 7 fun | .cells _ t frozen => .cells #[.iface 63 (.pointer (some ⟨low + 7, 0, none⟩))] t frozen | o => o).modify 8 fun | .cells _ t frozen => .cells #[.iface 63 (.pointer (some ⟨low + 8, 0, none⟩))] t frozen | o => o).modify 9 fun | .cells _ t frozen => .cells #[.iface 63 (.pointer (some ⟨low + 9, 0, none⟩))] t frozen | o => o).modify 10 fun | .cells _ t frozen => .cells #[.iface 63 (.pointer (some ⟨low + 10, 0, none⟩))] t frozen | o => o).modify 11 fun | .cells _ t frozen => .cells #[.iface 63 (.pointer (some ⟨low + 11, 0, none⟩))] t frozen | o => o).modify 12 fun | .cells _ t frozen => .cells #[.iface 63 (.pointer (some ⟨low + 12, 0, none⟩))] t frozen | o => o).modify 13 fun | .cells _ t frozen => .cells #[.iface 63 (.pointer (some ⟨low + 13, 0, none⟩))] t frozen | o => o).modify 14 fun | .cells _ t frozen => .cells #[.iface 63 (.pointer (some ⟨low + 14, 0, none⟩))] t frozen | o => o).modify 15 fun | .cells _ t frozen => .cells #[.iface 63 (.pointer (some ⟨low + 15, 0, none⟩))] t frozen | o => o).modify 16 fun | .cells _ t frozen => .cells #[.iface 63 (.pointer (some ⟨low + 16, 0, none⟩))] t frozen | o => o).modify 17 fun | .cells _ t frozen => .cells #[.iface 63 (.pointer (some ⟨low + 17, 0, none⟩))] t frozen | o => o) }
theorem plays_met (os : Os) : laidMet Tryd.prog Rows.windowPlaysRow.laid ((plays_world os).forCall (fun _ _ => 0) ⟨#[], #[.int .i64 0, .slice none 0 0], []⟩).memory :=
  laidMet_of_run' 8 (by kernel_rfl) (by kernel_rfl)
theorem plays_reads (os : Os) {H : Type} (enc : TypeId × Value → H) : ∃ places, DataW.whole enc Tryd.prog ((plays_world os).forCall (fun _ _ => 0) ⟨#[], #[.int .i64 0, .slice none 0 0], []⟩).memory Tryd.f5.params.toList Rows.windowPlaysSpec.vars false (#[.int .i64 0, .slice none 0 0] : Array Value).toList 8 = some ([.lit (.int .i64 0), .nil], [], places) :=
  ⟨[], by kernel_rfl⟩

set_option maxRecDepth 100000 in
theorem plays_lifted (os : Os) (started : os.Started) (H : Type) (enc : TypeId × Value → H) (F : Stop.Interp) :
    ReturnsInHanded {} Tryd.checked os 5 .any ((OpenSpec.ofChange Rows.windowPlaysSpec).preRow enc Tryd.prog Tryd.f5 Rows.windowPlaysRow.domain false Rows.windowPlaysRow.laid) (((OpenSpec.ofChange Rows.windowPlaysSpec).at F).post enc Tryd.prog Tryd.f5 false true false false) := by
  obtain ⟨places, hx⟩ := plays_reads os enc
  refine returnsInHanded_of_row (C := Tryd.checked) (s := (OpenSpec.ofChange Rows.windowPlaysSpec)) own started (by kernel_rfl) Tryd.func5
    (witness_row_at (enc := enc) (C := Tryd.checked) false (plays_world os) #[.int .i64 0, .slice none 0 0] rfl (by kernel_rfl) (by kernel_rfl) (by kernel_rfl)
      (OpenSpec.preRow_of_cond 8 hx (by kernel_rfl) (fun k hk => by cases hk) (by kernel_rfl) (plays_met os))) ?_
  intro W base args ds gs before hval hW _ hcond hsz hL hsh _
  exact plays_contract H enc W base args ds gs before hval hW hL hsz hsh

theorem plays_said : Rows.WindowPlaysSaid :=
  OpenClaim.holds_of_cond 5 Tryd.f5 rfl rfl rfl rfl rfl rfl rfl ⟨rfl, rfl, rfl, rfl, rfl⟩ rfl rfl rfl rfl rfl (by kernel_rfl) Tryd.func5 (by kernel_rfl)
    (of_decide_eq_true (by kernel_rfl)) (by unfold Func.isWrapper; first | (rw [if_pos (by decide +kernel)]; kernel_rfl) | (rw [if_neg (by decide +kernel)]; exact ⟨rfl, rfl⟩))
    (fun os started H enc _ F => by rw [OpenClaim.pre_eq_preRow]; exact plays_lifted os started H enc F)

theorem plays_plain (f : FuncId) (fn : Func) (hf : Tryd.pinned.checked.prog.funcNamed "jackfield/jackfieldlaw13.WindowPlays" = some f) (hfn : Tryd.pinned.checked.prog.funcs[f]? = some fn) :
    true = Tryd.pinned.checked.prog.looks [] ∧ ∀ (j : Nat) t, fn.params[j]? = some t → Tryd.pinned.checked.prog.wantsStandIn t = false := by
  obtain rfl : f = 5 := Option.some.inj ((show Tryd.prog.funcNamed "jackfield/jackfieldlaw13.WindowPlays" = some 5 by kernel_rfl).symm.trans hf) |>.symm
  obtain rfl : fn = Tryd.f5 := (Option.some.inj (Tryd.func5.symm.trans hfn)).symm
  refine ⟨by kernel_rfl, fun j t ht => ?_⟩
  have hall : Tryd.f5.params.toList.all (fun t => !Tryd.prog.wantsStandIn t) = true := by kernel_rfl
  have := List.all_eq_true.1 hall t (by simpa using Array.mem_of_getElem? ht)
  have h2 : Tryd.prog.wantsStandIn t = false := by simpa using this
  exact h2

theorem plays_card : Rows.WindowPlaysCardSaid :=
  Claim7.holds_tied_plain_at .later [] _ _ _ _ plays_said (fun _ h => by cases h) (by kernel_rfl) (fun _ h => by cases h) windowPlays_row_tie rfl ⟨rfl, rfl⟩ (by kernel_rfl) rfl plays_plain (by kernel_rfl)
#print axioms plays_card
end Go.Proofs.YtfklkkckfikfoaaDoor
