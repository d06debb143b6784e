/- RoutesPlays (jackfieldlaw16/law.go) answers true for every script, whatever lies in memory, and lets its arguments stand; the variables that its row lists are tied to the program's text. -/
import Derived.Test.YtgimmdnmndbcpaaGreatDoorCommon
import Derived.Test.YtgimmdnmndbcpaaGreatDoorZ11
import Derived.Test.YtgimmdnmndbcpaaGreatDoorPo
set_option linter.unusedVariables false
set_option linter.unusedSimpArgs false
namespace Go.Proofs.YtgimmdnmndbcpaaGreatDoor
open Go.ChangeShapes Go.WideShapes Go.ChangeAt Go.RowKit Jw

/-- The errors that the row lists. -/
def plays_list : List (String × List UInt8 × Nat) :=
  [("jackfield/api.ErrRange", [106, 97, 99, 107, 102, 105, 101, 108, 100, 58, 32, 114, 97, 110, 103, 101], 0), ("jackfield/api.ErrShort", [106, 97, 99, 107, 102, 105, 101, 108, 100, 58, 32, 115, 104, 111, 114, 116], 1), ("jackfield/api.ErrLong", [106, 97, 99, 107, 102, 105, 101, 108, 100, 58, 32, 108, 111, 110, 103], 2), ("jackfield/api.ErrTail", [106, 97, 99, 107, 102, 105, 101, 108, 100, 58, 32, 116, 97, 105, 108], 3), ("jackfield/api.ErrBroken", [106, 97, 99, 107, 102, 105, 101, 108, 100, 58, 32, 98, 114, 111, 107, 101, 110], 4), ("jackfield/api.ErrPower", [106, 97, 99, 107, 102, 105, 101, 108, 100, 58, 32, 112, 111, 119, 101, 114], 5), ("jackfield/api.ErrFrame", [106, 97, 99, 107, 102, 105, 101, 108, 100, 58, 32, 102, 114, 97, 109, 101], 6), ("jackfield/api.ErrFull", [106, 97, 99, 107, 102, 105, 101, 108, 100, 58, 32, 102, 117, 108, 108], 7), ("jackfield/api.ErrGap", [106, 97, 99, 107, 102, 105, 101, 108, 100, 58, 32, 103, 97, 112], 8), ("jackfield/api.ErrName", [106, 97, 99, 107, 102, 105, 101, 108, 100, 58, 32, 110, 97, 109, 101], 9), ("jackfield/api.ErrTaken", [106, 97, 99, 107, 102, 105, 101, 108, 100, 58, 32, 116, 97, 107, 101, 110], 10), ("jackfield/api.ErrNone", [106, 97, 99, 107, 102, 105, 101, 108, 100, 58, 32, 110, 111, 110, 101], 11), ("jackfield/api.ErrOwner", [106, 97, 99, 107, 102, 105, 101, 108, 100, 58, 32, 111, 119, 110, 101, 114], 12), ("jackfield/api.ErrProof", [106, 97, 99, 107, 102, 105, 101, 108, 100, 58, 32, 112, 114, 111, 111, 102], 13), ("jackfield/api.ErrWindow", [106, 97, 99, 107, 102, 105, 101, 108, 100, 58, 32, 119, 105, 110, 100, 111, 119], 14), ("jackfield/api.ErrStream", [106, 97, 99, 107, 102, 105, 101, 108, 100, 58, 32, 115, 116, 114, 101, 97, 109], 15), ("jackfield/api.ErrState", [106, 97, 99, 107, 102, 105, 101, 108, 100, 58, 32, 115, 116, 97, 116, 101], 16), ("jackfield/api.ErrBusy", [106, 97, 99, 107, 102, 105, 101, 108, 100, 58, 32, 98, 117, 115, 121], 17)]
theorem plays_at (k : Nat) (h : k < 18) : ∃ x, plays_list[k]? = some x ∧ x.2.2 = k := by
  match k, h with
  | 0, _ => exact ⟨_, rfl, rfl⟩ | 1, _ => exact ⟨_, rfl, rfl⟩ | 2, _ => exact ⟨_, rfl, rfl⟩ | 3, _ => exact ⟨_, rfl, rfl⟩ | 4, _ => exact ⟨_, rfl, rfl⟩ | 5, _ => exact ⟨_, rfl, rfl⟩
  | 6, _ => exact ⟨_, rfl, rfl⟩ | 7, _ => exact ⟨_, rfl, rfl⟩ | 8, _ => exact ⟨_, rfl, rfl⟩ | 9, _ => exact ⟨_, rfl, rfl⟩ | 10, _ => exact ⟨_, rfl, rfl⟩ | 11, _ => exact ⟨_, rfl, rfl⟩
  | 12, _ => exact ⟨_, rfl, rfl⟩ | 13, _ => exact ⟨_, rfl, rfl⟩ | 14, _ => exact ⟨_, rfl, rfl⟩ | 15, _ => exact ⟨_, rfl, rfl⟩ | 16, _ => exact ⟨_, rfl, rfl⟩ | 17, _ => exact ⟨_, rfl, rfl⟩
  | k + 18, h => exact absurd h (by omega)
theorem plays_sents {W : World} {A : Nat → Addr} (hAc : ∀ i x, plays_list[i]? = some x → W.cell? ⟨x.2.2, 0, none⟩ = some (er (A i)) ∧ ∃ c t, W.heap[(A i).block]? = some (.cells c t (0, 0)))
    (hAne : ∀ i j, i < plays_list.length → j < plays_list.length → i ≠ j → A i ≠ A j) : Sents W A := by
  have hl : plays_list.length = 18 := rfl
  have hc : ∀ i, i < 18 → W.cell? ⟨i, 0, none⟩ = some (er (A i)) := fun i hi => by
    obtain ⟨x, hx, e⟩ := plays_at i hi
    have := (hAc i x hx).1
    rw [e] at this
    exact this
  refine ⟨hc, fun i hi => ?_, fun i j hij hj => hAne i j (by omega) (by omega) (by omega), ?_⟩
  · obtain ⟨x, hx, e⟩ := plays_at i hi
    exact (hAc i x hx).2
  · have := block_lt_of_cell (hc 17 (by decide))
    exact this

set_option maxRecDepth 20000 in
theorem plays_contract (H : Type) (enc : TypeId × Value → H) (W : World) (base : Nat) (args : Array Value) (ds gs : List (DataW H)) (before : List MemPlace)
    (hval : ∀ (j : Nat) t v, Tryz.f3.params[j]? = some t → args[j]? = some v → Value.okWide Tryz.prog W .any base t v)
    (hW : DataW.Whole enc Tryz.prog Tryz.f3.params.toList Rows.routesPlaysSpec.vars false W args.toList ds gs before) (hL : laidMetH Tryz.prog Rows.routesPlaysRow.laid W)
    (hsz : (DataW.weightsEach Tryz.prog (Tryz.f3.params.toList ++ []) (ds ++ gs)).all (· ≤ reachBytes) = true) (hsh : W.ShapedOpen Tryz.prog) :
    Calls Tryz.prog 3 args W fun e W' => ∃ v, e = .returned v ∧ Rows.routesPlaysSpec.post enc Tryz.prog Tryz.f3 false true false false W args v W' := by
  have hW' := hW
  obtain ⟨p, q, hA0, hV, rfl, hfz, hnd⟩ := hW
  have hA : DataW.TrodAll enc Tryz.prog W 0 (fun _ => true) true Tryz.f3.params.toList args.toList ds p := hA0
  rw [Tryz.params3] at hA hval
  obtain ⟨v0, vs0, d0, ds0, p0, q0, hargs, rfl, rfl, h0, r0⟩ := trodAll_cons hA
  obtain ⟨rfl, rfl, rfl⟩ := trodAll_nil r0
  obtain rfl : args = #[v0] := by cases args; simp_all
  obtain ⟨rfl, rfl⟩ := trodVars_none hV
  have hlt0 : ∀ x ∈ p0, x.block < W.heap.size := fun x hx => by
    have := hW'.lt x (by simp [hx])
    simpa using this
  obtain ⟨L0, hR0, hm0, hw0⟩ := open_pos Tryz.underlying22 Tryz.underlying34 (by kernel_rfl) (by kernel_rfl) Tryz.underlying3 Tryz.underlying3 Tryz.underlying3 Tryz.underlying9 Tryz.underlying31 Tryz.underlying32 Tryz.underlying3 (by kernel_rfl) (hval 0 22 v0 rfl rfl) h0 hlt0
  unfold maxLen at hm0
  obtain ⟨A, hAc, hAne⟩ := sents sentTypes plays_list [("unicode/utf8.first", Rows.laid_unicode_utf8_first)] (laid_tail (show laidMet Tryz.prog (("unicode/utf8.acceptRanges", Rows.laid_unicode_utf8_acceptRanges) :: (plays_list.map (fun x => (x.1, sent x.2.1)) ++ [("unicode/utf8.first", Rows.laid_unicode_utf8_first)])) W from hL)) (by kernel_rfl)
  obtain ⟨m, hG⟩ := gw_of hsh (plays_sents hAc hAne)
  refine (playsLaw_walk v0 L0 W A m hG (plays_sents hAc hAne) hR0 (by omega)).mono fun e W' ⟨he, hB⟩ => ?_
  subst he
  exact ⟨_, rfl, law_post (tb := 4) (by kernel_rfl) (by kernel_rfl) rfl Tryz.underlying4 rfl hW' rfl hB⟩

/-- A world for the witness: the variables hold what their initialisers lay. -/
noncomputable def plays_world (os : Os) : World :=
  let w0 := World.holding Tryz.prog os ⟨#[.cells #[.string { data := #[106, 97, 99, 107, 102, 105, 101, 108, 100, 58, 32, 114, 97, 110, 103, 101] }] 143, .cells #[.string { data := #[106, 97, 99, 107, 102, 105, 101, 108, 100, 58, 32, 115, 104, 111, 114, 116] }] 143, .cells #[.string { data := #[106, 97, 99, 107, 102, 105, 101, 108, 100, 58, 32, 108, 111, 110, 103] }] 143, .cells #[.string { data := #[106, 97, 99, 107, 102, 105, 101, 108, 100, 58, 32, 116, 97, 105, 108] }] 143, .cells #[.string { data := #[106, 97, 99, 107, 102, 105, 101, 108, 100, 58, 32, 98, 114, 111, 107, 101, 110] }] 143, .cells #[.string { data := #[106, 97, 99, 107, 102, 105, 101, 108, 100, 58, 32, 112, 111, 119, 101, 114] }] 143, .cells #[.string { data := #[106, 97, 99, 107, 102, 105, 101, 108, 100, 58, 32, 102, 114, 97, 109, 101] }] 143, .cells #[.string { data := #[106, 97, 99, 107, 102, 105, 101, 108, 100, 58, 32, 102, 117, 108, 108] }] 143, .cells #[.string { data := #[106, 97, 99, 107, 102, 105, 101, 108, 100, 58, 32, 103, 97, 112] }] 143, .cells #[.string { data := #[106, 97, 99, 107, 102, 105, 101, 108, 100, 58, 32, 110, 97, 109, 101] }] 143, .cells #[.string { data := #[106, 97, 99, 107, 102, 105, 101, 108, 100, 58, 32, 116, 97, 107, 101, 110] }] 143, .cells #[.string { data := #[106, 97, 99, 107, 102, 105, 101, 108, 100, 58, 32, 110, 111, 110, 101] }] 143, .cells #[.string { data := #[106, 97, 99, 107, 102, 105, 101, 108, 100, 58, 32, 111, 119, 110, 101, 114] }] 143, .cells #[.string { data := #[106, 97, 99, 107, 102, 105, 101, 108, 100, 58, 32, 112, 114, 111, 111, 102] }] 143, .cells #[.string { data := #[106, 97, 99, 107, 102, 105, 101, 108, 100, 58, 32, 119, 105, 110, 100, 111, 119] }] 143, .cells #[.string { data := #[106, 97, 99, 107, 102, 105, 101, 108, 100, 58, 32, 115, 116, 114, 101, 97, 109] }] 143, .cells #[.string { data := #[106, 97, 99, 107, 102, 105, 101, 108, 100, 58, 32, 115, 116, 97, 116, 101] }] 143, .cells #[.string { data := #[106, 97, 99, 107, 102, 105, 101, 108, 100, 58, 32, 98, 117, 115, 121] }] 143], #[], []⟩
  { w0 with heap := ((((((((((((((((((((w0.heap.modify 0 fun | .cells _ t frozen => .cells #[.iface 126 (.pointer (some ⟨low + 0, 0, none⟩))] t frozen | o => o).modify 1 fun | .cells _ t frozen => .cells #[.iface 126 (.pointer (some ⟨low + 1, 0, none⟩))] t frozen | o => o).modify 2 fun | .cells _ t frozen => .cells #[.iface 126 (.pointer (some ⟨low + 2, 0, none⟩))] t frozen | o => o).modify 3 fun | .cells _ t frozen => .cells #[.iface 126 (.pointer (some ⟨low + 3, 0, none⟩))] t frozen | o => o).modify 4 fun | .cells _ t frozen => .cells #[.iface 126 (.pointer (some ⟨low + 4, 0, none⟩))] t frozen | o => o).modify 5 fun | .cells _ t frozen => .cells #[.iface 126 (.pointer (some ⟨low + 5, 0, none⟩))] t frozen | o => o).modify 6 fun | .cells _ t frozen => .cells #[.iface 126 (.pointer (some ⟨low + 6, 0, none⟩))] t frozen | o => o).modify 7 fun | .cells _ t frozen => .cells #[.iface 126 (.pointer (some ⟨low + 7, 0, none⟩))] t frozen | o => o).modify 8 fun | .cells _ t frozen => .cells #[.iface 126 (.pointer (some ⟨low + 8, 0, none⟩))] t frozen | o => o).modify 9 fun | .cells _ t frozen => .cells #[.iface 126 (.pointer (some ⟨low + 9, 0, none⟩))] t frozen | o => o).modify 10 fun | .cells _ t frozen => .cells #[.iface 126 (.pointer (some ⟨low + 10, 0, none⟩))] t frozen | o => o).modify 11 fun | .cells _ t frozen => .cells #[.iface 126 (.pointer (some ⟨low + 11, 0, none⟩))] t frozen | o => o).modify 12 fun | .cells _ t frozen => .cells #[.iface 126 (.pointer (some ⟨low + 12, 0, none⟩))] t frozen | o => o).modify 13 fun | .cells _ t frozen => .cells #[.iface 126 (.pointer (some ⟨low + 13, 0, none⟩))] t frozen | o => o).modify 14 fun | .cells _ t frozen => .cells #[.iface 126 (.pointer (some ⟨low + 14, 0, none⟩))] t frozen | o => o).modify 15 fun | .cells _ t frozen => .cells #[.iface 126 (.pointer (some ⟨low + 15, 0, none⟩))] t frozen | o => o).modify 16 fun | .cells _ t frozen => .cells #[.iface 126 (.pointer (some ⟨low + 16, 0, none⟩))] t frozen | o => o).modify 17 fun | .cells _ t frozen => .cells #[.iface 126 (.pointer (some ⟨low + 17, 0, none⟩))] t frozen | o => o)).modify 20 fun | .cells _ t frozen => .cells tabFirst t frozen | o => o).modify 21 fun | .cells _ t frozen => .cells tabRanges t frozen | o => o }
theorem plays_met (os : Os) : laidMet Tryz.prog Rows.routesPlaysRow.laid ((plays_world os).forCall (fun _ _ => 0) ⟨#[], #[.slice none 0 0], []⟩).memory :=
  laidMet_of_run' 8 (by kernel_rfl) (by kernel_rfl)
theorem plays_reads (os : Os) {H : Type} (enc : TypeId × Value → H) : ∃ places, DataW.whole enc Tryz.prog ((plays_world os).forCall (fun _ _ => 0) ⟨#[], #[.slice none 0 0], []⟩).memory Tryz.f3.params.toList Rows.routesPlaysSpec.vars false (#[.slice none 0 0] : Array Value).toList 8 = some ([.nil], [], places) :=
  ⟨[], by kernel_rfl⟩

set_option maxRecDepth 100000 in
theorem plays_lifted (os : Os) (started : os.Started) (H : Type) (enc : TypeId × Value → H) (F : Stop.Interp) :
    ReturnsInHanded {} Tryz.checked os 3 .any ((OpenSpec.ofChange Rows.routesPlaysSpec).preRow enc Tryz.prog Tryz.f3 Rows.routesPlaysRow.domain false Rows.routesPlaysRow.laid) (((OpenSpec.ofChange Rows.routesPlaysSpec).at F).post enc Tryz.prog Tryz.f3 false true false false) := by
  obtain ⟨places, hx⟩ := plays_reads os enc
  refine returnsInHanded_of_row (C := Tryz.checked) (s := (OpenSpec.ofChange Rows.routesPlaysSpec)) own started (by kernel_rfl) Tryz.func3
    (witness_row_at (enc := enc) (C := Tryz.checked) false (plays_world os) #[.slice none 0 0] rfl (by kernel_rfl) (by kernel_rfl) (by kernel_rfl)
      (OpenSpec.preRow_of_cond 8 hx (by kernel_rfl) (fun k hk => by cases hk) (by kernel_rfl) (plays_met os))) ?_
  intro W base args ds gs before hval hW _ hcond hsz hL hsh _
  exact plays_contract H enc W base args ds gs before hval hW hL hsz hsh

theorem plays_said : Rows.RoutesPlaysSaid :=
  OpenClaim.holds_of_cond 3 Tryz.f3 rfl rfl rfl rfl rfl rfl rfl ⟨rfl, rfl, rfl, rfl, rfl⟩ rfl rfl rfl rfl rfl (by kernel_rfl) Tryz.func3 (by kernel_rfl)
    (of_decide_eq_true (by kernel_rfl)) (by unfold Func.isWrapper; first | (rw [if_pos (by decide +kernel)]; kernel_rfl) | (rw [if_neg (by decide +kernel)]; exact ⟨rfl, rfl⟩))
    (fun os started H enc _ F => by rw [OpenClaim.pre_eq_preRow]; exact plays_lifted os started H enc F)

theorem plays_plain (f : FuncId) (fn : Func) (hf : Tryz.pinned.checked.prog.funcNamed "jackfield/jackfieldlaw16.RoutesPlays" = some f) (hfn : Tryz.pinned.checked.prog.funcs[f]? = some fn) :
    true = Tryz.pinned.checked.prog.looks [] ∧ ∀ (j : Nat) t, fn.params[j]? = some t → Tryz.pinned.checked.prog.wantsStandIn t = false := by
  obtain rfl : f = 3 := Option.some.inj ((show Tryz.prog.funcNamed "jackfield/jackfieldlaw16.RoutesPlays" = some 3 by kernel_rfl).symm.trans hf) |>.symm
  obtain rfl : fn = Tryz.f3 := (Option.some.inj (Tryz.func3.symm.trans hfn)).symm
  refine ⟨by kernel_rfl, fun j t ht => ?_⟩
  have hall : Tryz.f3.params.toList.all (fun t => !Tryz.prog.wantsStandIn t) = true := by kernel_rfl
  have := List.all_eq_true.1 hall t (by simpa using Array.mem_of_getElem? ht)
  have h2 : Tryz.prog.wantsStandIn t = false := by simpa using this
  exact h2

theorem plays_card : Rows.RoutesPlaysCardSaid :=
  Claim7.holds_tied_plain_at .later [] _ _ _ _ plays_said (fun _ h => by cases h) (by kernel_rfl) (fun _ h => by cases h) routesPlays_row_tie rfl ⟨rfl, rfl⟩ (by kernel_rfl) rfl plays_plain (by kernel_rfl)
#print axioms plays_card
end Go.Proofs.YtgimmdnmndbcpaaGreatDoor
