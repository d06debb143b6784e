/- DrumPlays (jackfieldlaw04/law.go) answers true for every input, whatever lies in memory, and lets its arguments stand; the eighteen errors that its row lists are tied to the program's text. -/
import Derived.Test.YtjjaghiihkdclaaDoorCommon
import Derived.Test.YtjjaghiihkdclaaDoorPlays
import Derived.Test.YtjjaghiihkdclaaDoorOpn
set_option linter.unusedVariables false
set_option linter.unusedSimpArgs false
namespace Go.Proofs.YtjjaghiihkdclaaDoor
open Go.ChangeShapes Go.WideShapes Go.ChangeAt Go.RowKit Jw

/-- The errors that the row lists. -/
def plays_list : List (String × List UInt8 × Nat) :=
  [("jackfield/api.ErrRange", [106, 97, 99, 107, 102, 105, 101, 108, 100, 58, 32, 114, 97, 110, 103, 101], 0), ("jackfield/api.ErrShort", [106, 97, 99, 107, 102, 105, 101, 108, 100, 58, 32, 115, 104, 111, 114, 116], 2), ("jackfield/api.ErrLong", [106, 97, 99, 107, 102, 105, 101, 108, 100, 58, 32, 108, 111, 110, 103], 3), ("jackfield/api.ErrTail", [106, 97, 99, 107, 102, 105, 101, 108, 100, 58, 32, 116, 97, 105, 108], 4), ("jackfield/api.ErrBroken", [106, 97, 99, 107, 102, 105, 101, 108, 100, 58, 32, 98, 114, 111, 107, 101, 110], 5), ("jackfield/api.ErrPower", [106, 97, 99, 107, 102, 105, 101, 108, 100, 58, 32, 112, 111, 119, 101, 114], 1), ("jackfield/api.ErrFrame", [106, 97, 99, 107, 102, 105, 101, 108, 100, 58, 32, 102, 114, 97, 109, 101], 6), ("jackfield/api.ErrFull", [106, 97, 99, 107, 102, 105, 101, 108, 100, 58, 32, 102, 117, 108, 108], 7), ("jackfield/api.ErrGap", [106, 97, 99, 107, 102, 105, 101, 108, 100, 58, 32, 103, 97, 112], 8), ("jackfield/api.ErrName", [106, 97, 99, 107, 102, 105, 101, 108, 100, 58, 32, 110, 97, 109, 101], 9), ("jackfield/api.ErrTaken", [106, 97, 99, 107, 102, 105, 101, 108, 100, 58, 32, 116, 97, 107, 101, 110], 10), ("jackfield/api.ErrNone", [106, 97, 99, 107, 102, 105, 101, 108, 100, 58, 32, 110, 111, 110, 101], 11), ("jackfield/api.ErrOwner", [106, 97, 99, 107, 102, 105, 101, 108, 100, 58, 32, 111, 119, 110, 101, 114], 12), ("jackfield/api.ErrProof", [106, 97, 99, 107, 102, 105, 101, 108, 100, 58, 32, 112, 114, 111, 111, 102], 13), ("jackfield/api.ErrWindow", [106, 97, 99, 107, 102, 105, 101, 108, 100, 58, 32, 119, 105, 110, 100, 111, 119], 14), ("jackfield/api.ErrStream", [106, 97, 99, 107, 102, 105, 101, 108, 100, 58, 32, 115, 116, 114, 101, 97, 109], 15), ("jackfield/api.ErrState", [106, 97, 99, 107, 102, 105, 101, 108, 100, 58, 32, 115, 116, 97, 116, 101], 16), ("jackfield/api.ErrBusy", [106, 97, 99, 107, 102, 105, 101, 108, 100, 58, 32, 98, 117, 115, 121], 17)]
/-- The place in the list of the variable of a number. -/
def plays_inv (g : Nat) : Nat := if g = 0 then 0 else if g = 1 then 5 else if g < 6 then g - 1 else g
theorem plays_at (k : Nat) (h : k < 18) : ∃ x, plays_list[plays_inv k]? = some x ∧ x.2.2 = k := by
  match k, h with
  | 0, _ => exact ⟨_, rfl, rfl⟩
  | 1, _ => exact ⟨_, rfl, rfl⟩
  | 2, _ => exact ⟨_, rfl, rfl⟩
  | 3, _ => exact ⟨_, rfl, rfl⟩
  | 4, _ => exact ⟨_, rfl, rfl⟩
  | 5, _ => exact ⟨_, rfl, rfl⟩
  | 6, _ => exact ⟨_, rfl, rfl⟩
  | 7, _ => exact ⟨_, rfl, rfl⟩
  | 8, _ => exact ⟨_, rfl, rfl⟩
  | 9, _ => exact ⟨_, rfl, rfl⟩
  | 10, _ => exact ⟨_, rfl, rfl⟩
  | 11, _ => exact ⟨_, rfl, rfl⟩
  | 12, _ => exact ⟨_, rfl, rfl⟩
  | 13, _ => exact ⟨_, rfl, rfl⟩
  | 14, _ => exact ⟨_, rfl, rfl⟩
  | 15, _ => exact ⟨_, rfl, rfl⟩
  | 16, _ => exact ⟨_, rfl, rfl⟩
  | 17, _ => exact ⟨_, rfl, rfl⟩
  | k + 18, h => exact absurd h (by omega)
theorem plays_inv_lt (k : Nat) (h : k < 18) : plays_inv k < 18 := by unfold plays_inv; split <;> (try split) <;> (try split) <;> omega
theorem plays_inv_ne (i j : Nat) (h : i ≠ j) : plays_inv i ≠ plays_inv j := by
  unfold plays_inv
  by_cases a1 : i = 0 <;> by_cases b1 : j = 0 <;> by_cases a2 : i = 1 <;> by_cases b2 : j = 1 <;> by_cases a3 : i < 6 <;> by_cases b3 : j < 6 <;> simp [a1, b1, a2, b2, a3, b3] <;> omega
theorem plays_sents {W : World} {A : Nat → Addr} (hAc : ∀ i x, plays_list[i]? = some x → W.cell? ⟨x.2.2, 0, none⟩ = some (er (A i)) ∧ ∃ c t, W.heap[(A i).block]? = some (.cells c t (0, 0)))
    (hAne : ∀ i j, i < plays_list.length → j < plays_list.length → i ≠ j → A i ≠ A j) : Sents W (fun g => A (plays_inv g)) := by
  have hl : plays_list.length = 18 := rfl
  have hc : ∀ i, i < 18 → W.cell? ⟨i, 0, none⟩ = some (er (A (plays_inv i))) := fun i hi => by
    obtain ⟨x, hx, e⟩ := plays_at i hi
    have := (hAc _ x hx).1
    rw [e] at this
    exact this
  refine ⟨hc, fun i hi => ?_, fun i j hij hj => hAne _ _ (by have := plays_inv_lt i (by omega); omega) (by have := plays_inv_lt j hj; omega) (plays_inv_ne i j (by omega)), ?_⟩
  · obtain ⟨x, hx, e⟩ := plays_at i hi
    exact (hAc _ x hx).2
  · have := block_lt_of_cell (hc 17 (by decide))
    exact this

theorem plays_contract (H : Type) (enc : TypeId × Value → H) (W : World) (base : Nat) (args : Array Value) (ds gs : List (DataW H)) (before : List MemPlace)
    (hval : ∀ (j : Nat) t v, Tryd.f7.params[j]? = some t → args[j]? = some v → Value.okWide Tryd.prog W .any base t v)
    (hW : DataW.Whole enc Tryd.prog Tryd.f7.params.toList Rows.drumPlaysSpec.vars false W args.toList ds gs before) (hL : laidMetH Tryd.prog Rows.drumPlaysRow.laid W)
    (hsz : (DataW.weightsEach Tryd.prog (Tryd.f7.params.toList ++ []) (ds ++ gs)).all (· ≤ reachBytes) = true) (hsh : W.ShapedOpen Tryd.prog) :
    Calls Tryd.prog 7 args W fun e W' => ∃ v, e = .returned v ∧ Rows.drumPlaysSpec.post enc Tryd.prog Tryd.f7 false true false false W args v W' := by
  have hW' := hW
  obtain ⟨p, q, hA0, hV, rfl, hfz, hnd⟩ := hW
  have hA : DataW.TrodAll enc Tryd.prog W 0 (fun _ => true) true Tryd.f7.params.toList args.toList ds p := hA0
  rw [Tryd.params7] at hA hval
  obtain ⟨v0, vs0, d0, ds0, p0, q0, hargs, rfl, rfl, h0, r0⟩ := trodAll_cons hA
  obtain ⟨v1, vs1, d1, ds1, p1, q1, rfl, rfl, rfl, h1, r1⟩ := trodAll_cons r0
  obtain ⟨v2, vs2, d2, ds2, p2, q2, rfl, rfl, rfl, h2, r2⟩ := trodAll_cons r1
  obtain ⟨rfl, rfl, rfl⟩ := trodAll_nil r2
  obtain rfl : args = #[v0, v1, v2] := by cases args; simp_all
  obtain ⟨rfl, rfl⟩ := trodVars_none hV
  have hlt0 : ∀ x ∈ p0, x.block < W.heap.size := fun x hx => by
    have := hW'.lt x (by simp [hx])
    simpa using this
  have hlt1 : ∀ x ∈ p1, x.block < W.heap.size := fun x hx => by
    have := hW'.lt x (by simp [hx])
    simpa using this
  have hlt2 : ∀ x ∈ p2, x.block < W.heap.size := fun x hx => by
    have := hW'.lt x (by simp [hx])
    simpa using this
  obtain ⟨n0, rfl, rfl, rfl, wf0⟩ := open_int Tryd.underlying3 (hval 0 3 v0 rfl rfl) h0
  simp [Lit.wf] at wf0
  obtain ⟨ao1, cap1, l1, rfl, hlc1, hm1, hn1, hc1, hb1⟩ := open_u8s Tryd.underlying40 Tryd.underlying5 (by kernel_rfl) (hval 1 40 v1 rfl rfl) h1 hlt1
  unfold maxLen at hm1
  obtain ⟨ao2, cap2, l2, rfl, hm2, hb2, hc2⟩ := open_ops Tryd.underlying44 Tryd.underlying51 (by kernel_rfl) (by kernel_rfl) Tryd.underlying3 Tryd.underlying3 Tryd.underlying3 Tryd.underlying5 (hval 2 44 v2 rfl rfl) h2 hlt2
  unfold maxLen at hm2
  obtain ⟨A, hAc, hAne⟩ := sents sentTypes plays_list [] hL (by kernel_rfl)
  refine (plays_walk W (fun g => A (plays_inv g)) (plays_sents hAc hAne) n0 ao1 l1 cap1 ⟨ao1, cap1, rfl, hc1⟩ hn1 (by omega) ao2 l2 cap2 ⟨ao2, cap2, rfl, hc2⟩ hm2 hb2).mono fun e W' ⟨he, hB⟩ => ?_
  subst he
  exact ⟨_, rfl, law_post (tb := 4) (by kernel_rfl) (by kernel_rfl) rfl Tryd.underlying4 rfl hW' rfl hB⟩

/-- A world for the witness: the variables hold what their initialisers lay. -/
noncomputable def plays_world (os : Os) : World :=
  let w0 := World.holding Tryd.prog os ⟨#[.cells #[.string { data := #[106, 97, 99, 107, 102, 105, 101, 108, 100, 58, 32, 114, 97, 110, 103, 101] }] 84, .cells #[.string { data := #[106, 97, 99, 107, 102, 105, 101, 108, 100, 58, 32, 115, 104, 111, 114, 116] }] 84, .cells #[.string { data := #[106, 97, 99, 107, 102, 105, 101, 108, 100, 58, 32, 108, 111, 110, 103] }] 84, .cells #[.string { data := #[106, 97, 99, 107, 102, 105, 101, 108, 100, 58, 32, 116, 97, 105, 108] }] 84, .cells #[.string { data := #[106, 97, 99, 107, 102, 105, 101, 108, 100, 58, 32, 98, 114, 111, 107, 101, 110] }] 84, .cells #[.string { data := #[106, 97, 99, 107, 102, 105, 101, 108, 100, 58, 32, 112, 111, 119, 101, 114] }] 84, .cells #[.string { data := #[106, 97, 99, 107, 102, 105, 101, 108, 100, 58, 32, 102, 114, 97, 109, 101] }] 84, .cells #[.string { data := #[106, 97, 99, 107, 102, 105, 101, 108, 100, 58, 32, 102, 117, 108, 108] }] 84, .cells #[.string { data := #[106, 97, 99, 107, 102, 105, 101, 108, 100, 58, 32, 103, 97, 112] }] 84, .cells #[.string { data := #[106, 97, 99, 107, 102, 105, 101, 108, 100, 58, 32, 110, 97, 109, 101] }] 84, .cells #[.string { data := #[106, 97, 99, 107, 102, 105, 101, 108, 100, 58, 32, 116, 97, 107, 101, 110] }] 84, .cells #[.string { data := #[106, 97, 99, 107, 102, 105, 101, 108, 100, 58, 32, 110, 111, 110, 101] }] 84, .cells #[.string { data := #[106, 97, 99, 107, 102, 105, 101, 108, 100, 58, 32, 111, 119, 110, 101, 114] }] 84, .cells #[.string { data := #[106, 97, 99, 107, 102, 105, 101, 108, 100, 58, 32, 112, 114, 111, 111, 102] }] 84, .cells #[.string { data := #[106, 97, 99, 107, 102, 105, 101, 108, 100, 58, 32, 119, 105, 110, 100, 111, 119] }] 84, .cells #[.string { data := #[106, 97, 99, 107, 102, 105, 101, 108, 100, 58, 32, 115, 116, 114, 101, 97, 109] }] 84, .cells #[.string { data := #[106, 97, 99, 107, 102, 105, 101, 108, 100, 58, 32, 115, 116, 97, 116, 101] }] 84, .cells #[.string { data := #[106, 97, 99, 107, 102, 105, 101, 108, 100, 58, 32, 98, 117, 115, 121] }] 84], #[], []⟩
  { w0 with heap := ((((((((((((((((((w0.heap.modify 0 fun | .cells _ t frozen => .cells #[.iface 67 (.pointer (some ⟨low + 0, 0, none⟩))] t frozen | o => o).modify 2 fun | .cells _ t frozen => .cells #[.iface 67 (.pointer (some ⟨low + 1, 0, none⟩))] t frozen | o => o).modify 3 fun | .cells _ t frozen => .cells #[.iface 67 (.pointer (some ⟨low + 2, 0, none⟩))] t frozen | o => o).modify 4 fun | .cells _ t frozen => .cells #[.iface 67 (.pointer (some ⟨low + 3, 0, none⟩))] t frozen | o => o).modify 5 fun | .cells _ t frozen => .cells #[.iface 67 (.pointer (some ⟨low + 4, 0, none⟩))] t frozen | o => o).modify 1 fun | .cells _ t frozen => .cells #[.iface 67 (.pointer (some ⟨low + 5, 0, none⟩))] t frozen | o => o).modify 6 fun | .cells _ t frozen => .cells #[.iface 67 (.pointer (some ⟨low + 6, 0, none⟩))] t frozen | o => o).modify 7 fun | .cells _ t frozen => .cells #[.iface 67 (.pointer (some ⟨low + 7, 0, none⟩))] t frozen | o => o).modify 8 fun | .cells _ t frozen => .cells #[.iface 67 (.pointer (some ⟨low + 8, 0, none⟩))] t frozen | o => o).modify 9 fun | .cells _ t frozen => .cells #[.iface 67 (.pointer (some ⟨low + 9, 0, none⟩))] t frozen | o => o).modify 10 fun | .cells _ t frozen => .cells #[.iface 67 (.pointer (some ⟨low + 10, 0, none⟩))] t frozen | o => o).modify 11 fun | .cells _ t frozen => .cells #[.iface 67 (.pointer (some ⟨low + 11, 0, none⟩))] t frozen | o => o).modify 12 fun | .cells _ t frozen => .cells #[.iface 67 (.pointer (some ⟨low + 12, 0, none⟩))] t frozen | o => o).modify 13 fun | .cells _ t frozen => .cells #[.iface 67 (.pointer (some ⟨low + 13, 0, none⟩))] t frozen | o => o).modify 14 fun | .cells _ t frozen => .cells #[.iface 67 (.pointer (some ⟨low + 14, 0, none⟩))] t frozen | o => o).modify 15 fun | .cells _ t frozen => .cells #[.iface 67 (.pointer (some ⟨low + 15, 0, none⟩))] t frozen | o => o).modify 16 fun | .cells _ t frozen => .cells #[.iface 67 (.pointer (some ⟨low + 16, 0, none⟩))] t frozen | o => o).modify 17 fun | .cells _ t frozen => .cells #[.iface 67 (.pointer (some ⟨low + 17, 0, none⟩))] t frozen | o => o) }
theorem plays_met (os : Os) : laidMet Tryd.prog Rows.drumPlaysRow.laid ((plays_world os).forCall (fun _ _ => 0) ⟨#[], #[.int .i64 0, .slice none 0 0, .slice none 0 0], []⟩).memory :=
  laidMet_of_run' 8 (by kernel_rfl) (by kernel_rfl)
theorem plays_reads (os : Os) {H : Type} (enc : TypeId × Value → H) : ∃ places, DataW.whole enc Tryd.prog ((plays_world os).forCall (fun _ _ => 0) ⟨#[], #[.int .i64 0, .slice none 0 0, .slice none 0 0], []⟩).memory Tryd.f7.params.toList Rows.drumPlaysSpec.vars false (#[.int .i64 0, .slice none 0 0, .slice none 0 0] : Array Value).toList 8 = some ([.lit (.int .i64 0), .nil, .nil], [], places) :=
  ⟨[], by kernel_rfl⟩

set_option maxRecDepth 100000 in
theorem plays_lifted (os : Os) (started : os.Started) (H : Type) (enc : TypeId × Value → H) (F : Stop.Interp) :
    ReturnsInHanded {} Tryd.checked os 7 .any ((OpenSpec.ofChange Rows.drumPlaysSpec).preRow enc Tryd.prog Tryd.f7 Rows.drumPlaysRow.domain false Rows.drumPlaysRow.laid) (((OpenSpec.ofChange Rows.drumPlaysSpec).at F).post enc Tryd.prog Tryd.f7 false true false false) := by
  obtain ⟨places, hx⟩ := plays_reads os enc
  refine returnsInHanded_of_row (C := Tryd.checked) (s := (OpenSpec.ofChange Rows.drumPlaysSpec)) own started (by kernel_rfl) Tryd.func7
    (witness_row_at (enc := enc) (C := Tryd.checked) false (plays_world os) #[.int .i64 0, .slice none 0 0, .slice none 0 0] rfl (by kernel_rfl) (by kernel_rfl) (by kernel_rfl)
      (OpenSpec.preRow_of_cond 8 hx (by kernel_rfl) (fun k hk => by cases hk) (by kernel_rfl) (plays_met os))) ?_
  intro W base args ds gs before hval hW _ hcond hsz hL hsh _
  exact plays_contract H enc W base args ds gs before hval hW hL hsz hsh

theorem plays_said : Rows.DrumPlaysSaid :=
  OpenClaim.holds_of_cond 7 Tryd.f7 rfl rfl rfl rfl rfl rfl rfl ⟨rfl, rfl, rfl, rfl, rfl⟩ rfl rfl rfl rfl rfl (by kernel_rfl) Tryd.func7 (by kernel_rfl)
    (of_decide_eq_true (by kernel_rfl)) (by unfold Func.isWrapper; first | (rw [if_pos (by decide +kernel)]; kernel_rfl) | (rw [if_neg (by decide +kernel)]; exact ⟨rfl, rfl⟩))
    (fun os started H enc _ F => by rw [OpenClaim.pre_eq_preRow]; exact plays_lifted os started H enc F)

theorem plays_plain (f : FuncId) (fn : Func) (hf : Tryd.pinned.checked.prog.funcNamed "jackfield/jackfieldlaw04.DrumPlays" = some f) (hfn : Tryd.pinned.checked.prog.funcs[f]? = some fn) :
    true = Tryd.pinned.checked.prog.looks [] ∧ ∀ (j : Nat) t, fn.params[j]? = some t → Tryd.pinned.checked.prog.wantsStandIn t = false := by
  obtain rfl : f = 7 := Option.some.inj ((show Tryd.prog.funcNamed "jackfield/jackfieldlaw04.DrumPlays" = some 7 by kernel_rfl).symm.trans hf) |>.symm
  obtain rfl : fn = Tryd.f7 := (Option.some.inj (Tryd.func7.symm.trans hfn)).symm
  refine ⟨by kernel_rfl, fun j t ht => ?_⟩
  have hall : Tryd.f7.params.toList.all (fun t => !Tryd.prog.wantsStandIn t) = true := by kernel_rfl
  have := List.all_eq_true.1 hall t (by simpa using Array.mem_of_getElem? ht)
  have h2 : Tryd.prog.wantsStandIn t = false := by simpa using this
  exact h2

theorem plays_card : Rows.DrumPlaysCardSaid :=
  Claim7.holds_tied_plain_at .later [] _ _ _ _ plays_said (fun _ h => by cases h) (by kernel_rfl) (fun _ h => by cases h) drumPlays_row_tie rfl ⟨rfl, rfl⟩ (by kernel_rfl) rfl plays_plain (by kernel_rfl)
#print axioms plays_card
end Go.Proofs.YtjjaghiihkdclaaDoor
