/- The chapter's examples of labels; Fits against the document. -/
import Derived.Test.YtfphfljndhideaaDoorF
set_option linter.unusedVariables false
set_option linter.unusedSimpArgs false
namespace Go.Proofs.YtfphfljndhideaaDoor
open Go.RowKit Jw Lab

/-- An error that a package-level variable holds. -/
abbrev er (a : Addr) : Value := .iface 83 (.pointer (some a))
theorem info83 : ∃ i j, Tryd.prog.info? 83 = some i ∧ i.comparable = true ∧ Tryd.prog.info? 99 = some j ∧ j.size ≠ 0 := by
  have h1 : (Tryd.prog.info? 83).map (fun i => i.comparable) = some true := by kernel_rfl
  have h2 : (Tryd.prog.info? 99).map (fun i => i.size) = some 1 := by kernel_rfl
  obtain ⟨i, hi, e1⟩ := Option.map_eq_some_iff.1 h1
  obtain ⟨j, hj, e2⟩ := Option.map_eq_some_iff.1 h2
  exact ⟨i, j, hi, e1, hj, by rw [e2]; decide⟩
theorem eq_same (a : Addr) (w : World) : (binOp .eql 28 (er a) (er a)).run Tryd.prog w = .ok (.bool true) w := by
  obtain ⟨i, j, hi, hc, hj, hs⟩ := info83
  exact run_eql_iface_ptr_same w a Tryd.underlying28 Tryd.underlying83 hi hc hj

def exL : List (List UInt8) := [[42, 46, 115, 104, 111, 112], [42, 46, 98, 46, 115, 104, 111, 112], [97, 46, 98, 46, 115, 104, 111, 112]]
def exCells : Array Value := #[.string ⟨#[42, 46, 115, 104, 111, 112]⟩, .string ⟨#[42, 46, 98, 46, 115, 104, 111, 112]⟩, .string ⟨#[97, 46, 98, 46, 115, 104, 111, 112]⟩]
theorem ex1 (w : World) (a : Addr) (m : Int) (hg : Gl w a m) : Calls Tryd.prog 14 #[.string ⟨#[42, 46, 115, 104, 111, 112]⟩, .string ⟨#[97, 46, 98, 46, 115, 104, 111, 112]⟩] w fun e w' => e = .returned (.bool true) ∧ Below w.heap.size w w' := by
  have h := fits_any [42, 46, 115, 104, 111, 112] [97, 46, 98, 46, 115, 104, 111, 112] (by decide) (by decide) a m w hg
  rw [show fits [42, 46, 115, 104, 111, 112] [97, 46, 98, 46, 115, 104, 111, 112] = true by decide] at h
  exact h
theorem ex2 (w : World) (a : Addr) (m : Int) (hg : Gl w a m) : Calls Tryd.prog 14 #[.string ⟨#[42, 46, 115, 104, 111, 112]⟩, .string ⟨#[115, 104, 111, 112]⟩] w fun e w' => e = .returned (.bool false) ∧ Below w.heap.size w w' := by
  have h := fits_any [42, 46, 115, 104, 111, 112] [115, 104, 111, 112] (by decide) (by decide) a m w hg
  rw [show fits [42, 46, 115, 104, 111, 112] [115, 104, 111, 112] = false by decide] at h
  exact h
theorem ex3 (w : World) (a : Addr) (m : Int) (g : Nat) (hg : Gl w a m) (hb : Blk w g exCells 9) :
    Calls Tryd.prog 16 #[.slice (some ⟨g, 0, none⟩) 3 3, .string ⟨#[120, 46, 98, 46, 115, 104, 111, 112]⟩] w fun e w' => e = .returned (n64 1) ∧ Below w.heap.size w w' := by
  have hr : Rs w (.slice (some ⟨g, 0, none⟩) 3 3) exL := ⟨_, 3, rfl, fun _ => ⟨g, 0, rfl, hb.lt, fun k hk => by
    rw [Nat.zero_add]
    refine hb.cell k _ ?_
    match k, hk with
    | 0, _ => rfl
    | 1, _ => rfl
    | 2, _ => rfl⟩⟩
  have h := best_any exL [120, 46, 98, 46, 115, 104, 111, 112] _ (by decide) (by decide) (by decide) a m w hg hr
  rw [show bst exL [120, 46, 98, 46, 115, 104, 111, 112] exL.length = 1 by decide] at h
  exact h
theorem ex4 (w : World) (a : Addr) (m : Int) (hg : Gl w a m) : Calls Tryd.prog 19 #[.string ⟨#[97, 46, 42, 46, 98]⟩] w fun e w' => e = .returned (er a) ∧ Below w.heap.size w w' := by
  have h := check_any [97, 46, 42, 46, 98] (by decide) a m w hg
  rw [show patOk [97, 46, 42, 46, 98] = false by decide] at h
  exact h

theorem alive_any (w : World) (a : Addr) (m : Int) (hg : Gl w a m) : Calls Tryd.prog 13 #[] w fun e w' => e = .returned (.bool true) ∧ Below w.heap.size w w' := by
  have HQ := Lib.hid (fun wx => eq_same a wx)
  have HG := Lib.hid (show Gl w.drew a m from ⟨hg.name, hg.mx, hg.blk, hg.low⟩)
  clear hg
  go_enter Tryd.func13, Tryd.ntmps13
  go_wp2_with fail
  refine wp_region_held_drew (S := fun V => Gl V a m) (by kernel_rfl) HG.out (fun hHeld => ?_)
  refine wpAnyH_ready (rs := [0]) (by kernel_rfl) (by simp) ?_
  refine AllReadyH.cons rfl (fun K hK => ?_) AllReadyH.nil
  go_simp
  refine (ex1 _ a m HG.out).mono ?_
  rintro e w1 ⟨rfl, hB1⟩
  have hG1 := HG.out.below hB1 (Nat.le_refl _)
  refine hK.out _ _ hG1 (fun hHeld0 => ?_)
  clear hK K
  try simp only [Act.put, List.setIfInBounds_toArray, List.set_cons_zero, List.set_cons_succ, List.getElem_toArray, List.getElem_cons_zero, List.getElem_cons_succ]
  refine wpAnyH_take (i := 1) (v := ?_) rfl (by kernel_rfl) (by kernel_rfl) (by kernel_rfl) (fun _ _ _ h => h) (Or.inl ⟨by rfl, ?_⟩) (by assumption) ?_
  rotate_left 1
  · intro w hSw; (try dsimp only at hSw); go_simp; (try with_reducible rfl)
  try simp only [Act.put, List.setIfInBounds_toArray, List.set_cons_zero, List.set_cons_succ, List.getElem_toArray, List.getElem_cons_zero, List.getElem_cons_succ]
  refine wpAnyH_ready (rs := [2]) (by kernel_rfl) (by simp) ?_
  refine AllReadyH.cons rfl (fun K hK => ?_) AllReadyH.nil
  go_simp
  refine (ex2 _ a m hG1).mono ?_
  rintro e w2 ⟨rfl, hB2⟩
  have hG2 := hG1.below hB2 (Nat.le_refl _)
  refine hK.out _ _ hG2 (fun hHeld2 => ?_)
  clear hK K
  try simp only [Act.put, List.setIfInBounds_toArray, List.set_cons_zero, List.set_cons_succ, List.getElem_toArray, List.getElem_cons_zero, List.getElem_cons_succ]
  refine wpAnyH_take (i := 3) (v := ?_) rfl (by kernel_rfl) (by kernel_rfl) (by kernel_rfl) (fun _ _ _ h => h) (Or.inl ⟨by rfl, ?_⟩) (by assumption) ?_
  rotate_left 1
  · intro w hSw; (try dsimp only at hSw); go_simp; (try with_reducible rfl)
  try simp only [Act.put, List.setIfInBounds_toArray, List.set_cons_zero, List.set_cons_succ, List.getElem_toArray, List.getElem_cons_zero, List.getElem_cons_succ]
  refine wpAnyH_take (i := 4) (v := ?_) rfl (by kernel_rfl) (by kernel_rfl) (by kernel_rfl) (fun _ _ _ h => h) (Or.inl ⟨by rfl, ?_⟩) (by assumption) ?_
  rotate_left 1
  · intro w hSw; (try dsimp only at hSw); go_simp; (try with_reducible rfl)
  try simp only [Act.put, List.setIfInBounds_toArray, List.set_cons_zero, List.set_cons_succ, List.getElem_toArray, List.getElem_cons_zero, List.getElem_cons_succ]
  refine wpAnyH_take (i := 5) (v := ?_) rfl (by kernel_rfl) (by kernel_rfl) (by kernel_rfl) (fun _ _ _ h => h) (Or.inl ⟨by rfl, ?_⟩) (by assumption) ?_
  rotate_left 1
  · intro w hSw; (try dsimp only at hSw); go_simp; (try with_reducible rfl)
  try simp only [Act.put, List.setIfInBounds_toArray, List.set_cons_zero, List.set_cons_succ, List.getElem_toArray, List.getElem_cons_zero, List.getElem_cons_succ]
  have hG3 : Gl (w2.alloc (.cells exCells 9)) a m := hG2.below ((Below.refl _ _).alloc (Nat.le_refl _) _) (Nat.le_refl _)
  have hK3 : Blk (w2.alloc (.cells exCells 9)) w2.heap.size exCells 9 := blk_new w2 exCells 9
  refine wpAnyH_ready (rs := [6]) (by kernel_rfl) (by simp) ?_
  refine AllReadyH.cons rfl (fun K hK => ?_) AllReadyH.nil
  go_simp
  refine hK.out _ _ hG3 (fun hHeld6 => ?_)
  clear hK K
  try simp only [Act.put, List.setIfInBounds_toArray, List.set_cons_zero, List.set_cons_succ, List.getElem_toArray, List.getElem_cons_zero, List.getElem_cons_succ]
  refine wpAnyH_ready (rs := [7]) (by kernel_rfl) (by simp) ?_
  refine AllReadyH.cons rfl (fun K hK => ?_) AllReadyH.nil
  go_simp
  refine (ex3 _ a m _ hG3 hK3).mono ?_
  rintro e w4 ⟨rfl, hB4⟩
  have hG4 := hG3.below hB4 (Nat.le_refl _)
  refine hK.out _ _ hG4 (fun hHeld7 => ?_)
  clear hK K
  try simp only [Act.put, List.setIfInBounds_toArray, List.set_cons_zero, List.set_cons_succ, List.getElem_toArray, List.getElem_cons_zero, List.getElem_cons_succ]
  refine wpAnyH_take (i := 8) (v := ?_) rfl (by kernel_rfl) (by kernel_rfl) (by kernel_rfl) (fun _ _ _ h => h) (Or.inl ⟨by rfl, ?_⟩) (by assumption) ?_
  rotate_left 1
  · intro w hSw; (try dsimp only at hSw); go_simp; (try with_reducible rfl)
  try simp only [Act.put, List.setIfInBounds_toArray, List.set_cons_zero, List.set_cons_succ, List.getElem_toArray, List.getElem_cons_zero, List.getElem_cons_succ]
  refine wpAnyH_take (i := 9) (v := ?_) rfl (by kernel_rfl) (by kernel_rfl) (by kernel_rfl) (fun _ _ _ h => h) (Or.inl ⟨by rfl, ?_⟩) (by assumption) ?_
  rotate_left 1
  · intro w hSw; (try dsimp only at hSw); go_simp; (try with_reducible rfl)
  try simp only [Act.put, List.setIfInBounds_toArray, List.set_cons_zero, List.set_cons_succ, List.getElem_toArray, List.getElem_cons_zero, List.getElem_cons_succ]
  refine wpAnyH_take (i := 10) (v := ?_) rfl (by kernel_rfl) (by kernel_rfl) (by kernel_rfl) (fun _ _ _ h => h) (Or.inl ⟨by rfl, ?_⟩) (by assumption) ?_
  rotate_left 1
  · intro w hSw; (try dsimp only at hSw); go_simp; (try with_reducible rfl)
  try simp only [Act.put, List.setIfInBounds_toArray, List.set_cons_zero, List.set_cons_succ, List.getElem_toArray, List.getElem_cons_zero, List.getElem_cons_succ]
  refine wpAnyH_take (i := 12) (v := ?_) rfl (by kernel_rfl) (by kernel_rfl) (by kernel_rfl) (fun _ _ _ h => h) (Or.inl ⟨by rfl, ?_⟩) (by assumption) ?_
  rotate_left 1
  · intro V hSw; have hc := (show Gl V a m from hSw).name; clear hSw; go_simp; (try with_reducible rfl)
  try simp only [Act.put, List.setIfInBounds_toArray, List.set_cons_zero, List.set_cons_succ, List.getElem_toArray, List.getElem_cons_zero, List.getElem_cons_succ]
  refine wpAnyH_ready (rs := [11]) (by kernel_rfl) (by simp) ?_
  refine AllReadyH.cons rfl (fun K hK => ?_) AllReadyH.nil
  go_simp
  refine (ex4 _ a m hG4).mono ?_
  rintro e w5 ⟨rfl, hB5⟩
  have hG5 := hG4.below hB5 (Nat.le_refl _)
  refine hK.out _ _ hG5 (fun hHeld11 => ?_)
  clear hK K
  try simp only [Act.put, List.setIfInBounds_toArray, List.set_cons_zero, List.set_cons_succ, List.getElem_toArray, List.getElem_cons_zero, List.getElem_cons_succ]
  have hq := fun wx => HQ.out wx
  refine wpAnyH_take (i := 13) (v := ?_) rfl (by kernel_rfl) (by kernel_rfl) (by kernel_rfl) (fun _ _ _ h => h) (Or.inl ⟨by rfl, ?_⟩) (by assumption) ?_
  rotate_left 1
  · intro w hSw; (try dsimp only at hSw); go_simp; (try with_reducible rfl)
  try simp only [Act.put, List.setIfInBounds_toArray, List.set_cons_zero, List.set_cons_succ, List.getElem_toArray, List.getElem_cons_zero, List.getElem_cons_succ]
  refine wpAnyH_take (i := 14) (v := ?_) rfl (by kernel_rfl) (by kernel_rfl) (by kernel_rfl) (fun _ _ _ h => h) (Or.inl ⟨by rfl, ?_⟩) (by assumption) ?_
  rotate_left 1
  · intro w hSw; (try dsimp only at hSw); go_simp; (try with_reducible rfl)
  try simp only [Act.put, List.setIfInBounds_toArray, List.set_cons_zero, List.set_cons_succ, List.getElem_toArray, List.getElem_cons_zero, List.getElem_cons_succ]
  refine wpAnyH_take (i := 15) (v := ?_) rfl (by kernel_rfl) (by kernel_rfl) (by kernel_rfl) (fun _ _ _ h => h) (Or.inl ⟨by rfl, ?_⟩) (by assumption) ?_
  rotate_left 1
  · intro w hSw; (try dsimp only at hSw); go_simp; (try with_reducible rfl)
  try simp only [Act.put, List.setIfInBounds_toArray, List.set_cons_zero, List.set_cons_succ, List.getElem_toArray, List.getElem_cons_zero, List.getElem_cons_succ]
  refine wpAnyH_done (by kernel_rfl) ?_ _
  have hB : Below w.heap.size w w5 := by
    have h1 : Below w.heap.size w w1 := (Below.refl w.heap.size w).drew.trans hB1
    have h2 := h1.trans (hB2.mono h1.size)
    have h3 : Below w.heap.size w (w2.alloc (.cells exCells 9)) := h2.trans ((Below.refl _ _).alloc h2.size _)
    have h4 := h3.trans (hB4.mono h3.size)
    exact h4.trans (hB5.mono h4.size)
  clear hq hHeld hHeld0 hHeld2 hHeld6 hHeld7 hHeld11 hG1 hG2 hG3 hG4 hG5 hK3 HQ HG hB1 hB2 hB4 hB5
  go_wp2
  go_ret
  exact ⟨rfl, hB⟩

/-- What a text longer than 2000 bytes fits. -/
theorem fits_long (p n : List UInt8) (h : 2000 < p.length ∨ 2000 < n.length) : fits p n = false := by
  rw [Bool.eq_false_iff]
  intro e
  rw [fits, Bool.and_eq_true, Bool.and_eq_true, patOk, Bool.and_eq_true] at e
  have h1 := of_decide_eq_true e.1.1.1
  have h2 := nmOk_le e.1.2
  omega
theorem fitsLaw_walk (p n : List UInt8) (hp : p.length < 4294967281) (hn : n.length < 4294967281) (a : Addr) (m : Int) (w : World) (hg : Gl w a m) :
    Calls Tryd.prog 3 #[.string (bs p), .string (bs n)] w fun e w' => e = .returned (.bool true) ∧ Below w.heap.size w w' := by
  have s1 : (bs p).size = p.length := rfl
  have s2 : (bs n).size = n.length := rfl
  have HG := Lib.hid hg
  have HA := Lib.hid (alive_any w a m hg)
  have HF := Lib.hid (fun w2 (h2 : Gl w2 a m) => fits_any p n hp hn a m w2 h2)
  have HR := Lib.hid (fun w2 => rfits_any p n hp hn w2)
  clear hg
  by_cases hl : 2000 < p.length ∨ 2000 < n.length
  · have hf := fits_long p n hl
    rw [hf] at HF
    clear hf
    rcases Nat.lt_or_ge 2000 p.length with h1 | h1
    · have q1 : decide (2000 < (p.length : Int)) = true := by simp; omega
      clear hl
      go_enter Tryd.func3, Tryd.ntmps3
      go_wp2_with (first
        | (go_at_call 13; refine HA.out.mono ?_; rintro e w1 ⟨rfl, hB⟩)
        | (go_at_call 14; refine (HF.out _ (HG.out.below hB (Nat.le_refl _))).mono ?_; rintro e w2 ⟨rfl, hB2⟩))
      go_ret
      exact ⟨rfl, hB.trans (hB2.mono hB.size)⟩
    · have q1 : decide (2000 < (p.length : Int)) = false := by simp; omega
      have q2 : decide (2000 < (n.length : Int)) = true := by simp; omega
      clear hl
      go_enter Tryd.func3, Tryd.ntmps3
      go_wp2_with (first
        | (go_at_call 13; refine HA.out.mono ?_; rintro e w1 ⟨rfl, hB⟩)
        | (go_at_call 14; refine (HF.out _ (HG.out.below hB (Nat.le_refl _))).mono ?_; rintro e w2 ⟨rfl, hB2⟩))
      go_ret
      exact ⟨rfl, hB.trans (hB2.mono hB.size)⟩
  · have q1 : decide (2000 < (p.length : Int)) = false := by simp; omega
    have q2 : decide (2000 < (n.length : Int)) = false := by simp; omega
    obtain ⟨b, hb⟩ : ∃ b, fits p n = b := ⟨_, rfl⟩
    rw [hb] at HF HR
    clear hl hb
    go_enter Tryd.func3, Tryd.ntmps3
    go_wp2_with (first
      | (go_at_call 13; refine HA.out.mono ?_; rintro e w1 ⟨rfl, hB⟩)
      | (go_at_call 14; refine (HF.out _ (HG.out.below hB (Nat.le_refl _))).mono ?_; rintro e w2 ⟨rfl, hB2⟩)
      | (go_at_call 15; refine (HR.out _).mono ?_; rintro e w3 ⟨rfl, hB3⟩))
    go_ret
    exact ⟨by simp, (hB.trans (hB2.mono hB.size)).trans (hB3.mono (Nat.le_trans hB.size hB2.size))⟩
end Go.Proofs.YtfphfljndhideaaDoor
