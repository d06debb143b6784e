/- Check, Name and Labels against the document. -/
import Derived.Test.YtfphfljndhideaaDoorG
set_option linter.unusedVariables false
set_option linter.unusedSimpArgs false
namespace Go.Proofs.YtfphfljndhideaaDoor
open Go.RowKit Jw Lab

theorem neq_same (a : Addr) (w : World) : (binOp .neq 28 (er a) (er a)).run Tryd.prog w = .ok (.bool false) w := by
  obtain ⟨i, j, hi, hc, hj, hs⟩ := info83
  simp only [binOp]
  simp [Op.equal, Op.maxDepth, run_equalIn_iface_ptr_same w 9998 a Tryd.underlying28 Tryd.underlying83 hi hc hj]
theorem name_pat {l : List UInt8} (h : nmOk l = true) : patOk l = true := by
  cases hw : wld l with
  | false => rw [patOk_plain (by rw [hw]; simp)]; exact h
  | true =>
    exfalso
    have e := (wld_iff l).1 hw
    match l, e with
    | c :: d :: t, e =>
      simp at e
      obtain ⟨rfl, rfl⟩ := e
      simp [nmOk, spl, labOk, byOk] at h

set_option maxHeartbeats 1000000 in
theorem checks_long (l : List UInt8) (hl : l.length < 4294967281) (h : 2000 < l.length) (a : Addr) (m : Int) (w : World) (hg : Gl w a m) :
    Calls Tryd.prog 6 #[.string (bs l)] w fun e w' => e = .returned (.bool true) ∧ Below w.heap.size w w' := by
  have s1 : (bs l).size = l.length := rfl
  have HG := Lib.hid hg
  have HA := Lib.hid (alive_any w a m hg)
  have h1 : patOk l = false := by simp [patOk]; omega
  have h2 : nmOk l = false := by simp [nmOk]; omega
  have HC := Lib.hid (fun w2 (h2 : Gl w2 a m) => check_any l hl a m w2 h2)
  have HN := Lib.hid (fun w2 (h2 : Gl w2 a m) => named_any l hl a m w2 h2)
  have HQ := Lib.hid (fun wx => eq_same a wx)
  rw [h1] at HC
  rw [h2] at HN
  have q1 : decide (2000 < (l.length : Int)) = true := by simp; omega
  clear hg h1 h2
  go_enter Tryd.func6, Tryd.ntmps6
  go_upto_region 4 with (go_at_call 13; refine HA.out.mono ?_; rintro e w1 ⟨rfl, hB⟩; have hG1 := HG.out.below hB (Nat.le_refl _); have HG1 := Lib.hid (show Gl w1.drew a m from ⟨hG1.name, hG1.mx, hG1.blk, hG1.low⟩))
  refine wp_region_held_drew (S := fun V => Gl V a m) (by kernel_rfl) HG1.out (fun hHeld => ?_)
  refine wpAnyH_take (i := 0) (v := ?_) rfl (by kernel_rfl) (by kernel_rfl) (by kernel_rfl) (fun _ _ _ h => h) (Or.inl ⟨by rfl, ?_⟩) (by assumption) ?_
  rotate_left 1
  · intro w hSw; (try dsimp only at hSw); go_simp; (try with_reducible rfl)
  try simp only [Act.put, List.setIfInBounds_toArray, List.set_cons_zero, List.set_cons_succ, List.getElem_toArray, List.getElem_cons_zero, List.getElem_cons_succ]
  refine wpAnyH_take (i := 2) (v := ?_) rfl (by kernel_rfl) (by kernel_rfl) (by kernel_rfl) (fun _ _ _ h => h) (Or.inl ⟨by rfl, ?_⟩) (by assumption) ?_
  rotate_left 1
  · intro V hSw; have hc := (show Gl V a m from hSw).name; clear hSw; go_simp; (try with_reducible rfl)
  try simp only [Act.put, List.setIfInBounds_toArray, List.set_cons_zero, List.set_cons_succ, List.getElem_toArray, List.getElem_cons_zero, List.getElem_cons_succ]
  refine wpAnyH_ready (rs := [1]) (by kernel_rfl) (by simp) ?_
  refine AllReadyH.cons rfl (fun K hK => ?_) AllReadyH.nil
  go_simp
  refine (HC.out _ HG1.out).mono ?_
  rintro e w2 ⟨rfl, hB2⟩
  have hG2 := HG1.out.below hB2 (Nat.le_refl _)
  refine hK.out _ _ hG2 (fun hHeld1 => ?_)
  clear hK K
  try simp only [Act.put, List.setIfInBounds_toArray, List.set_cons_zero, List.set_cons_succ, List.getElem_toArray, List.getElem_cons_zero, List.getElem_cons_succ]
  have hq := fun wx => HQ.out wx
  have hck : chk false a = er a := rfl
  refine wpAnyH_take (i := 3) (v := ?_) rfl (by kernel_rfl) (by kernel_rfl) (by kernel_rfl) (fun _ _ _ h => h) (Or.inl ⟨by rfl, ?_⟩) (by assumption) ?_
  rotate_left 1
  · intro w hSw; (try dsimp only at hSw); go_simp; (try with_reducible rfl)
  try simp only [Act.put, List.setIfInBounds_toArray, List.set_cons_zero, List.set_cons_succ, List.getElem_toArray, List.getElem_cons_zero, List.getElem_cons_succ]
  refine wpAnyH_take (i := 4) (v := ?_) rfl (by kernel_rfl) (by kernel_rfl) (by kernel_rfl) (fun _ _ _ h => h) (Or.inl ⟨by rfl, ?_⟩) (by assumption) ?_
  rotate_left 1
  · intro w hSw; (try dsimp only at hSw); go_simp; (try with_reducible rfl)
  try simp only [Act.put, List.setIfInBounds_toArray, List.set_cons_zero, List.set_cons_succ, List.getElem_toArray, List.getElem_cons_zero, List.getElem_cons_succ]
  refine wpAnyH_take (i := 5) (v := ?_) rfl (by kernel_rfl) (by kernel_rfl) (by kernel_rfl) (fun _ _ _ h => h) (Or.inl ⟨by rfl, ?_⟩) (by assumption) ?_
  rotate_left 1
  · intro w hSw; (try dsimp only at hSw); go_simp; (try with_reducible rfl)
  try simp only [Act.put, List.setIfInBounds_toArray, List.set_cons_zero, List.set_cons_succ, List.getElem_toArray, List.getElem_cons_zero, List.getElem_cons_succ]
  refine wpAnyH_take (i := 7) (v := ?_) rfl (by kernel_rfl) (by kernel_rfl) (by kernel_rfl) (fun _ _ _ h => h) (Or.inl ⟨by rfl, ?_⟩) (by assumption) ?_
  rotate_left 1
  · intro V hSw; have hc := (show Gl V a m from hSw).name; clear hSw; go_simp; (try with_reducible rfl)
  try simp only [Act.put, List.setIfInBounds_toArray, List.set_cons_zero, List.set_cons_succ, List.getElem_toArray, List.getElem_cons_zero, List.getElem_cons_succ]
  refine wpAnyH_ready (rs := [6]) (by kernel_rfl) (by simp) ?_
  refine AllReadyH.cons rfl (fun K hK => ?_) AllReadyH.nil
  go_simp
  refine (HN.out _ hG2).mono ?_
  rintro e w3 ⟨rfl, hB3⟩
  have hG3 := hG2.below hB3 (Nat.le_refl _)
  refine hK.out _ _ hG3 (fun hHeld6 => ?_)
  clear hK K
  try simp only [Act.put, List.setIfInBounds_toArray, List.set_cons_zero, List.set_cons_succ, List.getElem_toArray, List.getElem_cons_zero, List.getElem_cons_succ]
  refine wpAnyH_take (i := 8) (v := ?_) rfl (by kernel_rfl) (by kernel_rfl) (by kernel_rfl) (fun _ _ _ h => h) (Or.inl ⟨by rfl, ?_⟩) (by assumption) ?_
  rotate_left 1
  · intro w hSw; (try dsimp only at hSw); go_simp; (try with_reducible rfl)
  try simp only [Act.put, List.setIfInBounds_toArray, List.set_cons_zero, List.set_cons_succ, List.getElem_toArray, List.getElem_cons_zero, List.getElem_cons_succ]
  refine wpAnyH_take (i := 9) (v := ?_) rfl (by kernel_rfl) (by kernel_rfl) (by kernel_rfl) (fun _ _ _ h => h) (Or.inl ⟨by rfl, ?_⟩) (by assumption) ?_
  rotate_left 1
  · intro w hSw; (try dsimp only at hSw); go_simp; (try with_reducible rfl)
  try simp only [Act.put, List.setIfInBounds_toArray, List.set_cons_zero, List.set_cons_succ, List.getElem_toArray, List.getElem_cons_zero, List.getElem_cons_succ]
  refine wpAnyH_take (i := 10) (v := ?_) rfl (by kernel_rfl) (by kernel_rfl) (by kernel_rfl) (fun _ _ _ h => h) (Or.inl ⟨by rfl, ?_⟩) (by assumption) ?_
  rotate_left 1
  · intro w hSw; (try dsimp only at hSw); go_simp; (try with_reducible rfl)
  try simp only [Act.put, List.setIfInBounds_toArray, List.set_cons_zero, List.set_cons_succ, List.getElem_toArray, List.getElem_cons_zero, List.getElem_cons_succ]
  refine wpAnyH_done (by kernel_rfl) ?_ _
  have hBB : Below w.heap.size w w3 := by
    have h1 := hB.drew.trans (hB2.mono hB.size)
    exact h1.trans (hB3.mono h1.size)
  clear hq hck hHeld hHeld1 hHeld6 hG1 hG2 hG3 HG1 HC HN HA HG HQ
  go_wp2
  go_ret
  exact ⟨rfl, hBB⟩
end Go.Proofs.YtfphfljndhideaaDoor
