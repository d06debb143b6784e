/- The walk of RoutesLives. -/
import Derived.Test.YtgimmdnmndbcpaaDoorL1
import Derived.Test.YtgimmdnmndbcpaaDoorNum
set_option linter.unusedVariables false
set_option linter.unusedSimpArgs false
namespace Go.Proofs.YtgimmdnmndbcpaaDoor
open Go.RowKit Jw Lab Go.Shelf

/-- An error that a package-level variable holds. -/
abbrev er (a : Addr) : Value := .iface 113 (.pointer (some a))
theorem info113 : ∃ i j, Tryd.prog.info? 113 = some i ∧ i.comparable = true ∧ Tryd.prog.info? 130 = some j ∧ j.size ≠ 0 := by
  have h1 : (Tryd.prog.info? 113).map (fun i => i.comparable) = some true := by kernel_rfl
  have h2 : (Tryd.prog.info? 130).map (fun i => i.size) = some 1 := by kernel_rfl
  obtain ⟨i, hi, e1⟩ := Option.map_eq_some_iff.1 h1
  obtain ⟨j, hj, e2⟩ := Option.map_eq_some_iff.1 h2
  exact ⟨i, j, hi, e1, hj, by rw [e2]; decide⟩
theorem eq_same (a : Addr) (w : World) : (binOp .eql 29 (er a) (er a)).run Tryd.prog w = .ok (.bool true) w := by
  obtain ⟨i, j, hi, hc, hj, hs⟩ := info113
  exact run_eql_iface_ptr_same w a Tryd.underlying29 Tryd.underlying113 hi hc hj
theorem neq_same (a : Addr) (w : World) : (binOp .neq 29 (er a) (er a)).run Tryd.prog w = .ok (.bool false) w := by
  obtain ⟨i, j, hi, hc, hj, hs⟩ := info113
  simp only [binOp]
  simp [Op.equal, Op.maxDepth, run_equalIn_iface_ptr_same w 9998 a Tryd.underlying29 Tryd.underlying113 hi hc hj]
theorem rpat_any (p : List UInt8) (hl : p.length < 4294967281) (w : World) :
    Calls Tryd.prog 7 #[.string (bs p)] w fun e w' => ∃ s b, e = .returned (.tuple #[.string s, .bool b, .bool (patOk p)]) ∧ Below w.heap.size w w' := by
  by_cases h : 2 < p.length ∧ wld p = true
  · exact (rpat_wild p hl w h.1 h.2).mono fun e w' ⟨h1, h2⟩ => ⟨_, _, h1, h2⟩
  · exact (rpat_plain p hl w h).mono fun e w' ⟨h1, h2⟩ => ⟨_, _, h1, h2⟩
theorem bad_chain (K : Nat → Prop) (ads : Nat → Addr) (m : Int) (p : List UInt8) (hp : patOk p = false) (hl : p.length < 4294967281) :
    (∀ t w a x, Wk K t [] w ads m → Calls Tryd.prog 9 #[pp t, .string (bs p), n64 a, fl x] w fun e w' => e = .returned (.iface 113 (.pointer (some (ads 4)))) ∧ Wk K t [] w' ads m ∧ Fp (fun k => ¬ K k) w w') ∧
    (∀ t w, Wk K t [] w ads m → Calls Tryd.prog 10 #[pp t] w fun e w' => ∃ ao c, e = .returned (.slice ao 0 c) ∧ Wk K t [] w' ads m ∧ Fp (fun k => ¬ K k) w w') ∧
    (∀ t w, Wk K t [] w ads m → Calls Tryd.prog 11 #[pp t, .string (bs p)] w fun e w' => e = .returned (.bool false) ∧ Wk K t [] w' ads m ∧ Fp (fun k => ¬ K k) w w') := by
  refine ⟨fun t w a x hW => ?_, fun t w hW => ?_, fun t w hW => serve_k hW (by decide) p⟩
  · have := register_k hW (by decide) p hl a x
    rw [reg_bad hp] at this
    exact this
  · refine (all_k hW (by decide)).mono fun e w' ⟨v, h1, h2, h3, h4, h5⟩ => ?_
    obtain ⟨ao, c, hv⟩ := own_form h2
    exact ⟨ao, c, by rw [h1, hv]; rfl, h4, h5⟩
theorem below_of {w w' : World} (h : Fp (fun k => ¬ k < w.heap.size) w w') : Below w.heap.size w w' := h.below (fun k hk => Nat.le_of_not_lt hk) (Nat.le_refl _)

set_option maxRecDepth 20000 in
set_option maxHeartbeats 4000000 in
theorem livesLaw_walk (p : List UInt8) (now later : Int) (w : World) (ads : Nat → Addr) (m : Int) (hg : Gw (fun k => k < w.heap.size) w ads m) :
    Calls Tryd.prog 3 #[.string (bs p), n64 now, n64 later] w fun e w' => e = .returned (.bool true) ∧ Below w.heap.size w w' := by
  have hsz : (bs p).size = p.length := rfl
  have HA := Lib.hid (alive_any hg (fun k h => h))
  have HG := Lib.hid hg
  clear hg
  rcases Nat.lt_or_ge 100 p.length with hbig | hsm
  · go_enter Tryd.func3, Tryd.ntmps3
    go_wp2_with (go_at_call 6; refine HA.out.mono ?_; rintro e w1 ⟨rfl, hF⟩; have HF := Lib.hid hF; clear hF)
    go_ret
    exact ⟨rfl, below_of HF.out⟩
  · have HP := Lib.hid (rpat_any p (by omega))
    have HL := Lib.hid (show p.length < 4294967281 by omega)
    have hr1 := umod_range now 549755813888 (by decide) (by decide)
    have hr2 := umod_range later 200 (by decide) (by decide)
    cases hp : patOk p with
    | false =>
      rw [hp] at HP
      obtain ⟨r1, r2, r3⟩ := bad_chain (fun k => k < w.heap.size) ads m p hp (by omega)
      have R1 := Lib.hid r1
      have R2 := Lib.hid r2
      have R3 := Lib.hid r3
      clear r1 r2 r3 hp
      go_enter Tryd.func3, Tryd.ntmps3
      go_wp2_with (first
        | (go_at_call 6; refine HA.out.mono ?_; rintro e w1 ⟨rfl, hF⟩; have HF := Lib.hid hF; clear hF)
        | (go_at_call 7; refine (HP.out _).mono ?_; rintro e w2 ⟨s7, b7, rfl, hB⟩; have HF2 := Lib.hid (HF.out.then (Fp.of_below hB)); clear hB)
        | (go_at_call 8; refine (new_k (HG.out.fp HF2.out (fun k h hn => hn h)) (fun k h => Nat.lt_of_lt_of_le h HF2.out.size)).mono ?_; rintro e w3 ⟨rfl, hW, hF⟩; have HS := Lib.hid hW; clear HF; have HF := Lib.hid (HF2.out.then hF); clear hW hF HF2)
        | (go_at_call 9; refine (R1.out _ _ _ _ HS.out).mono ?_; rintro e w4 ⟨rfl, hW, hF⟩; clear HS; have HS := Lib.hid hW; have HFN := Lib.hid (HF.out.then hF); clear hW hF HF; have HF := Lib.hid HFN.out; clear HFN)
        | (go_at_call 10; refine (R2.out _ _ HS.out).mono ?_; rintro e w4 ⟨ao10, c10, rfl, hW, hF⟩; clear HS; have HS := Lib.hid hW; have HFN := Lib.hid (HF.out.then hF); clear hW hF HF; have HF := Lib.hid HFN.out; clear HFN)
        | (go_at_call 11; refine (R3.out _ _ HS.out).mono ?_; rintro e w4 ⟨rfl, hW, hF⟩; clear HS; have HS := Lib.hid hW; have HFN := Lib.hid (HF.out.then hF); clear hW hF HF; have HF := Lib.hid HFN.out; clear HFN))
      go_ret
      exact ⟨rfl, below_of HF.out⟩
    | true =>
      rw [hp] at HP
      go_enter Tryd.func3, Tryd.ntmps3
      go_wp2_with (first
        | (go_at_call 6; refine HA.out.mono ?_; rintro e w1 ⟨rfl, hF⟩; have HF := Lib.hid hF; clear hF)
        | (go_at_call 7; refine (HP.out _).mono ?_; rintro e w2 ⟨s7, b7, rfl, hB⟩; have HF2 := Lib.hid (HF.out.then (Fp.of_below hB)); clear hB))
      generalize wrap64 ((IntKind.u64.wrap now).tmod 549755813888) = N at hr1 ⊢
      generalize wrap64 ((IntKind.u64.wrap later).tmod 200) = T at hr2 ⊢
      obtain ⟨n, hn⟩ : ∃ n : Nat, n = if 40 < T then 1 else 0 := ⟨_, rfl⟩
      have hgone : (decide ((40 : Int) < T)) = (((n : Int) == 1)) := by
        rw [hn]
        by_cases h : 40 < T <;> simp [h]
      have hn1 : (n : Int) ≤ 1 := by rw [hn]; split <;> decide
      obtain ⟨L1, L2, L3, L4, r9, rs1, r12, rs2, r13, r14, r10, r15, rs4⟩ := lives_chain (fun k => k < w.heap.size) ads m p hp HL.out N T hr1.1 hr1.2 hr2.1 hr2.2 n hn
      have R9 := Lib.hid r9
      have RS1 := Lib.hid rs1
      have R12 := Lib.hid r12
      have RS2 := Lib.hid rs2
      have R13 := Lib.hid r13
      have R14 := Lib.hid r14
      have R10 := Lib.hid r10
      have R15 := Lib.hid r15
      have RS4 := Lib.hid rs4
      have HNN := Lib.hid hn
      have hnq := neq_same (ads 0)
      clear r9 rs1 r12 rs2 r13 r14 r10 r15 rs4 hp hn
      go_wp2_with (first
        | (go_at_call 8; refine (new_k (HG.out.fp HF2.out (fun k h hn => hn h)) (fun k h => Nat.lt_of_lt_of_le h HF2.out.size)).mono ?_; rintro e w3 ⟨rfl, hW, hF⟩; have HS := Lib.hid hW; clear HF; have HF := Lib.hid (HF2.out.then hF); clear hW hF HF2)
        | (go_at_call 10; refine (R10.out _ _ HS.out).mono ?_; rintro e w4 ⟨ao10, c10, rfl, hW, hF⟩; clear HS; have HS := Lib.hid hW; have HFN := Lib.hid (HF.out.then hF); clear hW hF HF; have HF := Lib.hid HFN.out; clear HFN)
        | (go_at_call 13; refine (R13.out _ _ HS.out).mono ?_; rintro e w4 ⟨rfl, hW, hF⟩; clear HS; have HS := Lib.hid hW; have hc0 := hW.gw.er 0 (by decide); have HFN := Lib.hid (HF.out.then hF); clear hW hF HF; have HF := Lib.hid HFN.out; clear HFN)
        | (first | go_at_call 9 | go_at_call 11 | go_at_call 12 | go_at_call 14 | go_at_call 15
           first
            | with_reducible refine (R9.out _ _ HS.out).mono ?_
            | with_reducible refine (RS1.out _ _ HS.out).mono ?_
            | with_reducible refine (R12.out _ _ HS.out).mono ?_
            | with_reducible refine (RS2.out _ _ HS.out).mono ?_
            | with_reducible refine (R14.out _ _ HS.out).mono ?_
            | with_reducible refine (R15.out _ _ HS.out).mono ?_
            | with_reducible refine (RS4.out _ _ HS.out).mono ?_
           rintro e w4 ⟨rfl, hW, hF⟩; clear HS; have HS := Lib.hid hW; have HFN := Lib.hid (HF.out.then hF); clear hW hF HF; have HF := Lib.hid HFN.out; clear HFN))
      go_ret
      exact ⟨rfl, below_of HF.out⟩
end Go.Proofs.YtgimmdnmndbcpaaDoor
