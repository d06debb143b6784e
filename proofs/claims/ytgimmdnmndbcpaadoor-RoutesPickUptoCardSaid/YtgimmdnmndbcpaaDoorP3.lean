/- The walk of RoutesPick. -/
import Derived.Test.YtgimmdnmndbcpaaDoorP2
import Derived.Test.YtgimmdnmndbcpaaDoorM3
import Derived.Deep.DeepCutAuto
import Derived.Deep.CutBlock
set_option linter.unusedVariables false
set_option linter.unusedSimpArgs false
namespace Go.Proofs.YtgimmdnmndbcpaaDoor
open Go.RowKit Jw Lab Go.Shelf Go.Deep
attribute [local go_sem] run_store_float

theorem fp_grown {w w' : World} {b : Nat} (h : w.grownBy w' (some b)) : Fp (fun k => k = b) w w' :=
  ⟨h.os, h.tape, h.output, h.size, fun k hk hn => h.block k hk (fun e => hn (by injection e))⟩
theorem tL_at : ∀ (N : List Rt) (j i : Nat) (r : Rt), N[j]? = some r → i < 5 → (tL N)[j * 5 + i]? = (tc r)[i]?
  | [], j, i, r, h, _ => by simp at h
  | x :: N, 0, i, r, h, hi => by
    simp only [List.getElem?_cons_zero, Option.some.injEq] at h
    subst h
    show (tc x ++ tL N)[0 * 5 + i]? = _
    rw [List.getElem?_append_left (by simp [tc]; omega)]
    simp
  | x :: N, j + 1, i, r, h, hi => by
    show (tc x ++ tL N)[(j + 1) * 5 + i]? = _
    rw [List.getElem?_append_right (by simp [tc]; omega), ← tL_at N j i r (by simpa using h) hi]
    congr 1
    simp [tc]
    omega
set_option maxRecDepth 20000 in
set_option maxHeartbeats 4000000 in
theorem pickLaw_walk (sv : Value) (ops : List Po) (p : List UInt8) (v : Value) (zs : List Int) (w : World) (ads : Nat → Addr) (m : Int) (hg : Gw (fun k => k < w.heap.size) w ads m) (hs : Ro w sv ops) (hol : ops.length ≤ 9223372036854775807) (hp : p.length < 4294967281) (hv : Ri w v zs) (hl : zs.length ≤ 9223372036854775807) :
    Calls Tryd.prog 5 #[sv, .string (bs p), v] w fun e w' => e = .returned (.bool true) ∧ Below w.heap.size w w' := by
  have hsz : (bs p).size = p.length := rfl
  have HA := Lib.hid (alive_any hg (fun k h => h))
  have HP := Lib.hid (rpat_any p hp)
  have HG := Lib.hid hg
  have HV := Lib.hid hv
  have HRO := Lib.hid hs
  obtain ⟨ao, cap, rfl, hao⟩ := hv
  obtain ⟨aos, caps, rfl, haos⟩ := hs
  have HAS := Lib.hid haos
  clear hg hao haos
  by_cases hok : p.length ≤ 300 ∧ zs.length ≤ 100 ∧ patOk p = true
  · obtain ⟨hp3, hz1, hpo⟩ := hok
    rw [hpo] at HP
    have HPO := Lib.hid hpo
    have d1 : decide ((300 : Int) < (p.length : Int)) = false := by simp; omega
    have d2 : decide ((100 : Int) < (zs.length : Int)) = false := by simp; omega
    clear hpo
    go_enter Tryd.func5, Tryd.ntmps5
    go_upto_block 0 with (first
      | (go_at_call 6; refine HA.out.mono ?_; rintro e w1 ⟨rfl, hF⟩; have HF := Lib.hid hF; clear hF)
      | (go_at_call 7; refine (HP.out _).mono ?_; rintro e w2 ⟨s7, b7, rfl, hB⟩; have HF2 := Lib.hid (HF.out.then (Fp.of_below hB)); clear hB)
      | (go_at_call 8; refine (new_k (HG.out.fp HF2.out (fun k h hn => hn h)) (fun k h => Nat.lt_of_lt_of_le h HF2.out.size)).mono ?_; rintro e w3 ⟨rfl, hW, hF⟩; have HS := Lib.hid hW; have HF3 := Lib.hid (HF2.out.then hF); clear hW hF))
    have hs2 := HF2.out.size
    have h7w : 7 ≤ w.heap.size := HG.out.gl.low
    have haw : (ads 4).block < w.heap.size := HG.out.ka
    have hws : Ws (fun k => k < w.heap.size) w2.heap.size 0 w3 ads m := ⟨[], by simp, fun r hr => by simp at hr, HS.out⟩
    obtain ⟨t, ht⟩ : ∃ t, t = w2.heap.size := ⟨_, rfl⟩
    rw [← ht] at hws hs2 ⊢
    have HWS := Lib.hid hws
    have HF4 := Lib.hid HF3.out
    clear hws HS HF HF2 HF3 ht HA HP
    go_cut [11, 12, 42, 57, 67, 75, 83, 89] (fun _ _ _ _ _ _ _ _ wx => ∃ k, k ≤ 151 ∧ Ws (fun k => k < w.heap.size) t k wx ads m ∧ Fp (fun j => ¬ j < w.heap.size) w wx)
    case first =>
      go_wp2_with fail
      go_loopw [11, 12, 42, 57, 67, 75, 83, 89] (fun _ _ i _ _ _ _ _ wr => ∃ k : Nat, k ≤ ops.length ∧ i = n64 k ∧ k ≤ 151 ∧ Ws (fun k => k < w.heap.size) t k wr ads m ∧ Fp (fun j => ¬ j < w.heap.size) w wr) (fun _ _ i _ _ _ _ _ _ => ops.length - (intOf i).toNat)
      case atStart => exact ⟨0, Nat.zero_le _, rfl, by omega, HWS.out, HF4.out⟩
      case round =>
        clear HWS HF4
        obtain ⟨k, hk, rfl, hk1, hws, hfp⟩ := hrel
        by_cases hlk : k < ops.length
        · have HWS := Lib.hid hws
          have HFP := Lib.hid hfp
          clear hws hfp
          obtain ⟨b, off, rfl, hb, hcs⟩ := HAS.out (by omega)
          obtain ⟨bv, q0, q1, q2, q3, q4, q5, ⟨ab, cb, rfl, _⟩, _⟩ := hcs k hlk
          clear hcs
          generalize (ops.getD k default).bz.length = lb at q5
          obtain ⟨o, ho⟩ : ∃ o, o = ops.getD k default := ⟨_, rfl⟩
          rw [← ho] at q0 q1 q2 q3 q4
          clear ho
          have hbn : ¬ ¬ b < w.heap.size := fun h => h hb
          have c0 := (HFP.out.cell (p := ⟨b, off + k * 6, none⟩) hb hbn).trans q0
          have c1 := (HFP.out.cell (p := ⟨b, off + k * 6 + 1, none⟩) hb hbn).trans q1
          have c2 := (HFP.out.cell (p := ⟨b, off + k * 6 + 2, none⟩) hb hbn).trans q2
          have c3 := (HFP.out.cell (p := ⟨b, off + k * 6 + 3, none⟩) hb hbn).trans q3
          have c4 := (HFP.out.cell (p := ⟨b, off + k * 6 + 4, none⟩) hb hbn).trans q4
          have c5 := (HFP.out.cell (p := ⟨b, off + k * 6 + 5, none⟩) hb hbn).trans q5
          clear q0 q1 q2 q3 q4 q5 hbn
          have hsp : (bs o.pt).size = o.pt.length := rfl
          by_cases h150 : 150 < k
          · have d3 : decide ((150 : Int) < (k : Int)) = true := by simp; omega
            go_wp2_with fail
            go_meet
            exact ⟨k, hk1, HWS.out.below ((Below.refl _ _).alloc (Nat.le_refl _) _), HFP.out.then (Fp.of_below ((Below.refl _ _).alloc (Nat.le_refl _) _))⟩
          · have d3 : decide ((150 : Int) < (k : Int)) = false := by simp; omega
            by_cases h300 : 300 < o.pt.length
            · have d4 : decide ((300 : Int) < (o.pt.length : Int)) = true := by simp; omega
              go_wp2_with fail
              go_meet
              exact ⟨k, hk1, HWS.out.below ((Below.refl _ _).alloc (Nat.le_refl _) _), HFP.out.then (Fp.of_below ((Below.refl _ _).alloc (Nat.le_refl _) _))⟩
            · have d4 : decide ((300 : Int) < (o.pt.length : Int)) = false := by simp; omega
              go_upto_block 2 with fail
              by_cases k1 : o.kd = 1
              · rw [k1]
                go_wp2_with (go_at_call 9; refine (reg_s (HWS.out.below ((Below.refl _ _).alloc (Nat.le_refl _) _)) (by omega) o.pt (by omega) o.ag o.wt).mono ?_; rintro e w5 ⟨v5, rfl, hW, hF⟩; have HWS2 := Lib.hid hW; have HF2 := Lib.hid ((HFP.out.then (Fp.of_below ((Below.refl _ _).alloc (Nat.le_refl _) _))).then hF); clear hW hF)
                go_roundw
                case rel => exact ⟨k + 1, by omega, by go_num, by omega, HWS2.out, HF2.out⟩
                case measure => simp [intOf]; omega
              have e1 : (o.kd == 1) = false := by simpa using k1
              by_cases k2 : o.kd = 2
              · rw [k2]
                go_wp2_with (go_at_call 18; refine (drain_s (HWS.out.below ((Below.refl _ _).alloc (Nat.le_refl _) _)) (by omega) o.pt (by omega) o.ag).mono ?_; rintro e w5 ⟨v5, rfl, hW, hF⟩; have HWS2 := Lib.hid hW; have HF2 := Lib.hid ((HFP.out.then (Fp.of_below ((Below.refl _ _).alloc (Nat.le_refl _) _))).then hF); clear hW hF)
                go_roundw
                case rel => exact ⟨k + 1, by omega, by go_num, by omega, HWS2.out, HF2.out⟩
                case measure => simp [intOf]; omega
              have e2 : (o.kd == 2) = false := by simpa using k2
              by_cases k4 : o.kd = 4
              · rw [k4]
                go_wp2_with (go_at_call 12; refine (down_s (HWS.out.below ((Below.refl _ _).alloc (Nat.le_refl _) _)) (by omega) o.ag o.nw).mono ?_; rintro e w5 ⟨v5, rfl, hW, hF⟩; have HWS2 := Lib.hid hW; have HF2 := Lib.hid ((HFP.out.then (Fp.of_below ((Below.refl _ _).alloc (Nat.le_refl _) _))).then hF); clear hW hF)
                go_roundw
                case rel => exact ⟨k + 1, by omega, by go_num, by omega, HWS2.out, HF2.out⟩
                case measure => simp [intOf]; omega
              have e4 : (o.kd == 4) = false := by simpa using k4
              by_cases k5 : o.kd = 5
              · rw [k5]
                go_wp2_with (go_at_call 15; refine (up_s (HWS.out.below ((Below.refl _ _).alloc (Nat.le_refl _) _)) (by omega) o.ag).mono ?_; rintro e w5 ⟨v5, rfl, hW, hF⟩; have HWS2 := Lib.hid hW; have HF2 := Lib.hid ((HFP.out.then (Fp.of_below ((Below.refl _ _).alloc (Nat.le_refl _) _))).then hF); clear hW hF)
                go_roundw
                case rel => exact ⟨k + 1, by omega, by go_num, by omega, HWS2.out, HF2.out⟩
                case measure => simp [intOf]; omega
              have e5 : (o.kd == 5) = false := by simpa using k5
              by_cases k3 : o.kd = 3
              · rw [k3]
                go_wp2_with (go_at_call 17; refine (leave_s (HWS.out.below ((Below.refl _ _).alloc (Nat.le_refl _) _)) (by omega) o.pt (by omega) o.ag).mono ?_; rintro e w5 ⟨v5, rfl, hW, hF⟩; have HWS2 := Lib.hid hW; have HF2 := Lib.hid ((HFP.out.then (Fp.of_below ((Below.refl _ _).alloc (Nat.le_refl _) _))).then hF); clear hW hF)
                go_roundw
                case rel => exact ⟨k + 1, by omega, by go_num, by omega, HWS2.out, HF2.out⟩
                case measure => simp [intOf]; omega
              have e3 : (o.kd == 3) = false := by simpa using k3
              go_wp2_with fail
              have HWS2 := Lib.hid (HWS.out.below ((Below.refl _ _).alloc (Nat.le_refl wr.heap.size) (.cells #[n64 o.kd, n64 o.ag, n64 o.nw, .string (bs o.pt), fl o.wt, .slice ab lb cb] 48))).succ
              have HF2 := Lib.hid (HFP.out.then (Fp.of_below ((Below.refl _ _).alloc (Nat.le_refl wr.heap.size) (.cells #[n64 o.kd, n64 o.ag, n64 o.nw, .string (bs o.pt), fl o.wt, .slice ab lb cb] 48))))
              go_roundw
              case rel => exact ⟨k + 1, by omega, by go_num, by omega, HWS2.out, HF2.out⟩
              case measure => simp [intOf]; omega
        · obtain rfl : k = ops.length := by omega
          have HWS := Lib.hid hws
          have HFP := Lib.hid hfp
          clear hws hfp
          go_wp2_with fail
          go_meet
          exact ⟨_, hk1, HWS.out, HFP.out⟩
    case rest =>
      clear HWS HF4 HAS HRO
      obtain ⟨k0, hk0, ⟨L, hL, hag, hW⟩, hfp⟩ := hcut
      have hmm := @run_makeMap Tryd.prog
      have hlo := hfp.size
      have hsm := sm_made wc
      have hWm := hW.more (.map #[] 0)
      have hb4 : Below wc.heap.size wc (wc.alloc (.map #[] 0)) := (Below.refl _ _).alloc (Nat.le_refl _) _
      have hf4 := hfp.then (S := fun j => ¬ j < w.heap.size) (Fp.of_below hb4)
      have hz4 : (wc.alloc (.map #[] 0)).heap.size = wc.heap.size + 1 := by simp
      obtain ⟨w4, hw4⟩ : ∃ w4, w4 = wc.alloc (.map #[] 0) := ⟨_, rfl⟩
      rw [← hw4] at hsm hWm hf4 hz4
      obtain ⟨bm, hbm⟩ : ∃ b, b = wc.heap.size := ⟨_, rfl⟩
      rw [← hbm] at hsm hWm hz4 hlo
      obtain ⟨N, hN⟩ : ∃ N, N = L.filter (nmR p) := ⟨_, rfl⟩
      have HW4 := Lib.hid hw4
      have HBM := Lib.hid hbm
      have HLS := list_k hWm (by omega) p
      rw [← hN] at HLS
      have HLS := Lib.hid HLS
      have hNL : N.length ≤ 151 := by rw [hN]; exact Nat.le_trans (List.length_filter_le _ _) (by omega)
      have HAG := Lib.hid (show ∀ r ∈ N, numOk r.ag = true from fun r hr => by rw [hN] at hr; exact hag r (List.mem_filter.1 hr).1)
      have HN := Lib.hid hN
      have HSM := Lib.hid hsm
      have HF4 := Lib.hid hf4
      have HAGL := Lib.hid hag
      clear hsm hWm hf4 hw4 hbm hN hag hW hfp hb4
      go_upto_block 3 with (go_at_call 16; rw [← HW4.out]; refine HLS.out.mono ?_; rintro e w5 ⟨v5, rfl, hO, hB, hW, hF⟩; have HO := Lib.hid hO; obtain ⟨ao5, c5, hv5⟩ := own_form HO.out; subst hv5; have HWk := Lib.hid hW; have HSM5 := Lib.hid (HSM.out.fp hF (fun h => h (Or.inr rfl))); have HF5 := Lib.hid (HF4.out.then (hF.mono (fun k hk h => hk (Or.inl h)))); clear hO hB hW hF)
      rw [← HBM.out]
      go_wp2_with fail
      go_loopw [13, 16, 103] (fun sv _ i wr => ∃ (j n : Nat) (A : List Int), j ≤ N.length ∧ i = n64 j ∧ sv = n64 ((N.take j).filter svR).length ∧ n ≤ j ∧ Sm bm n A wr ∧ (∀ x, x ∈ A ↔ ∃ r ∈ N.take j, (svR r && !busyR zs r) = true ∧ r.ag = x) ∧ Fp (fun b => b = bm) w5 wr) (fun _ _ i _ => N.length - (intOf i).toNat)
      case atStart => exact ⟨0, 0, [], Nat.zero_le _, rfl, rfl, Nat.le_refl _, HSM5.out, fun x => by simp, Fp.refl _ _⟩
      case round =>
        obtain ⟨j, n, A, hj, rfl, rfl, hnj, hsm, hmem, hfp⟩ := hrel
        have HS := Lib.hid hsm
        have HM := Lib.hid hmem
        have HF := Lib.hid hfp
        clear hsm hmem hfp HSM5 HSM HF4
        have hcnt : ((N.take j).filter svR).length ≤ j := Nat.le_trans (List.length_filter_le _ _) (by simp; omega)
        by_cases hlj : j < N.length
        · obtain ⟨g, cg, hvg, hg4, hg5, hcell⟩ := own_cellN HO.out (by omega)
          injection hvg with hv1 hv2 hv3
          subst hv1
          clear hv2 hv3
          obtain ⟨r, hr⟩ : ∃ r, N[j]? = some r := ⟨_, List.getElem?_eq_getElem hlj⟩
          have hgb : g ≠ bm := by omega
          have cc : ∀ i, i < 5 → wr.cell? ⟨g, j * 5 + i, none⟩ = (tc r)[i]? := fun i hi => ((HF.out.cell (p := ⟨g, j * 5 + i, none⟩) hg5 hgb).trans (hcell (j * 5 + i) (by omega))).trans (tL_at N j i r hr hi)
          have c0 : wr.cell? ⟨g, j * 5, none⟩ = some (.string (bs r.nm)) := cc 0 (by omega)
          have c1 : wr.cell? ⟨g, j * 5 + 1, none⟩ = some (n64 r.ag) := cc 1 (by omega)
          have c2 : wr.cell? ⟨g, j * 5 + 2, none⟩ = some (fl r.wt) := cc 2 (by omega)
          have c3 : wr.cell? ⟨g, j * 5 + 3, none⟩ = some (.bool r.dr) := cc 3 (by omega)
          have c4 : wr.cell? ⟨g, j * 5 + 4, none⟩ = some (n64 r.un) := cc 4 (by omega)
          have htk : N.take (j + 1) = N.take j ++ [r] := by rw [List.take_add_one, hr]; rfl
          have hrag : numOk r.ag = true := HAG.out r (List.mem_of_getElem? hr)
          have hrwf : (Lit.int .i64 r.ag).wf = true := by
            simp only [numOk, Bool.and_eq_true, decide_eq_true_eq] at hrag
            exact WalkArith.wf_i64 (by omega)
          obtain ⟨wa, hwa⟩ : ∃ wa, wa = wr.alloc (.cells #[.string (bs r.nm), n64 r.ag, fl r.wt, .bool r.dr, n64 r.un] 50) := ⟨_, rfl⟩
          have qa1 : wa.cell? ⟨wr.heap.size, 1, none⟩ = some (n64 r.ag) := by rw [hwa]; exact (blk_new wr _ 50).cell 1 _ rfl
          have hba : Below wr.heap.size wr wa := by rw [hwa]; exact (Below.refl _ _).alloc (Nat.le_refl _) _
          have HSA := Lib.hid (show Sm bm n A wa from HS.out.fp (Fp.of_below (S := fun _ => False) hba) (fun h => h))
          have HFA := Lib.hid (HF.out.then (Fp.of_below hba))
          have HT := Lib.hid htk
          have HWA := Lib.hid hwa
          clear hcell cc hr htk hrag hba hwa
          cases hun : r.un == 0 with
          | false =>
            have hsv : svR r = false := by rw [svR, hun]; rfl
            have HSV := Lib.hid hsv
            clear hsv
            go_wp2_with fail
            rw [← HWA.out]
            go_roundw
            case rel =>
              refine ⟨j + 1, n, A, by omega, by go_num, ?_, by omega, HSA.out, ?_, HFA.out⟩
              · rw [HT.out, List.filter_append]; simp [HSV.out]
              · intro x
                rw [HM.out x, HT.out]
                simp only [List.mem_append, List.mem_singleton]
                constructor
                · rintro ⟨r', h1, h2⟩; exact ⟨r', .inl h1, h2⟩
                · rintro ⟨r', h1 | h1, h2, h3⟩
                  · exact ⟨r', h1, h2, h3⟩
                  · subst h1
                    simp [HSV.out] at h2
            case measure => simp [intOf]; omega
          | true =>
            cases hdr : r.dr with
            | true =>
              have hsv : svR r = false := by rw [svR, hun, hdr]; rfl
              have HSV := Lib.hid hsv
              rw [hdr] at c3
              have HDR := Lib.hid hdr
              rw [hdr] at HWA
              clear hsv hdr
              go_wp2_with fail
              rw [← HWA.out]
              go_roundw
              case rel =>
                refine ⟨j + 1, n, A, by omega, by go_num, ?_, by omega, HSA.out, ?_, HFA.out⟩
                · rw [HT.out, List.filter_append]; simp [HSV.out]
                · intro x
                  rw [HM.out x, HT.out]
                  simp only [List.mem_append, List.mem_singleton]
                  constructor
                  · rintro ⟨r', h1, h2⟩; exact ⟨r', .inl h1, h2⟩
                  · rintro ⟨r', h1 | h1, h2, h3⟩
                    · exact ⟨r', h1, h2, h3⟩
                    · subst h1
                      simp [HSV.out] at h2
              case measure => simp [intOf]; omega
            | false =>
              have hsv : svR r = true := by rw [svR, hun, hdr]; rfl
              rw [hdr] at c3
              have HDR := Lib.hid hdr
              rw [hdr] at HWA
              have hcn : (((N.take (j + 1)).filter svR).length) = ((N.take j).filter svR).length + 1 := by rw [HT.out, List.filter_append]; simp [hsv]
              have HRI := Lib.hid (show Ri wa _ zs from HV.out.fp (HF5.out.then (HFA.out.mono (fun b hb h => by omega))) (fun b off n c e hn => by
                obtain ⟨ao', cap', e2, h⟩ := HV.out
                obtain ⟨b', off', rfl, hlt, _⟩ := h hn
                rw [e2] at e
                injection e with e
                injection e with e
                injection e with e
                omega))
              have HIN := Lib.hid (in_any HRI.out hl r.ag)
              have HSV := Lib.hid hsv
              have HCN := Lib.hid hcn
              generalize ((N.take j).filter svR).length = cnt at hcnt hcn HCN ⊢
              clear hsv hdr hcn
              cases hbz : zs.contains r.ag with
              | true =>
                have HBZ := Lib.hid (show busyR zs r = true from hbz)
                rw [hbz] at HIN
                clear hbz
                go_wp2_with (go_at_call 19; rw [← HWA.out]; refine HIN.out.mono ?_; rintro e w6 ⟨rfl, hw6⟩; subst hw6)
                go_roundw
                case rel =>
                  refine ⟨j + 1, n, A, by omega, by go_num, ?_, by omega, HSA.out, ?_, HFA.out⟩
                  · rw [HCN.out]; go_num
                  · intro x
                    rw [HM.out x, HT.out]
                    simp only [List.mem_append, List.mem_singleton]
                    constructor
                    · rintro ⟨r', h1, h2⟩; exact ⟨r', .inl h1, h2⟩
                    · rintro ⟨r', h1 | h1, h2, h3⟩
                      · exact ⟨r', h1, h2, h3⟩
                      · subst h1
                        simp [HBZ.out] at h2
                case measure => simp [intOf]; omega
              | false =>
                have HBZ := Lib.hid (show busyR zs r = false from hbz)
                rw [hbz] at HIN
                clear hbz
                obtain ⟨w7, hup, hsm7, hgr⟩ := HSA.out.put (show n < maxLen by unfold maxLen; omega) r.ag hrwf
                have HSM7 := Lib.hid hsm7
                have HF7 := Lib.hid (HFA.out.then (fp_grown hgr))
                clear hsm7 hgr
                go_wp2_with (go_at_call 19; rw [← HWA.out]; refine HIN.out.mono ?_; rintro e w6 ⟨rfl, hw6⟩; subst hw6)
                go_roundw
                case rel =>
                  refine ⟨j + 1, n + 1, _, by omega, by go_num, ?_, by omega, HSM7.out, ?_, HF7.out⟩
                  · rw [HCN.out]; go_num
                  · intro x
                    rw [HT.out]
                    have hx : x ∈ (if A.contains r.ag = true then A else A ++ [r.ag]) ↔ x ∈ A ∨ x = r.ag := by
                      split
                      · rename_i hc
                        exact ⟨.inl, fun h => h.elim id (fun e => by rw [e]; exact List.contains_iff_mem.1 hc)⟩
                      · simp
                    rw [hx, HM.out x]
                    simp only [List.mem_append, List.mem_singleton]
                    constructor
                    · rintro (⟨r', h1, h2⟩ | h)
                      · exact ⟨r', .inl h1, h2⟩
                      · exact ⟨r, .inr rfl, by simp [HSV.out, HBZ.out], h.symm⟩
                    · rintro ⟨r', h1 | h1, h2, h3⟩
                      · exact .inl ⟨r', h1, h2, h3⟩
                      · subst h1
                        exact .inr h3.symm
                case measure => simp [intOf]; omega
        · obtain rfl : j = N.length := by omega
          rw [List.take_length] at hcnt ⊢
          have hmem := HM.out
          rw [List.take_length] at hmem
          obtain ⟨l1, l2, l3⟩ := pick_law p zs L N HPO.out HN.out A hmem
          have hWr := HWk.out.write HF.out (Or.inr rfl) (by omega) (by omega)
          have hRI : Ri wr _ zs := HV.out.fp (HF5.out.then (HF.out.mono (fun b hb h => by omega))) (fun b off n c e hn => by
            obtain ⟨ao', cap', e2, h⟩ := HV.out
            obtain ⟨b', off', rfl, hlt, _⟩ := h hn
            rw [e2] at e
            injection e with e
            injection e with e
            injection e with e
            omega)
          have hPK := picks_k hWr (by omega) p hp _ zs hRI hl
          have HFR := Lib.hid (HF5.out.then (HF.out.mono (fun b hb h => by omega)) : Fp (fun j => ¬ j < w.heap.size) w wr)
          by_cases hS0 : (N.filter svR).length = 0
          · have e0 := l1 hS0
            rw [e0] at hPK
            generalize (pickL p zs L).1.1 = a at hPK
            have HPK := Lib.hid (show Calls Tryd.prog 13 #[pp t, .string (bs p), .slice ao zs.length cap] wr fun e w' => e = .returned (.tuple #[n64 a, er (ads 0)]) ∧ Wk (fun k => k < w.heap.size ∨ k = bm) t (pickL p zs L).2 w' ads m ∧ Fp (fun k => ¬ (k < w.heap.size ∨ k = bm)) wr w' from hPK)
            rw [hS0]
            have hes := eq_same (ads 0)
            clear hPK hRI hWr l1 l2 l3 hmem e0 hS0 hcnt
            go_wp2_with (go_at_call 13; refine HPK.out.mono ?_; rintro e w8 ⟨rfl, hW, hF⟩; have hg0 := hW.gw.er 0 (by decide); have HF8 := Lib.hid (HFR.out.then (hF.mono (fun k hk h => hk (Or.inl h)))); clear hW hF)
            go_ret
            exact ⟨rfl, below_of HF8.out⟩
          · have hS1 : (((N.filter svR).length : Int) == 0) = false := beq_eq_false_iff_ne.2 (by omega)
            generalize (N.filter svR).length = cnt at hS0 hS1 hcnt l1 l2 l3 ⊢
            by_cases hA0 : A = []
            · have e0 := l2 hS0 hA0
              rw [e0] at hPK
              generalize (pickL p zs L).1.1 = a at hPK
              have HPK := Lib.hid (show Calls Tryd.prog 13 #[pp t, .string (bs p), .slice ao zs.length cap] wr fun e w' => e = .returned (.tuple #[n64 a, er (ads 2)]) ∧ Wk (fun k => k < w.heap.size ∨ k = bm) t (pickL p zs L).2 w' ads m ∧ Fp (fun k => ¬ (k < w.heap.size ∨ k = bm)) wr w' from hPK)
              have hes := eq_same (ads 2)
              subst hA0
              clear hPK hRI hWr l1 l2 l3 hmem e0 hS0 hcnt HM
              go_wp2_with (go_at_call 13; refine HPK.out.mono ?_; rintro e w8 ⟨rfl, hW, hF⟩; have hg2 := hW.gw.er 2 (by decide); have hlen := (HS.out.fp hF (fun h => h (Or.inr rfl))).len; have HF8 := Lib.hid (HFR.out.then (hF.mono (fun k hk h => hk (Or.inl h)))); clear hW hF)
              go_ret
              exact ⟨rfl, below_of HF8.out⟩
            · obtain ⟨e0, e1⟩ := l3 hS0 hA0
              rw [e0] at hPK
              generalize (pickL p zs L).1.1 = a at hPK e1
              have HPK := Lib.hid (show Calls Tryd.prog 13 #[pp t, .string (bs p), .slice ao zs.length cap] wr fun e w' => e = .returned (.tuple #[n64 a, .nilIface]) ∧ Wk (fun k => k < w.heap.size ∨ k = bm) t (pickL p zs L).2 w' ads m ∧ Fp (fun k => ¬ (k < w.heap.size ∨ k = bm)) wr w' from hPK)
              have hA1 : ((A.length : Int) == 0) = false := beq_eq_false_iff_ne.2 (by
                intro e
                exact hA0 (List.length_eq_zero_iff.1 (by omega)))
              have hawf : (Lit.int .i64 a).wf = true := by
                obtain ⟨r, hr, _, rfl⟩ := (hmem a).1 e1
                have := HAG.out r hr
                simp only [numOk, Bool.and_eq_true, decide_eq_true_eq] at this
                exact WalkArith.wf_i64 (by omega)
              have HAC := Lib.hid (List.contains_iff_mem.2 e1)
              clear hPK hRI hWr l1 l2 l3 hmem e0 e1 hS0 hcnt HM hA0
              go_wp2_with (go_at_call 13; refine HPK.out.mono ?_; rintro e w8 ⟨rfl, hW, hF⟩; have hS8 := HS.out.fp hF (fun h => h (Or.inr rfl)); have hlen := hS8.len; have hlk := hS8.look a hawf; rw [HAC.out] at hlk; have HF8 := Lib.hid (HFR.out.then (hF.mono (fun k hk h => hk (Or.inl h)))); clear hW hF hS8)
              go_ret
              exact ⟨rfl, below_of HF8.out⟩
  · have hcase : 300 < p.length ∨ (p.length ≤ 300 ∧ 100 < zs.length) ∨ (p.length ≤ 300 ∧ zs.length ≤ 100 ∧ patOk p = false) := by
      rcases Nat.lt_or_ge 300 p.length with h | h
      · exact .inl h
      · rcases Nat.lt_or_ge 100 zs.length with h' | h'
        · exact .inr (.inl ⟨h, h'⟩)
        · refine .inr (.inr ⟨h, h', ?_⟩)
          cases e : patOk p with
          | false => rfl
          | true => exact absurd ⟨h, h', e⟩ hok
    clear hok
    rcases hcase with h | ⟨h, h'⟩ | ⟨h, h', h3⟩
    · have d1 : decide ((300 : Int) < (p.length : Int)) = true := by simp; omega
      go_enter Tryd.func5, Tryd.ntmps5
      go_wp2_with (first
        | (go_at_call 6; refine HA.out.mono ?_; rintro e w1 ⟨rfl, hF⟩; have HF := Lib.hid hF; clear hF)
        | (go_at_call 7; refine (HP.out _).mono ?_; rintro e w2 ⟨s7, b7, rfl, hB⟩; have HF2 := Lib.hid (HF.out.then (Fp.of_below hB)); clear hB))
      go_ret
      exact ⟨rfl, below_of HF2.out⟩
    · have d1 : decide ((300 : Int) < (p.length : Int)) = false := by simp; omega
      have d2 : decide ((100 : Int) < (zs.length : Int)) = true := by simp; omega
      go_enter Tryd.func5, Tryd.ntmps5
      go_wp2_with (first
        | (go_at_call 6; refine HA.out.mono ?_; rintro e w1 ⟨rfl, hF⟩; have HF := Lib.hid hF; clear hF)
        | (go_at_call 7; refine (HP.out _).mono ?_; rintro e w2 ⟨s7, b7, rfl, hB⟩; have HF2 := Lib.hid (HF.out.then (Fp.of_below hB)); clear hB))
      go_ret
      exact ⟨rfl, below_of HF2.out⟩
    · have d1 : decide ((300 : Int) < (p.length : Int)) = false := by simp; omega
      have d2 : decide ((100 : Int) < (zs.length : Int)) = false := by simp; omega
      rw [h3] at HP
      clear h3
      go_enter Tryd.func5, Tryd.ntmps5
      go_wp2_with (first
        | (go_at_call 6; refine HA.out.mono ?_; rintro e w1 ⟨rfl, hF⟩; have HF := Lib.hid hF; clear hF)
        | (go_at_call 7; refine (HP.out _).mono ?_; rintro e w2 ⟨s7, b7, rfl, hB⟩; have HF2 := Lib.hid (HF.out.then (Fp.of_below hB)); clear hB))
      go_ret
      exact ⟨rfl, below_of HF2.out⟩
end Go.Proofs.YtgimmdnmndbcpaaDoor
