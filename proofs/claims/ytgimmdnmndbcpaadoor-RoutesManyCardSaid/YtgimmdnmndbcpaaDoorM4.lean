/- The walk of RoutesMany. -/
import Derived.Test.YtgimmdnmndbcpaaDoorM3
import Derived.Deep.Draws
import Derived.Deep.RegionHeld3
set_option linter.unusedVariables false
set_option linter.unusedSimpArgs false
namespace Go.Proofs.YtgimmdnmndbcpaaDoor
open Go.RowKit Jw Lab Go.Shelf Go.Deep

theorem fp_grown {w w' : World} {b : Nat} (h : w.grownBy w' (some b)) : Fp (fun k => k = b) w w' :=
  ⟨h.os, h.tape, h.output, h.size, fun k hk hn => h.block k hk (fun e => hn (by injection e))⟩
theorem Mw.write {K : Nat → Prop} {t : Nat} {A : List Int} {w w' : World} {ads : Nat → Addr} {m : Int} {b : Nat} (h : Mw K t A w ads m) (hf : Fp (fun k => k = b) w w') (hb : K b) (h7 : 7 ≤ b) (ha : (ads 4).block ≠ b) : Mw K t A w' ads m := by
  obtain ⟨L, hi, hW⟩ := h
  exact ⟨L, hi, hW.write hf hb h7 ha⟩
theorem Mw.gw {K : Nat → Prop} {t : Nat} {A : List Int} {w : World} {ads : Nat → Addr} {m : Int} (h : Mw K t A w ads m) : Gw K w ads m := by
  obtain ⟨L, hi, hW⟩ := h
  exact hW.gw
theorem Fp.undrew {S : Nat → Prop} {w w' : World} (h : Fp S w.drew w') : Fp S w w' := ⟨h.os, h.tape, h.output, h.size, h.other⟩
theorem Mw.drew {K : Nat → Prop} {t : Nat} {A : List Int} {w : World} {ads : Nat → Addr} {m : Int} (h : Mw K t A w ads m) : Mw K t A w.drew ads m := by
  obtain ⟨L, hi, hW⟩ := h
  exact ⟨L, hi, (hW.below (show Below w.heap.size w w.drew from ⟨rfl, rfl, rfl, Nat.le_refl _, fun _ _ => rfl⟩)).1⟩
theorem and15 (z : Int) : 0 ≤ bits .and .i64 z 15 ∧ bits .and .i64 z 15 < 16 := by
  have h : bits .and .i64 z 15 = IntKind.i64.wrap ((BitVec.ofInt 64 z &&& BitVec.ofInt 64 15).toNat : Int) := rfl
  have h2 : (BitVec.ofInt 64 z &&& BitVec.ofInt 64 15).toNat ≤ 15 := by
    rw [BitVec.toNat_and]
    exact Nat.le_trans Nat.and_le_right (by decide)
  rw [h]
  generalize (BitVec.ofInt 64 z &&& BitVec.ofInt 64 15).toNat = n at h2
  simp only [IntKind.wrap, IntKind.signed, IntKind.bits]
  simp
  omega
set_option maxRecDepth 20000 in
set_option maxHeartbeats 4000000 in
theorem manyLaw_walk (v : Value) (zs : List Int) (w : World) (ads : Nat → Addr) (m : Int) (hg : Gw (fun k => k < w.heap.size) w ads m) (hv : Ri w v zs) (hl : zs.length ≤ 9223372036854775807) :
    Calls Tryd.prog 4 #[v] w fun e w' => e = .returned (.bool true) ∧ Below w.heap.size w w' := by
  have HA := Lib.hid (alive_any hg (fun k h => h))
  have HG := Lib.hid hg
  have HV := Lib.hid hv
  have hmm := @run_makeMap Tryd.prog
  obtain ⟨ao, cap, rfl, hao⟩ := hv
  have HAO := Lib.hid hao
  clear hg hao
  go_enter Tryd.func4, Tryd.ntmps4
  go_wp2_with (first
    | (go_at_call 6; refine HA.out.mono ?_; rintro e w1 ⟨rfl, hF⟩; have HF := Lib.hid hF; clear hF)
    | (go_at_call 8; refine (new_k (HG.out.fp HF.out (fun k h hn => hn h)) (fun k h => Nat.lt_of_lt_of_le h HF.out.size)).mono ?_; rintro e w3 ⟨rfl, hW, hF⟩; have HS := Lib.hid hW; have HF3 := Lib.hid (HF.out.then hF); clear hW hF))
  have hs1 := HF.out.size
  have hs3 := HF3.out.size
  have h7w : 7 ≤ w.heap.size := HG.out.gl.low
  have haw : (ads 4).block < w.heap.size := HG.out.ka
  have hsm := sm_made w3
  have hb4 : Below w3.heap.size w3 (w3.alloc (.map #[] 0)) := (Below.refl _ _).alloc (Nat.le_refl _) _
  have hmw : Mw (fun k => k < w.heap.size ∨ k = w3.heap.size) w1.heap.size [] (w3.alloc (.map #[] 0)) ads m := ⟨[], ⟨rfl, fun r hr => by simp at hr⟩, HS.out.more _⟩
  have hf4 : Fp (fun j => ¬ j < w.heap.size) w (w3.alloc (.map #[] 0)) := HF3.out.then (Fp.of_below hb4)
  generalize w3.alloc (.map #[] 0) = w4 at hsm hmw hf4 ⊢
  obtain ⟨bm, hbm⟩ : ∃ b, b = w3.heap.size := ⟨_, rfl⟩
  obtain ⟨t, ht⟩ : ∃ t, t = w1.heap.size := ⟨_, rfl⟩
  rw [← hbm] at hsm hmw hs3 ⊢
  rw [← ht] at hmw ⊢
  have HM4 := Lib.hid hmw
  have HS4 := Lib.hid hsm
  have HF4 := Lib.hid hf4
  clear hmw hsm hf4 hb4 HS HF3 HF hbm ht hs1 HA
  go_loopw [5, 6, 7, 8, 16] (fun _ _ _ _ i wr => ∃ (k n : Nat) (A : List Int), k ≤ zs.length ∧ i = n64 k ∧ k ≤ 101 ∧ n ≤ k ∧ A.Nodup ∧ (∀ x ∈ A, 0 ≤ x ∧ x < 16) ∧ A.length ≤ 4 ∧ Mw (fun k => k < w.heap.size ∨ k = bm) t A wr ads m ∧ Sm bm n A wr ∧ Fp (fun j => ¬ j < w.heap.size) w wr) (fun _ _ _ _ i _ => zs.length - (intOf i).toNat)
  case atStart => exact ⟨0, 0, [], Nat.zero_le _, rfl, by omega, Nat.le_refl _, List.nodup_nil, fun x hx => by simp at hx, by simp, HM4.out, HS4.out, HF4.out⟩
  case round =>
    clear HM4 HS4 HF4
    obtain ⟨k, n, A, hk, rfl, hk1, hnk, hnd, hin, hA4, hmw, hsm, hfp⟩ := hrel
    have HM := Lib.hid hmw
    have HSM := Lib.hid hsm
    have HFP := Lib.hid hfp
    have HND := Lib.hid hnd
    have HIN := Lib.hid hin
    clear hmw hsm hfp hnd hin
    by_cases hcont : k < zs.length ∧ ¬ 100 < k
    · obtain ⟨hlk, h100⟩ := hcont
      have d1 : decide ((100 : Int) < (k : Int)) = false := by simp; omega
      obtain ⟨b, off, rfl, hblt, hcb⟩ := HAO.out (by omega)
      have hc := (HFP.out.cell (p := ⟨b, off + k, none⟩) hblt (fun h => h hblt)).trans (hcb k hlk)
      obtain ⟨z, hz⟩ : ∃ z, z = zs.getD k 0 := ⟨_, rfl⟩
      rw [← hz] at hc
      clear hcb
      go_upto_region 10 with fail
      have ha := and15 zs[k]
      generalize bits BinOp.and IntKind.i64 zs[k] 15 = a at ha ⊢
      clear hz
      have hawf : (Lit.int .i64 a).wf = true := WalkArith.wf_i64 (by omega)
      obtain ⟨ha0, ha1⟩ := ha
      have hrg := fun wt => reg_m HM.out hA4 a ha0 ha1 wt
      have hnd2 := addA_nodup HND.out a
      have hin2 := addA_mem (P := fun x => 0 ≤ x ∧ x < 16) HIN.out (a := a) ⟨ha0, ha1⟩
      have hlen2 := addA_len hA4 a
      cases hc1 : A.contains a with
      | true =>
        have hadd : addA A a = A := by rw [addA, if_pos hc1]
        rw [hc1, hadd] at hrg
        have HRG := Lib.hid (show ∀ wt, Calls Tryd.prog 9 #[pp t, .string ⟨#[97]⟩, n64 a, fl wt] wr fun e w' => e = .returned .nilIface ∧ Mw (fun k => k < w.heap.size ∨ k = bm) t A w' ads m ∧ Fp (fun k => ¬ (k < w.heap.size ∨ k = bm)) wr w' from hrg)
        have HC1 := Lib.hid hc1
        clear hrg hadd hc1 hnd2 hin2 hlen2
        go_wp2_with (first
            | (go_at_call 9; refine (HRG.out _).mono ?_; rintro e w5 ⟨rfl, hM, hF⟩; have HSM5 := Lib.hid (HSM.out.fp hF (fun h => h (Or.inr rfl))); have hlk := HSM5.out.look a hawf; rw [HC1.out] at hlk; obtain ⟨w6, hup, hsm6, hgr⟩ := HSM5.out.put (show n < maxLen by unfold maxLen; omega) a hawf; rw [if_pos HC1.out] at hsm6; have HSM6 := Lib.hid hsm6; have HM6 := Lib.hid (hM.write (fp_grown hgr) (Or.inr rfl) (by omega) (by omega)); have HF6 := Lib.hid ((HFP.out.then (hF.mono (fun k hk h => hk (Or.inl h)))).then ((fp_grown hgr).mono (fun k hk h => by omega))); clear hM hF hsm6 hgr HSM5)
            | (go_at_call 16; refine (list_a HM6.out hA4).mono ?_; rintro e w7 ⟨ao7, c7, rfl, hM, hF⟩; have HSM7 := Lib.hid (HSM6.out.fp hF (fun h => h (Or.inr rfl))); have hlen := HSM7.out.len; have HM7 := Lib.hid hM; have HF7 := Lib.hid (HF6.out.then (hF.mono (fun k hk h => hk (Or.inl h)))); clear hM hF)
            | (go_at_call 16; refine (list_b HM7.out hA4).mono ?_; rintro e w8 ⟨ao8, c8, rfl, hM, hF⟩; have HSM8 := Lib.hid (HSM7.out.fp hF (fun h => h (Or.inr rfl))); have HM8 := Lib.hid hM; have HF8 := Lib.hid (HF7.out.then (hF.mono (fun k hk h => hk (Or.inl h)))); clear hM hF))
        exact ⟨⟨k + 1, n + 1, A, by omega, by go_num, by omega, by omega, HND.out, HIN.out, hA4, HM8.out, HSM8.out, HF8.out⟩, by simp [intOf]; omega⟩
      | false =>
        by_cases hl4 : A.length < 4
        · have hadd : addA A a = A ++ [a] := by rw [addA, hc1, if_neg (by decide), if_pos hl4]
          have d4 : decide ((A.length : Int) < 4) = true := by simp; omega
          have e1 : (if (A.contains a || decide (A.length < 4)) = true then (none : Option Nat) else some 1) = none := if_pos (by simp [hl4])
          rw [hadd] at hrg hnd2 hin2 hlen2
          rw [e1] at hrg
          have HRG := Lib.hid (show ∀ wt, Calls Tryd.prog 9 #[pp t, .string ⟨#[97]⟩, n64 a, fl wt] wr fun e w' => e = .returned .nilIface ∧ Mw (fun k => k < w.heap.size ∨ k = bm) t (A ++ [a]) w' ads m ∧ Fp (fun k => ¬ (k < w.heap.size ∨ k = bm)) wr w' from hrg)
          have HC1 := Lib.hid hc1
          have HND2 := Lib.hid hnd2
          have HIN2 := Lib.hid hin2
          have hl41 : (A ++ [a]).length = A.length + 1 := by simp
          clear hrg hadd hc1 hnd2 hin2 e1
          go_wp2_with (first
            | (go_at_call 9; refine (HRG.out _).mono ?_; rintro e w5 ⟨rfl, hM, hF⟩; have HSM5 := Lib.hid (HSM.out.fp hF (fun h => h (Or.inr rfl))); have hlk := HSM5.out.look a hawf; rw [HC1.out] at hlk; have hlen5 := HSM5.out.len; obtain ⟨w6, hup, hsm6, hgr⟩ := HSM5.out.put (show n < maxLen by unfold maxLen; omega) a hawf; rw [if_neg (by rw [HC1.out]; decide)] at hsm6; have HSM6 := Lib.hid hsm6; have HM6 := Lib.hid (hM.write (fp_grown hgr) (Or.inr rfl) (by omega) (by omega)); have HF6 := Lib.hid ((HFP.out.then (hF.mono (fun k hk h => hk (Or.inl h)))).then ((fp_grown hgr).mono (fun k hk h => by omega))); clear hM hF hsm6 hgr HSM5)
            | (go_at_call 16; refine (list_a HM6.out hlen2).mono ?_; rintro e w7 ⟨ao7, c7, rfl, hM, hF⟩; have HSM7 := Lib.hid (HSM6.out.fp hF (fun h => h (Or.inr rfl))); have hlen := HSM7.out.len; have HM7 := Lib.hid hM; have HF7 := Lib.hid (HF6.out.then (hF.mono (fun k hk h => hk (Or.inl h)))); clear hM hF)
            | (go_at_call 16; refine (list_b HM7.out hlen2).mono ?_; rintro e w8 ⟨ao8, c8, rfl, hM, hF⟩; have HSM8 := Lib.hid (HSM7.out.fp hF (fun h => h (Or.inr rfl))); have HM8 := Lib.hid hM; have HF8 := Lib.hid (HF7.out.then (hF.mono (fun k hk h => hk (Or.inl h)))); clear hM hF))
          exact ⟨⟨k + 1, n + 1, A ++ [a], by omega, by go_num, by omega, by omega, HND2.out, HIN2.out, hlen2, HM8.out, HSM8.out, HF8.out⟩, by simp [intOf]; omega⟩
        · have hadd : addA A a = A := by rw [addA, hc1, if_neg (by decide), if_neg hl4]
          have d4 : decide ((A.length : Int) < 4) = false := by simp; omega
          have e1 : (if (A.contains a || decide (A.length < 4)) = true then (none : Option Nat) else some 1) = some 1 := if_neg (by rw [hc1]; simp [hl4])
          rw [hadd, e1] at hrg
          have HRG := Lib.hid (show ∀ wt, Calls Tryd.prog 9 #[pp t, .string ⟨#[97]⟩, n64 a, fl wt] wr fun e w' => e = .returned (er (ads 1)) ∧ Mw (fun k => k < w.heap.size ∨ k = bm) t A w' ads m ∧ Fp (fun k => ¬ (k < w.heap.size ∨ k = bm)) wr w' from hrg)
          have HC1 := Lib.hid hc1
          have hnq := neq_same (ads 1)
          clear hrg hadd hc1 hnd2 hin2 hlen2 e1
          go_wp2_with (first
            | (go_at_call 9; refine (HRG.out _).mono ?_; rintro e w5 ⟨rfl, hM, hF⟩; have HSM5 := Lib.hid (HSM.out.fp hF (fun h => h (Or.inr rfl))); have hlk := HSM5.out.look a hawf; rw [HC1.out] at hlk; have hlen5 := HSM5.out.len; have HM5 := Lib.hid hM; have hg1 := hM.gw.er 1 (by decide); have HF5 := Lib.hid (HFP.out.then (hF.mono (fun k hk h => hk (Or.inl h)))); clear hM hF)
            | (go_at_call 16; refine (list_a HM5.out hA4).mono ?_; rintro e w7 ⟨ao7, c7, rfl, hM, hF⟩; have HSM7 := Lib.hid (HSM5.out.fp hF (fun h => h (Or.inr rfl))); have hlen := HSM7.out.len; have HM7 := Lib.hid hM; have HF7 := Lib.hid (HF5.out.then (hF.mono (fun k hk h => hk (Or.inl h)))); clear hM hF)
            | (go_at_call 16; refine (list_b HM7.out hA4).mono ?_; rintro e w8 ⟨ao8, c8, rfl, hM, hF⟩; have HSM8 := Lib.hid (HSM7.out.fp hF (fun h => h (Or.inr rfl))); have HM8 := Lib.hid hM; have HF8 := Lib.hid (HF7.out.then (hF.mono (fun k hk h => hk (Or.inl h)))); clear hM hF))
          exact ⟨⟨k + 1, n, A, by omega, by go_num, by omega, by omega, HND.out, HIN.out, hA4, HM8.out, HSM8.out, HF8.out⟩, by simp [intOf]; omega⟩
    · have hex : (k < zs.length ∧ 100 < k) ∨ k = zs.length := by omega
      rcases hex with ⟨hlk, h100⟩ | hke
      · have d1 : decide ((100 : Int) < (k : Int)) = true := by simp; omega
        obtain ⟨b, off, rfl, hblt, hcb⟩ := HAO.out (by omega)
        have hc := (HFP.out.cell (p := ⟨b, off + k, none⟩) hblt (fun h => h hblt)).trans (hcb k hlk)
        obtain ⟨z, hz⟩ : ∃ z, z = zs.getD k 0 := ⟨_, rfl⟩
        rw [← hz] at hc
        clear hcb hz
        go_wp2_with fail
        go_loopw [9, 67] (fun _ i wr2 => ∃ (j : Nat) (A' : List Int), j ≤ 16 ∧ i = n64 j ∧ A'.Nodup ∧ A'.length ≤ 4 ∧ (∀ x, x ∈ A' ↔ x ∈ A ∧ (j : Int) ≤ x) ∧ Mw (fun k => k < w.heap.size ∨ k = bm) t A' wr2 ads m ∧ Sm bm n A wr2 ∧ Fp (fun j => ¬ j < w.heap.size) w wr2) (fun _ i _ => 16 - (intOf i).toNat)
        case atStart => exact ⟨0, A, Nat.zero_le _, rfl, HND.out, hA4, fun x => ⟨fun h => ⟨h, (HIN.out x h).1⟩, fun h => h.1⟩, HM.out, HSM.out, HFP.out⟩
        case round =>
          clear HM HSM HFP
          obtain ⟨j, A', hj, rfl, hnd', hA4', hmem, hmw, hsm, hfp⟩ := hrel
          have HM := Lib.hid hmw
          have HSM := Lib.hid hsm
          have HFP := Lib.hid hfp
          have HMEM := Lib.hid hmem
          by_cases hlj : j < 16
          · have hcc : A'.contains (j : Int) = A.contains (j : Int) := by
              rw [Bool.eq_iff_iff, List.contains_iff_mem, List.contains_iff_mem, hmem]
              exact ⟨fun h => h.1, fun h => ⟨h, Int.le_refl _⟩⟩
            have HLVY := leave_yes hmw.drew hA4' hnd' (j : Int) (by omega) (by omega)
            have HLVN := leave_no hmw.drew hA4' hnd' (j : Int) (by omega) (by omega)
            rw [hcc] at HLVY HLVN
            have hjwf : (Lit.int .i64 (j : Int)).wf = true := WalkArith.wf_i64 (by omega)
            have HLVY := Lib.hid HLVY
            have HLVN := Lib.hid HLVN
            clear hnd' hmem hmw hsm hfp hcc
            go_upto_region 22 with fail
            cases hAj : A.contains (j : Int) with
            | true =>
              have HLV := Lib.hid (HLVY.out hAj)
              clear HLVY HLVN
              refine wp_region_held_drew (S := fun V => Sm bm n A V) (by kernel_rfl) HSM.out (fun hHeld => ?_)
              refine wpAnyH_take (i := 0) (v := ?_) rfl (by kernel_rfl) (by kernel_rfl) (by kernel_rfl) (fun _ _ _ h => h) (Or.inl ⟨by rfl, ?_⟩) (by assumption) ?_
              rotate_left 1
              · intro w hSw; (try dsimp only at hSw); go_simp; (try with_reducible rfl)
              try simp only [Act.put, List.setIfInBounds_toArray, List.set_cons_zero, List.set_cons_succ, List.getElem_toArray, List.getElem_cons_zero, List.getElem_cons_succ]
              refine wpAnyH_take (i := 1) (v := ?_) rfl (by kernel_rfl) (by kernel_rfl) (by kernel_rfl) (fun _ _ _ h => h) (Or.inl ⟨by rfl, ?_⟩) (by assumption) ?_
              rotate_left 1
              · intro w hSw; (try dsimp only at hSw); go_simp; (try with_reducible rfl)
              try simp only [Act.put, List.setIfInBounds_toArray, List.set_cons_zero, List.set_cons_succ, List.getElem_toArray, List.getElem_cons_zero, List.getElem_cons_succ]
              refine wpAnyH_take (i := 4) (v := ?_) rfl (by kernel_rfl) (by kernel_rfl) (by kernel_rfl) (fun _ _ _ h => h) (Or.inl ⟨by rfl, ?_⟩) (by assumption) ?_
              rotate_left 1
              · intro w hSw; (try dsimp only at hSw); go_simp; (try with_reducible rfl)
              try simp only [Act.put, List.setIfInBounds_toArray, List.set_cons_zero, List.set_cons_succ, List.getElem_toArray, List.getElem_cons_zero, List.getElem_cons_succ]
              refine wpAnyH_take (i := 5) (v := ?_) rfl (by kernel_rfl) (by kernel_rfl) (by kernel_rfl) (fun _ _ _ h => h) (Or.inl ⟨by rfl, ?_⟩) (by assumption) ?_
              rotate_left 1
              · intro w hSw; (try dsimp only at hSw); go_simp; (try with_reducible rfl)
              try simp only [Act.put, List.setIfInBounds_toArray, List.set_cons_zero, List.set_cons_succ, List.getElem_toArray, List.getElem_cons_zero, List.getElem_cons_succ]
              refine wpAnyH_take (i := 6) (v := ?_) rfl (by kernel_rfl) (by kernel_rfl) (by kernel_rfl) (fun _ _ _ h => h) (Or.inl ⟨by rfl, ?_⟩) (by assumption) ?_
              rotate_left 1
              · intro V hSw; have hc := (show Sm bm n A V from hSw).look (j : Int) hjwf; rw [hAj] at hc; clear hSw; go_simp; (try with_reducible rfl)
              try simp only [Act.put, List.setIfInBounds_toArray, List.set_cons_zero, List.set_cons_succ, List.getElem_toArray, List.getElem_cons_zero, List.getElem_cons_succ]
              refine wpAnyH_ready (rs := [2]) (by kernel_rfl) (by simp) ?_
              refine AllReadyH.cons rfl (fun K hK => ?_) AllReadyH.nil
              go_simp
              refine (HLV.out).mono ?_
              rintro e w5 ⟨rfl, ⟨A2, hM, hN2, hL2, hm2⟩, hF⟩
              have hSM5 := HSM.out.fp hF.undrew (fun h => h (Or.inr rfl))
              refine hK.out _ _ hSM5 (fun hHeld2 => ?_)
              clear hK K
              try simp only [Act.put, List.setIfInBounds_toArray, List.set_cons_zero, List.set_cons_succ, List.getElem_toArray, List.getElem_cons_zero, List.getElem_cons_succ]
              refine wpAnyH_take (i := 3) (v := ?_) rfl (by kernel_rfl) (by kernel_rfl) (by kernel_rfl) (fun _ _ _ h => h) (Or.inl ⟨by rfl, ?_⟩) (by assumption) ?_
              rotate_left 1
              · intro w hSw; (try dsimp only at hSw); go_simp; (try with_reducible rfl)
              try simp only [Act.put, List.setIfInBounds_toArray, List.set_cons_zero, List.set_cons_succ, List.getElem_toArray, List.getElem_cons_zero, List.getElem_cons_succ]
              refine wpAnyH_take (i := 7) (v := ?_) rfl (by kernel_rfl) (by kernel_rfl) (by kernel_rfl) (fun _ _ _ h => h) (Or.inl ⟨by rfl, ?_⟩) (by assumption) ?_
              rotate_left 1
              · intro w hSw; (try dsimp only at hSw); go_simp; (try with_reducible rfl)
              try simp only [Act.put, List.setIfInBounds_toArray, List.set_cons_zero, List.set_cons_succ, List.getElem_toArray, List.getElem_cons_zero, List.getElem_cons_succ]
              refine wpAnyH_done (by kernel_rfl) ?_ _
              have hF5 := Lib.hid (HFP.out.then (hF.undrew.mono (fun k hk h => hk (Or.inl h))))
              have HSM5 := Lib.hid hSM5
              have HM5 := Lib.hid hM
              have HN2 := Lib.hid hN2
              have HM2 := Lib.hid hm2
              clear hF hSM5 hM hN2 hm2 HSM HFP HM HLV
              go_wp2_with fail
              go_roundw
              case rel =>
                refine ⟨j + 1, A2, by omega, by go_num, HN2.out, by omega, fun x => ?_, HM5.out, HSM5.out, hF5.out⟩
                rw [HM2.out x, HMEM.out x]
                constructor
                · rintro ⟨⟨h1, h2⟩, h3⟩
                  exact ⟨h1, by omega⟩
                · rintro ⟨h1, h2⟩
                  exact ⟨⟨h1, by omega⟩, by omega⟩
              case measure => simp [intOf]; omega
            | false =>
              have HLV := Lib.hid (HLVN.out hAj)
              clear HLVY HLVN
              refine wp_region_held_drew (S := fun V => Sm bm n A V) (by kernel_rfl) HSM.out (fun hHeld => ?_)
              refine wpAnyH_take (i := 0) (v := ?_) rfl (by kernel_rfl) (by kernel_rfl) (by kernel_rfl) (fun _ _ _ h => h) (Or.inl ⟨by rfl, ?_⟩) (by assumption) ?_
              rotate_left 1
              · intro w hSw; (try dsimp only at hSw); go_simp; (try with_reducible rfl)
              try simp only [Act.put, List.setIfInBounds_toArray, List.set_cons_zero, List.set_cons_succ, List.getElem_toArray, List.getElem_cons_zero, List.getElem_cons_succ]
              refine wpAnyH_take (i := 1) (v := ?_) rfl (by kernel_rfl) (by kernel_rfl) (by kernel_rfl) (fun _ _ _ h => h) (Or.inl ⟨by rfl, ?_⟩) (by assumption) ?_
              rotate_left 1
              · intro w hSw; (try dsimp only at hSw); go_simp; (try with_reducible rfl)
              try simp only [Act.put, List.setIfInBounds_toArray, List.set_cons_zero, List.set_cons_succ, List.getElem_toArray, List.getElem_cons_zero, List.getElem_cons_succ]
              refine wpAnyH_take (i := 4) (v := ?_) rfl (by kernel_rfl) (by kernel_rfl) (by kernel_rfl) (fun _ _ _ h => h) (Or.inl ⟨by rfl, ?_⟩) (by assumption) ?_
              rotate_left 1
              · intro w hSw; (try dsimp only at hSw); go_simp; (try with_reducible rfl)
              try simp only [Act.put, List.setIfInBounds_toArray, List.set_cons_zero, List.set_cons_succ, List.getElem_toArray, List.getElem_cons_zero, List.getElem_cons_succ]
              refine wpAnyH_take (i := 5) (v := ?_) rfl (by kernel_rfl) (by kernel_rfl) (by kernel_rfl) (fun _ _ _ h => h) (Or.inl ⟨by rfl, ?_⟩) (by assumption) ?_
              rotate_left 1
              · intro w hSw; (try dsimp only at hSw); go_simp; (try with_reducible rfl)
              try simp only [Act.put, List.setIfInBounds_toArray, List.set_cons_zero, List.set_cons_succ, List.getElem_toArray, List.getElem_cons_zero, List.getElem_cons_succ]
              refine wpAnyH_take (i := 6) (v := ?_) rfl (by kernel_rfl) (by kernel_rfl) (by kernel_rfl) (fun _ _ _ h => h) (Or.inl ⟨by rfl, ?_⟩) (by assumption) ?_
              rotate_left 1
              · intro V hSw; have hc := (show Sm bm n A V from hSw).look (j : Int) hjwf; rw [hAj] at hc; clear hSw; go_simp; (try with_reducible rfl)
              try simp only [Act.put, List.setIfInBounds_toArray, List.set_cons_zero, List.set_cons_succ, List.getElem_toArray, List.getElem_cons_zero, List.getElem_cons_succ]
              refine wpAnyH_ready (rs := [2]) (by kernel_rfl) (by simp) ?_
              refine AllReadyH.cons rfl (fun K hK => ?_) AllReadyH.nil
              go_simp
              refine (HLV.out).mono ?_
              rintro e w5 ⟨rfl, ⟨A2, hM, hN2, hL2, hm2⟩, hF⟩
              have hSM5 := HSM.out.fp hF.undrew (fun h => h (Or.inr rfl))
              refine hK.out _ _ hSM5 (fun hHeld2 => ?_)
              clear hK K
              try simp only [Act.put, List.setIfInBounds_toArray, List.set_cons_zero, List.set_cons_succ, List.getElem_toArray, List.getElem_cons_zero, List.getElem_cons_succ]
              refine wpAnyH_take (i := 3) (v := ?_) rfl (by kernel_rfl) (by kernel_rfl) (by kernel_rfl) (fun _ _ _ h => h) (Or.inl ⟨by rfl, ?_⟩) (by assumption) ?_
              rotate_left 1
              · intro w hSw; (try dsimp only at hSw); go_simp; (try with_reducible rfl)
              try simp only [Act.put, List.setIfInBounds_toArray, List.set_cons_zero, List.set_cons_succ, List.getElem_toArray, List.getElem_cons_zero, List.getElem_cons_succ]
              refine wpAnyH_take (i := 7) (v := ?_) rfl (by kernel_rfl) (by kernel_rfl) (by kernel_rfl) (fun _ _ _ h => h) (Or.inl ⟨by rfl, ?_⟩) (by assumption) ?_
              rotate_left 1
              · intro w hSw; (try dsimp only at hSw); go_simp; (try with_reducible rfl)
              try simp only [Act.put, List.setIfInBounds_toArray, List.set_cons_zero, List.set_cons_succ, List.getElem_toArray, List.getElem_cons_zero, List.getElem_cons_succ]
              refine wpAnyH_done (by kernel_rfl) ?_ _
              have hF5 := Lib.hid (HFP.out.then (hF.undrew.mono (fun k hk h => hk (Or.inl h))))
              have HSM5 := Lib.hid hSM5
              have HM5 := Lib.hid hM
              have HN2 := Lib.hid hN2
              have HM2 := Lib.hid hm2
              clear hF hSM5 hM hN2 hm2 HSM HFP HM HLV
              go_wp2_with fail
              go_roundw
              case rel =>
                refine ⟨j + 1, A2, by omega, by go_num, HN2.out, by omega, fun x => ?_, HM5.out, HSM5.out, hF5.out⟩
                rw [HM2.out x, HMEM.out x]
                constructor
                · rintro ⟨⟨h1, h2⟩, h3⟩
                  exact ⟨h1, by omega⟩
                · rintro ⟨h1, h2⟩
                  exact ⟨⟨h1, by omega⟩, by omega⟩
              case measure => simp [intOf]; omega
          · obtain rfl : j = 16 := by omega
            have hA0 : A' = [] := by
              cases A' with
              | nil => rfl
              | cons x l =>
                have h1 := (hmem x).1 (by simp)
                have h2 := (HIN.out x h1.1).2
                have h3 := h1.2
                omega
            subst hA0
            clear hnd' hmem hmw hsm hfp
            go_wp2_with (go_at_call 10; refine (all_m HM.out (by simp)).mono ?_; rintro e w9 ⟨ao9, c9, rfl, hM, hF⟩; have HF9 := Lib.hid (HFP.out.then (hF.mono (fun k hk h => hk (Or.inl h)))); clear hM hF)
            go_ret
            exact ⟨rfl, below_of HF9.out⟩
      · subst hke
        go_wp2_with fail
        go_loopw [9, 67] (fun _ i wr2 => ∃ (j : Nat) (A' : List Int), j ≤ 16 ∧ i = n64 j ∧ A'.Nodup ∧ A'.length ≤ 4 ∧ (∀ x, x ∈ A' ↔ x ∈ A ∧ (j : Int) ≤ x) ∧ Mw (fun k => k < w.heap.size ∨ k = bm) t A' wr2 ads m ∧ Sm bm n A wr2 ∧ Fp (fun j => ¬ j < w.heap.size) w wr2) (fun _ i _ => 16 - (intOf i).toNat)
        case atStart => exact ⟨0, A, Nat.zero_le _, rfl, HND.out, hA4, fun x => ⟨fun h => ⟨h, (HIN.out x h).1⟩, fun h => h.1⟩, HM.out, HSM.out, HFP.out⟩
        case round =>
          clear HM HSM HFP
          obtain ⟨j, A', hj, rfl, hnd', hA4', hmem, hmw, hsm, hfp⟩ := hrel
          have HM := Lib.hid hmw
          have HSM := Lib.hid hsm
          have HFP := Lib.hid hfp
          have HMEM := Lib.hid hmem
          by_cases hlj : j < 16
          · have hcc : A'.contains (j : Int) = A.contains (j : Int) := by
              rw [Bool.eq_iff_iff, List.contains_iff_mem, List.contains_iff_mem, hmem]
              exact ⟨fun h => h.1, fun h => ⟨h, Int.le_refl _⟩⟩
            have HLVY := leave_yes hmw.drew hA4' hnd' (j : Int) (by omega) (by omega)
            have HLVN := leave_no hmw.drew hA4' hnd' (j : Int) (by omega) (by omega)
            rw [hcc] at HLVY HLVN
            have hjwf : (Lit.int .i64 (j : Int)).wf = true := WalkArith.wf_i64 (by omega)
            have HLVY := Lib.hid HLVY
            have HLVN := Lib.hid HLVN
            clear hnd' hmem hmw hsm hfp hcc
            go_upto_region 22 with fail
            cases hAj : A.contains (j : Int) with
            | true =>
              have HLV := Lib.hid (HLVY.out hAj)
              clear HLVY HLVN
              refine wp_region_held_drew (S := fun V => Sm bm n A V) (by kernel_rfl) HSM.out (fun hHeld => ?_)
              refine wpAnyH_take (i := 0) (v := ?_) rfl (by kernel_rfl) (by kernel_rfl) (by kernel_rfl) (fun _ _ _ h => h) (Or.inl ⟨by rfl, ?_⟩) (by assumption) ?_
              rotate_left 1
              · intro w hSw; (try dsimp only at hSw); go_simp; (try with_reducible rfl)
              try simp only [Act.put, List.setIfInBounds_toArray, List.set_cons_zero, List.set_cons_succ, List.getElem_toArray, List.getElem_cons_zero, List.getElem_cons_succ]
              refine wpAnyH_take (i := 1) (v := ?_) rfl (by kernel_rfl) (by kernel_rfl) (by kernel_rfl) (fun _ _ _ h => h) (Or.inl ⟨by rfl, ?_⟩) (by assumption) ?_
              rotate_left 1
              · intro w hSw; (try dsimp only at hSw); go_simp; (try with_reducible rfl)
              try simp only [Act.put, List.setIfInBounds_toArray, List.set_cons_zero, List.set_cons_succ, List.getElem_toArray, List.getElem_cons_zero, List.getElem_cons_succ]
              refine wpAnyH_take (i := 4) (v := ?_) rfl (by kernel_rfl) (by kernel_rfl) (by kernel_rfl) (fun _ _ _ h => h) (Or.inl ⟨by rfl, ?_⟩) (by assumption) ?_
              rotate_left 1
              · intro w hSw; (try dsimp only at hSw); go_simp; (try with_reducible rfl)
              try simp only [Act.put, List.setIfInBounds_toArray, List.set_cons_zero, List.set_cons_succ, List.getElem_toArray, List.getElem_cons_zero, List.getElem_cons_succ]
              refine wpAnyH_take (i := 5) (v := ?_) rfl (by kernel_rfl) (by kernel_rfl) (by kernel_rfl) (fun _ _ _ h => h) (Or.inl ⟨by rfl, ?_⟩) (by assumption) ?_
              rotate_left 1
              · intro w hSw; (try dsimp only at hSw); go_simp; (try with_reducible rfl)
              try simp only [Act.put, List.setIfInBounds_toArray, List.set_cons_zero, List.set_cons_succ, List.getElem_toArray, List.getElem_cons_zero, List.getElem_cons_succ]
              refine wpAnyH_take (i := 6) (v := ?_) rfl (by kernel_rfl) (by kernel_rfl) (by kernel_rfl) (fun _ _ _ h => h) (Or.inl ⟨by rfl, ?_⟩) (by assumption) ?_
              rotate_left 1
              · intro V hSw; have hc := (show Sm bm n A V from hSw).look (j : Int) hjwf; rw [hAj] at hc; clear hSw; go_simp; (try with_reducible rfl)
              try simp only [Act.put, List.setIfInBounds_toArray, List.set_cons_zero, List.set_cons_succ, List.getElem_toArray, List.getElem_cons_zero, List.getElem_cons_succ]
              refine wpAnyH_ready (rs := [2]) (by kernel_rfl) (by simp) ?_
              refine AllReadyH.cons rfl (fun K hK => ?_) AllReadyH.nil
              go_simp
              refine (HLV.out).mono ?_
              rintro e w5 ⟨rfl, ⟨A2, hM, hN2, hL2, hm2⟩, hF⟩
              have hSM5 := HSM.out.fp hF.undrew (fun h => h (Or.inr rfl))
              refine hK.out _ _ hSM5 (fun hHeld2 => ?_)
              clear hK K
              try simp only [Act.put, List.setIfInBounds_toArray, List.set_cons_zero, List.set_cons_succ, List.getElem_toArray, List.getElem_cons_zero, List.getElem_cons_succ]
              refine wpAnyH_take (i := 3) (v := ?_) rfl (by kernel_rfl) (by kernel_rfl) (by kernel_rfl) (fun _ _ _ h => h) (Or.inl ⟨by rfl, ?_⟩) (by assumption) ?_
              rotate_left 1
              · intro w hSw; (try dsimp only at hSw); go_simp; (try with_reducible rfl)
              try simp only [Act.put, List.setIfInBounds_toArray, List.set_cons_zero, List.set_cons_succ, List.getElem_toArray, List.getElem_cons_zero, List.getElem_cons_succ]
              refine wpAnyH_take (i := 7) (v := ?_) rfl (by kernel_rfl) (by kernel_rfl) (by kernel_rfl) (fun _ _ _ h => h) (Or.inl ⟨by rfl, ?_⟩) (by assumption) ?_
              rotate_left 1
              · intro w hSw; (try dsimp only at hSw); go_simp; (try with_reducible rfl)
              try simp only [Act.put, List.setIfInBounds_toArray, List.set_cons_zero, List.set_cons_succ, List.getElem_toArray, List.getElem_cons_zero, List.getElem_cons_succ]
              refine wpAnyH_done (by kernel_rfl) ?_ _
              have hF5 := Lib.hid (HFP.out.then (hF.undrew.mono (fun k hk h => hk (Or.inl h))))
              have HSM5 := Lib.hid hSM5
              have HM5 := Lib.hid hM
              have HN2 := Lib.hid hN2
              have HM2 := Lib.hid hm2
              clear hF hSM5 hM hN2 hm2 HSM HFP HM HLV
              go_wp2_with fail
              go_roundw
              case rel =>
                refine ⟨j + 1, A2, by omega, by go_num, HN2.out, by omega, fun x => ?_, HM5.out, HSM5.out, hF5.out⟩
                rw [HM2.out x, HMEM.out x]
                constructor
                · rintro ⟨⟨h1, h2⟩, h3⟩
                  exact ⟨h1, by omega⟩
                · rintro ⟨h1, h2⟩
                  exact ⟨⟨h1, by omega⟩, by omega⟩
              case measure => simp [intOf]; omega
            | false =>
              have HLV := Lib.hid (HLVN.out hAj)
              clear HLVY HLVN
              refine wp_region_held_drew (S := fun V => Sm bm n A V) (by kernel_rfl) HSM.out (fun hHeld => ?_)
              refine wpAnyH_take (i := 0) (v := ?_) rfl (by kernel_rfl) (by kernel_rfl) (by kernel_rfl) (fun _ _ _ h => h) (Or.inl ⟨by rfl, ?_⟩) (by assumption) ?_
              rotate_left 1
              · intro w hSw; (try dsimp only at hSw); go_simp; (try with_reducible rfl)
              try simp only [Act.put, List.setIfInBounds_toArray, List.set_cons_zero, List.set_cons_succ, List.getElem_toArray, List.getElem_cons_zero, List.getElem_cons_succ]
              refine wpAnyH_take (i := 1) (v := ?_) rfl (by kernel_rfl) (by kernel_rfl) (by kernel_rfl) (fun _ _ _ h => h) (Or.inl ⟨by rfl, ?_⟩) (by assumption) ?_
              rotate_left 1
              · intro w hSw; (try dsimp only at hSw); go_simp; (try with_reducible rfl)
              try simp only [Act.put, List.setIfInBounds_toArray, List.set_cons_zero, List.set_cons_succ, List.getElem_toArray, List.getElem_cons_zero, List.getElem_cons_succ]
              refine wpAnyH_take (i := 4) (v := ?_) rfl (by kernel_rfl) (by kernel_rfl) (by kernel_rfl) (fun _ _ _ h => h) (Or.inl ⟨by rfl, ?_⟩) (by assumption) ?_
              rotate_left 1
              · intro w hSw; (try dsimp only at hSw); go_simp; (try with_reducible rfl)
              try simp only [Act.put, List.setIfInBounds_toArray, List.set_cons_zero, List.set_cons_succ, List.getElem_toArray, List.getElem_cons_zero, List.getElem_cons_succ]
              refine wpAnyH_take (i := 5) (v := ?_) rfl (by kernel_rfl) (by kernel_rfl) (by kernel_rfl) (fun _ _ _ h => h) (Or.inl ⟨by rfl, ?_⟩) (by assumption) ?_
              rotate_left 1
              · intro w hSw; (try dsimp only at hSw); go_simp; (try with_reducible rfl)
              try simp only [Act.put, List.setIfInBounds_toArray, List.set_cons_zero, List.set_cons_succ, List.getElem_toArray, List.getElem_cons_zero, List.getElem_cons_succ]
              refine wpAnyH_take (i := 6) (v := ?_) rfl (by kernel_rfl) (by kernel_rfl) (by kernel_rfl) (fun _ _ _ h => h) (Or.inl ⟨by rfl, ?_⟩) (by assumption) ?_
              rotate_left 1
              · intro V hSw; have hc := (show Sm bm n A V from hSw).look (j : Int) hjwf; rw [hAj] at hc; clear hSw; go_simp; (try with_reducible rfl)
              try simp only [Act.put, List.setIfInBounds_toArray, List.set_cons_zero, List.set_cons_succ, List.getElem_toArray, List.getElem_cons_zero, List.getElem_cons_succ]
              refine wpAnyH_ready (rs := [2]) (by kernel_rfl) (by simp) ?_
              refine AllReadyH.cons rfl (fun K hK => ?_) AllReadyH.nil
              go_simp
              refine (HLV.out).mono ?_
              rintro e w5 ⟨rfl, ⟨A2, hM, hN2, hL2, hm2⟩, hF⟩
              have hSM5 := HSM.out.fp hF.undrew (fun h => h (Or.inr rfl))
              refine hK.out _ _ hSM5 (fun hHeld2 => ?_)
              clear hK K
              try simp only [Act.put, List.setIfInBounds_toArray, List.set_cons_zero, List.set_cons_succ, List.getElem_toArray, List.getElem_cons_zero, List.getElem_cons_succ]
              refine wpAnyH_take (i := 3) (v := ?_) rfl (by kernel_rfl) (by kernel_rfl) (by kernel_rfl) (fun _ _ _ h => h) (Or.inl ⟨by rfl, ?_⟩) (by assumption) ?_
              rotate_left 1
              · intro w hSw; (try dsimp only at hSw); go_simp; (try with_reducible rfl)
              try simp only [Act.put, List.setIfInBounds_toArray, List.set_cons_zero, List.set_cons_succ, List.getElem_toArray, List.getElem_cons_zero, List.getElem_cons_succ]
              refine wpAnyH_take (i := 7) (v := ?_) rfl (by kernel_rfl) (by kernel_rfl) (by kernel_rfl) (fun _ _ _ h => h) (Or.inl ⟨by rfl, ?_⟩) (by assumption) ?_
              rotate_left 1
              · intro w hSw; (try dsimp only at hSw); go_simp; (try with_reducible rfl)
              try simp only [Act.put, List.setIfInBounds_toArray, List.set_cons_zero, List.set_cons_succ, List.getElem_toArray, List.getElem_cons_zero, List.getElem_cons_succ]
              refine wpAnyH_done (by kernel_rfl) ?_ _
              have hF5 := Lib.hid (HFP.out.then (hF.undrew.mono (fun k hk h => hk (Or.inl h))))
              have HSM5 := Lib.hid hSM5
              have HM5 := Lib.hid hM
              have HN2 := Lib.hid hN2
              have HM2 := Lib.hid hm2
              clear hF hSM5 hM hN2 hm2 HSM HFP HM HLV
              go_wp2_with fail
              go_roundw
              case rel =>
                refine ⟨j + 1, A2, by omega, by go_num, HN2.out, by omega, fun x => ?_, HM5.out, HSM5.out, hF5.out⟩
                rw [HM2.out x, HMEM.out x]
                constructor
                · rintro ⟨⟨h1, h2⟩, h3⟩
                  exact ⟨h1, by omega⟩
                · rintro ⟨h1, h2⟩
                  exact ⟨⟨h1, by omega⟩, by omega⟩
              case measure => simp [intOf]; omega
          · obtain rfl : j = 16 := by omega
            have hA0 : A' = [] := by
              cases A' with
              | nil => rfl
              | cons x l =>
                have h1 := (hmem x).1 (by simp)
                have h2 := (HIN.out x h1.1).2
                have h3 := h1.2
                omega
            subst hA0
            clear hnd' hmem hmw hsm hfp
            go_wp2_with (go_at_call 10; refine (all_m HM.out (by simp)).mono ?_; rintro e w9 ⟨ao9, c9, rfl, hM, hF⟩; have HF9 := Lib.hid (HFP.out.then (hF.mono (fun k hk h => hk (Or.inl h)))); clear hM hF)
            go_ret
            exact ⟨rfl, below_of HF9.out⟩

end Go.Proofs.YtgimmdnmndbcpaaDoor
