/- The reference of layer 16: Pick. -/
import Derived.Test.YtgimmdnmndbcpaaGreatDoorZp
import Derived.Test.YtgimmdnmndbcpaaGreatDoorZ6
import Derived.Test.YtgimmdnmndbcpaaGreatDoorP2
import Derived.Test.YtgimmdnmndbcpaaGreatDoorShR2
import Derived.Deep.RegionHeld3
import Derived.Deep.RegionLaw
import Derived.Deep.DeepCutAuto
set_option linter.unusedVariables false
set_option linter.unusedSimpArgs false
namespace Go.Proofs.YtgimmdnmndbcpaaGreatDoor
open Go.RowKit Jw Lab Go.Shelf Go.Deep
attribute [local go_sem] run_store_float

theorem info3z : (Tryz.prog.info? 3).map (fun i => (i.zero, i.size, i.bytes)) = some (some (n64 0), 1, 8) := by kernel_rfl
set_option maxRecDepth 20000 in
/-- One int more; one share more. -/
theorem wp_new_int {o : Oper} {a : Act} {K : Act → World → Prop} {Q : Exit → Act → World → Prop} {w : World} {B0 n : Nat} {v : Value} {xs : List Value} (x : Int) (s y : Operand)
    (ho : o.op = .call { callee := .builtin .append, args := #[s, y], argTypes := #[32, 32] }) (hs : a.eval s = v) (hn : n < 100000) (hown : w.ownsRow B0 3 1 v n xs) (hB0 : B0 ≤ w.heap.size) (B : Nat) (hx : a.eval y = .slice (some ⟨B, 0, none⟩) 1 1) (hb : Blk w B #[n64 x] 3)
    (h : ∀ g cap w', w'.ownsRow B0 3 1 (.slice (some ⟨g, 0, none⟩) (n + 1) cap) (n + 1) (xs ++ [n64 x]) → w.grownBy w' v.ownBlock → (v.ownBlock = some g ∨ g = w.heap.size) → g < w'.heap.size → K (a.put o.dst (.slice (some ⟨g, 0, none⟩) (n + 1) cap)) w') : Oper.wp Tryz.prog o a w K Q := by
  obtain ⟨i0, hi, hz0, hz1, hz2⟩ := info_parts' info3z
  exact wp_append_lies _ s y 32 ho B0 3 i0 _ 1 8 Tryz.underlying32 hi hz0 hz1 hz2 rfl (by decide) v n xs hs hown ⟨B, 0, none⟩ 1 1 [n64 x] hx rfl (fun j u hj => by rw [addr_add, Nat.zero_add]; exact hb.cell j u (by simpa using hj)) (fun u hu => by simp at hu; subst hu; rfl) (by decide) (by unfold maxLen; omega) (by omega) hB0 _ rfl h
set_option maxRecDepth 20000 in
theorem wp_new_share {o : Oper} {a : Act} {K : Act → World → Prop} {Q : Exit → Act → World → Prop} {w : World} {B0 n : Nat} {v : Value} {xs : List Value} (x y : Nat) (s z : Operand)
    (ho : o.op = .call { callee := .builtin .append, args := #[s, z], argTypes := #[81, 81] }) (hs : a.eval s = v) (hn : n < 100000) (hown : w.ownsRow B0 83 2 v n xs) (hB0 : B0 ≤ w.heap.size) (B : Nat) (hx : a.eval z = .slice (some ⟨B, 0, none⟩) 1 1) (hb : Blk w B #[fl x, fl y] 83)
    (h : ∀ g cap w', w'.ownsRow B0 83 2 (.slice (some ⟨g, 0, none⟩) (n + 1) cap) (n + 1) (xs ++ [fl x, fl y]) → w.grownBy w' v.ownBlock → (v.ownBlock = some g ∨ g = w.heap.size) → g < w'.heap.size → K (a.put o.dst (.slice (some ⟨g, 0, none⟩) (n + 1) cap)) w') : Oper.wp Tryz.prog o a w K Q := by
  obtain ⟨i0, hi, hz0, hz1, hz2⟩ := info_parts' info72
  exact wp_append_lies _ s z 81 ho B0 83 i0 _ 2 16 Tryz.underlying81 hi hz0 hz1 hz2 rfl (by decide) v n xs hs hown ⟨B, 0, none⟩ 1 1 [fl x, fl y] hx rfl (fun j u hj => by rw [addr_add, Nat.zero_add]; exact hb.cell j u (by simpa using hj)) (fun u hu => by simp at hu; rcases hu with rfl | rfl <;> rfl) (by decide) (by unfold maxLen; omega) (by omega) hB0 _ rfl h
theorem fp_alloc {S : Nat → Prop} {w w' : World} (h : Fp S w w') (o : Go.Obj) : Fp S w (w'.alloc o) := h.then (Fp.of_below ((Below.refl _ _).alloc (Nat.le_refl _) _))
theorem fp_drew {S : Nat → Prop} {w w' : World} (h : Fp S w w') : Fp S w w'.drew := ⟨h.os, h.tape, h.output, h.size, h.other⟩
section
variable {wa W w3 W4 w5 : World} {B0 rb n : Nat} {av sv : Value} {xs ys : List Value} {cs : Array Value}
/-- What may be written while rows grow. -/
abbrev Gr (B0 rb : Nat) (k : Nat) : Prop := B0 ≤ k ∧ k ≠ rb
/-- Behind the append to the places. -/
theorem pk_mid (hoa : wa.ownsRow B0 3 1 av n xs) (hos : wa.ownsRow B0 83 2 sv n ys) (hrb : Blk wa rb cs 57) (hW : Below wa.heap.size wa W) (hg : W.grownBy w3 av.ownBlock) :
    Fp (Gr B0 rb) wa w3 ∧ w3.ownsRow B0 83 2 sv n ys ∧ wa.heap.size ≤ w3.heap.size ∧ ∀ b cs t, wa.heap.size ≤ b → Blk W b cs t → Blk w3 b cs t := by
  have hf := fp_grow hW hg
  refine ⟨hf.mono fun k hk => ⟨(own_lo hoa k hk).1, fun e => ?_⟩, own_same hos fun k hk => hf.other k (own_lo hos k hk).2 fun e => ?_, hf.size, fun b cs t hb hbl => hbl.same (hg.block b hbl.lt fun e => ?_)⟩
  · subst e
    obtain ⟨ds, hb⟩ := own_ty hoa hk
    exact blk_ty hb hrb (by decide)
  · obtain ⟨ds, hb⟩ := own_ty hoa e
    obtain ⟨es, hb'⟩ := own_ty hos hk
    exact blk_ty hb hb' (by decide)
  · have := (own_lo hoa b e.symm).2
    omega
/-- Behind the append to the shares. -/
theorem pk_fin {g2 c2 m : Nat} {xs' : List Value} (hoa : wa.ownsRow B0 3 1 av n xs) (hos : wa.ownsRow B0 83 2 sv n ys) (hrb : Blk wa rb cs 57) (hW : Below wa.heap.size wa W) (hg : W.grownBy w3 av.ownBlock) (ho2 : w3.ownsRow B0 3 1 (.slice (some ⟨g2, 0, none⟩) m c2) m xs') (hat2 : av.ownBlock = some g2 ∨ g2 = W.heap.size) (hlt2 : g2 < w3.heap.size)
    (hW4 : Below w3.heap.size w3 W4) (hg4 : W4.grownBy w5 sv.ownBlock) : Fp (Gr B0 rb) wa w5 ∧ w5.ownsRow B0 3 1 (.slice (some ⟨g2, 0, none⟩) m c2) m xs' ∧ ∀ w : World, B0 = w.heap.size → Below B0 w wa → Below B0 w w5 := by
  have hf3 := (pk_mid hoa hos hrb hW hg).1
  have hf5 := fp_grow hW4 hg4
  have hs5 : ∀ k, sv.ownBlock = some k → Gr B0 rb k := fun k hk => ⟨(own_lo hos k hk).1, fun e => by
    subst e
    obtain ⟨ds, hb⟩ := own_ty hos hk
    exact blk_ty hb hrb (by decide)⟩
  have hf : Fp (Gr B0 rb) wa w5 := hf3.then (hf5.mono hs5)
  refine ⟨hf, own_same ho2 fun k hk => ?_, fun w e hb => hb.trans (hf.below (fun k hk => hk.1) (by have := hb.size; omega))⟩
  · simp only [Value.ownBlock, Option.some.injEq] at hk
    subst hk
    refine hf5.other g2 hlt2 fun e => ?_
    rcases hat2 with h' | h'
    · obtain ⟨ds, hb⟩ := own_ty hoa h'
      obtain ⟨es, hb'⟩ := own_ty hos e
      exact blk_ty hb hb' (by decide)
    · have h1 := (own_lo hos g2 e).2
      have h2 := hW.size
      omega
end
theorem ix_no {q : Rt → Bool} {L : List Rt} {k : Nat} {r : Rt} (h : L[k]? = some r) (hq : q r = false) : ix q (L.take (k + 1)) 0 = ix q (L.take k) 0 ∧ (L.take (k + 1)).filter q = (L.take k).filter q := by
  have e : L.take (k + 1) = L.take k ++ [r] := by rw [List.take_add_one, h]; rfl
  rw [e, ix_snoc, List.filter_append, hq]
  simp [hq]
theorem ix_yes {q : Rt → Bool} {L : List Rt} {k : Nat} {r : Rt} (h : L[k]? = some r) (hq : q r = true) : ix q (L.take (k + 1)) 0 = ix q (L.take k) 0 ++ [k] ∧ (L.take (k + 1)).filter q = (L.take k).filter q ++ [r] := by
  have hk := (List.getElem?_eq_some_iff.1 h).1
  have e : L.take (k + 1) = L.take k ++ [r] := by rw [List.take_add_one, h]; rfl
  rw [e, ix_snoc, List.filter_append, hq]
  simp [hq]
  omega
theorem pk_no {f : Rt → Bool} {L : List Rt} {k : Nat} {r : Rt} (h : L[k]? = some r) (hq : f r = false) : ((L.take (k + 1)).filter f).length = ((L.take k).filter f).length := by rw [(ix_no h hq).2]
theorem pk_yes {f : Rt → Bool} {L : List Rt} {k : Nat} {r : Rt} (h : L[k]? = some r) (hq : f r = true) : ((L.take (k + 1)).filter f).length = ((L.take k).filter f).length + 1 := by rw [(ix_yes h hq).2]; simp
/-- A turn is written. -/
theorem Mr.turn {mb n gt ct i t : Nat} {lv : Value} {L : List Rt} {w : World} (h : Mr mb lv (.slice (some ⟨gt, 0, none⟩) n ct) L w) (hn : L.length = n) : Mr mb lv (.slice (some ⟨gt, 0, none⟩) n ct) (L.set i (tnR t (L.getD i default))) (w.setCell ⟨gt, i, none⟩ (fl t)) := by
  subst hn
  obtain ⟨a1, a2, a3⟩ := h.apart
  have hl : (L.set i (tnR t (L.getD i default))).length = L.length := List.length_set
  refine ⟨h.blk.set_other _ _ (fun e => a2 (by rw [e]; rfl)), ?_, ?_⟩
  · rw [hl, tL_set_tn]
    exact own_same h.ol fun b hb => Below.heap_setCell _ _ _ _ (fun e => a3 b hb (by rw [e]; rfl))
  · rw [hl, tnL_set_tn]
    exact own_setN h.ot _ _
set_option maxRecDepth 20000 in
set_option maxHeartbeats 4000000 in
theorem rpick_any {mb : Nat} {lv tv : Value} {L : List Rt} {w : World} (h : Mr mb lv tv L w) (hL : L.length ≤ 800) (p : List UInt8) (hl : p.length < 4294967281) (v : Value) (zs : List Int) (hv : Ri w v zs) (hz : zs.length ≤ 9223372036854775807) :
    Calls Tryz.prog 23 #[pp mb, .string (bs p), v] w fun e w' => e = .returned (.tuple #[n64 (pickL p zs L).1.1, n64 (nE (pickL p zs L).1.2)]) ∧ Nr mb lv tv w w' (pickL p zs L).2 := by
  have HP := Lib.hid (rpattern_any p hl w)
  have HM := Lib.hid h
  have HV := Lib.hid hv
  cases hp : patOk p with
  | false =>
    have e : pickL p zs L = ((0, some 9), L) := by rw [pickL, hp]; rfl
    rw [e]
    rw [hp] at HP
    clear e hp h hv
    go_enter Tryz.func23, Tryz.ntmps23
    go_wp2_with (go_at_call 53; refine HP.out.mono ?_; rintro e w1 ⟨rfl, hB⟩; have HB := Lib.hid hB; clear hB)
    go_ret2
    exact ⟨rfl, Nr.of_below HM.out HB.out⟩
  | true =>
    rw [hp] at HP
    have HPO := Lib.hid hp
    obtain ⟨ao, cap, rfl⟩ := own_form h.ol
    obtain ⟨aot, capt, rfl⟩ := own_form h.ot
    obtain ⟨aov, capv, rfl, _⟩ := hv
    clear hp h
    go_enter Tryz.func23, Tryz.ntmps23
    go_wp2_with (go_at_call 53; refine HP.out.mono ?_; rintro e w1 ⟨rfl, hB⟩; have HB := Lib.hid hB; clear hB; have cm := (HM.out.below HB.out).blk.cell 0 _ rfl; have cmA := fun o => (World.cell?_alloc_some w1 ⟨mb, 0, none⟩ o (by rw [cm]; rfl)).trans cm; have cmB := fun o o2 => (World.cell?_alloc_some (w1.alloc o) ⟨mb, 0, none⟩ o2 (by rw [cmA]; rfl)).trans (cmA o))
    have hoA : ((w1.alloc (.cells #[] 3)).alloc (.cells #[] 83)).ownsRow w.heap.size 3 1 (.slice (some ⟨w1.heap.size, 0, none⟩) 0 0) 0 [] := own_base (World.ownsRow.alloc (World.ownsRow_made w1 #[] 0 (Nat.le_refl _) (Nat.zero_le _) (by simp)) _) HB.out.size
    have hoS : ((w1.alloc (.cells #[] 3)).alloc (.cells #[] 83)).ownsRow w.heap.size 83 2 (.slice (some ⟨w1.heap.size + 1, 0, none⟩) 0 0) 0 [] := by
      have h := World.ownsRow_made (w1.alloc (.cells #[] 3)) (e := 83) (size := 2) (base := (w1.alloc (.cells #[] 3)).heap.size) #[] 0 (Nat.le_refl _) (Nat.zero_le _) (by simp)
      rw [show (w1.alloc (.cells #[] 3)).heap.size = w1.heap.size + 1 by simp] at h
      exact own_base h (by have := HB.out.size; omega)
    have hb2 : Below w.heap.size w ((w1.alloc (.cells #[] 3)).alloc (.cells #[] 83)) := (HB.out.alloc HB.out.size _).alloc (by have := HB.out.size; simp; omega) _
    have HOA0 := Lib.hid hoA
    have HOS0 := Lib.hid hoS
    have HB20 := Lib.hid hb2
    clear hoA hoS hb2 cmA cmB cm
    go_loopw [8, 9, 10, 11, 12, 27] (fun sv at_ sh _ _ i wr => ∃ k : Nat, k ≤ L.length ∧ i = n64 k ∧ sv = n64 ((L.take k).filter (pickR p)).length ∧ wr.ownsRow w.heap.size 3 1 at_ (ix (freeR p zs) (L.take k) 0).length ((ix (freeR p zs) (L.take k) 0).map fun (i : Nat) => n64 i) ∧ wr.ownsRow w.heap.size 83 2 sh (ix (freeR p zs) (L.take k) 0).length (shs (shF ((L.take k).filter (freeR p zs)))) ∧ Below w.heap.size w wr) (fun _ _ _ _ _ i _ => L.length - (intOf i).toNat)
    case atStart => exact ⟨0, Nat.zero_le _, rfl, rfl, HOA0.out, HOS0.out, HB20.out⟩
    case round =>
      clear HOA0 HOS0 HB20 HP HB
      obtain ⟨k, hk, rfl, rfl, hoa, hos, hb⟩ := hrel
      by_cases hlk : k < L.length
      · obtain ⟨r, hr⟩ : ∃ r, L[k]? = some r := ⟨_, List.getElem?_eq_getElem hlk⟩
        obtain ⟨g, cg, hvl, hgl, c0, c1, c2, c3, c4, _⟩ := (HM.out.below hb).cells hr
        injection hvl with hv1 _ hv3
        subst hv1 hv3
        have hcnt : ((L.take k).filter (pickR p)).length ≤ k := Nat.le_trans (List.length_filter_le _ _) (by simp; omega)
        have hbe := bs_eql r.nm p
        obtain ⟨wa, hwa⟩ : ∃ wa, wa = wr.alloc (.cells #[.string (bs r.nm), n64 r.ag, fl r.wt, .bool r.dr, n64 r.un] 57) := ⟨_, rfl⟩
        have HOA := Lib.hid (show wa.ownsRow w.heap.size 3 1 _ _ _ by rw [hwa]; exact hoa.alloc _)
        have HOS := Lib.hid (show wa.ownsRow w.heap.size 83 2 _ _ _ by rw [hwa]; exact hos.alloc _)
        have HBA := Lib.hid (show Below w.heap.size w wa by rw [hwa]; exact hb.alloc hb.size _)
        have HWA := Lib.hid hwa
        have HR := Lib.hid hr
        have hqp : pickR p r = false → freeR p zs r = false := fun h => by rw [freeR, h]; rfl
        clear hoa hos hr
        cases h1 : r.nm == p with
        | false =>
          have hpk : pickR p r = false := by rw [pickR, h1]; rfl
          have HPK := Lib.hid hpk
          have HQ := Lib.hid (hqp hpk)
          rw [h1] at hbe
          clear hpk hqp h1 hb hwa
          go_wp2_with fail
          rw [← HWA.out]
          go_roundw
          case rel =>
            refine ⟨k + 1, by omega, by go_num, by rw [pk_no HR.out HPK.out], ?_, ?_, HBA.out⟩
            · rw [(ix_no HR.out HQ.out).1]; exact HOA.out
            · rw [(ix_no HR.out HQ.out).1, (ix_no HR.out HQ.out).2]; exact HOS.out
          case measure => simp [intOf]; omega
        | true =>
          rw [h1] at hbe
          cases h2 : r.un == 0 with
          | false =>
            have hpk : pickR p r = false := by rw [pickR, h1, h2]; rfl
            have HPK := Lib.hid hpk
            have HQ := Lib.hid (hqp hpk)
            have h2' : (r.un != 0) = true := by rw [bne, h2]; rfl
            clear hpk hqp h1 hb hwa
            go_wp2_with fail
            rw [← HWA.out]
            go_roundw
            case rel =>
              refine ⟨k + 1, by omega, by go_num, by rw [pk_no HR.out HPK.out], ?_, ?_, HBA.out⟩
              · rw [(ix_no HR.out HQ.out).1]; exact HOA.out
              · rw [(ix_no HR.out HQ.out).1, (ix_no HR.out HQ.out).2]; exact HOS.out
            case measure => simp [intOf]; omega
          | true =>
            have h2' : (r.un != 0) = false := by rw [bne, h2]; rfl
            cases h3 : r.dr with
            | true =>
              have hpk : pickR p r = false := by rw [pickR, h1, h2, h3]; rfl
              have HPK := Lib.hid hpk
              have HQ := Lib.hid (hqp hpk)
              have HWA := Lib.hid (show wa = wr.alloc (.cells #[.string (bs r.nm), n64 r.ag, fl r.wt, .bool true, n64 r.un] 57) by rw [hwa, h3])
              rw [h3] at c3
              clear hpk hqp h1 h3 hb hwa
              go_wp2_with fail
              rw [← HWA.out]
              go_roundw
              case rel =>
                refine ⟨k + 1, by omega, by go_num, by rw [pk_no HR.out HPK.out], ?_, ?_, HBA.out⟩
                · rw [(ix_no HR.out HQ.out).1]; exact HOA.out
                · rw [(ix_no HR.out HQ.out).1, (ix_no HR.out HQ.out).2]; exact HOS.out
              case measure => simp [intOf]; omega
            | false =>
              have hpk : pickR p r = true := by rw [pickR, h1, h2, h3]; rfl
              have HPK := Lib.hid hpk
              have HWA := Lib.hid (show wa = wr.alloc (.cells #[.string (bs r.nm), n64 r.ag, fl r.wt, .bool false, n64 r.un] 57) by rw [hwa, h3])
              have hrb : Blk wa wr.heap.size #[.string (bs r.nm), n64 r.ag, fl r.wt, .bool false, n64 r.un] 57 := by rw [HWA.out]; exact blk_new wr _ 57
              rw [h3] at c3
              have HIN := Lib.hid (in_any (HV.out.below HBA.out) hz r.ag)
              have HRB := Lib.hid hrb
              have hpn := pk_yes HR.out hpk
              have HPN := Lib.hid hpn
              generalize ((L.take k).filter (pickR p)).length = cnt at hcnt hpn HPN ⊢
              clear hqp h1 h3 hb hwa hpk hrb hpn
              cases h4 : zs.contains r.ag with
              | true =>
                have HQ := Lib.hid (show freeR p zs r = false by rw [freeR, busyR, h4, HPK.out]; rfl)
                rw [h4] at HIN
                clear h4
                go_wp2_with (go_at_call 54; rw [← HWA.out]; refine HIN.out.mono ?_; rintro e w6 ⟨rfl, hw6⟩; subst hw6)
                go_roundw
                case rel =>
                  refine ⟨k + 1, by omega, by go_num, by rw [HPN.out]; go_num, ?_, ?_, HBA.out⟩
                  · rw [(ix_no HR.out HQ.out).1]; exact HOA.out
                  · rw [(ix_no HR.out HQ.out).1, (ix_no HR.out HQ.out).2]; exact HOS.out
                case measure => simp [intOf]; omega
              | false =>
                have HQ := Lib.hid (show freeR p zs r = true by rw [freeR, busyR, h4, HPK.out]; rfl)
                rw [h4] at HIN
                clear h4
                go_upto_region 12 with (go_at_call 54; rw [← HWA.out]; refine HIN.out.mono ?_; rintro e w6 ⟨rfl, hw6⟩; subst hw6)
                obtain ⟨gt, ct, hvt, _, hgt, htc⟩ := own_cellN HM.out.ot (by omega)
                injection hvt with hv1 _ hv3
                subst hv1 hv3
                have hml : mb < w.heap.size := HM.out.blk.lt
                have hbs := HBA.out.size
                have hrl := HRB.out.lt
                have fW : wa.cell? ⟨wr.heap.size, 2, none⟩ = some (fl r.wt) := HRB.out.cell 2 _ rfl
                have fT : wa.cell? ⟨mb, 1, none⟩ = some (.slice (some ⟨gt, 0, none⟩) L.length capt) := (HM.out.below HBA.out).blk.cell 1 _ rfl
                have fU : wa.cell? ⟨gt, k, none⟩ = some (fl r.tn) := ((HBA.out.cell (p := ⟨gt, k, none⟩) hgt).trans (htc k (by omega))).trans (tnL_at HR.out)
                have hn : (ix (freeR p zs) (L.take k) 0).length < 100000 := by
                  rw [ix_len]
                  have h1 := List.length_filter_le (freeR p zs) (L.take k)
                  have h2 : (L.take k).length = k := by simp; omega
                  omega
                have HFW := Lib.hid fW
                have HFT := Lib.hid fT
                have HFU := Lib.hid fU
                have HXA := Lib.hid (fun o1 => (((Below.refl wa.heap.size wa).alloc (Nat.le_refl _) o1).drew : Below wa.heap.size wa (wa.alloc o1).drew))
                have HXB := Lib.hid (fun o1 o2 => ((((Below.refl wa.heap.size wa).alloc (Nat.le_refl _) o1).alloc (by simp) o2).drew : Below wa.heap.size wa ((wa.alloc o1).alloc o2).drew))
                clear fW fT fU htc hbe c0 c1 c2 c3 c4
                refine wp_region_held_drew (S := fun V => Fp (Gr w.heap.size wr.heap.size) wa V) (by kernel_rfl) (fp_drew (Fp.refl _ _)) (fun hHeld => ?_)
                refine wpAnyH_take (i := 0) (v := ?_) rfl (by kernel_rfl) (by kernel_rfl) (by kernel_rfl) (fun _ _ _ h => h) (Or.inl ⟨by rfl, ?_⟩) (by assumption) ?_
                rotate_left 1
                · intro w hSw; (try dsimp only at hSw); go_simp; (try with_reducible rfl)
                try simp only [Act.put, List.setIfInBounds_toArray, List.set_cons_zero, List.set_cons_succ, List.getElem_toArray, List.getElem_cons_zero, List.getElem_cons_succ]
                refine wpAnyH_take (i := 1) (v := ?_) rfl (by kernel_rfl) (by kernel_rfl) (by kernel_rfl) (fun _ _ _ h => h) (Or.inl ⟨by rfl, ?_⟩) (by assumption) ?_
                rotate_left 1
                · intro w hSw; (try dsimp only at hSw); go_simp; (try with_reducible rfl)
                try simp only [Act.put, List.setIfInBounds_toArray, List.set_cons_zero, List.set_cons_succ, List.getElem_toArray, List.getElem_cons_zero, List.getElem_cons_succ]
                refine wpAnyH_take (i := 4) (v := ?_) rfl (by kernel_rfl) (by kernel_rfl) (by kernel_rfl) (fun _ _ _ h => h) (Or.inl ⟨by rfl, ?_⟩) (by assumption) ?_
                rotate_left 1
                · intro w hSw; (try dsimp only at hSw); go_simp; (try with_reducible rfl)
                try simp only [Act.put, List.setIfInBounds_toArray, List.set_cons_zero, List.set_cons_succ, List.getElem_toArray, List.getElem_cons_zero, List.getElem_cons_succ]
                refine wpAnyH_take (i := 5) (v := ?_) rfl (by kernel_rfl) (by kernel_rfl) (by kernel_rfl) (fun _ _ _ h => h) (Or.inl ⟨by rfl, ?_⟩) (by assumption) ?_
                rotate_left 1
                · intro w hSw; (try dsimp only at hSw); go_simp; (try with_reducible rfl)
                try simp only [Act.put, List.setIfInBounds_toArray, List.set_cons_zero, List.set_cons_succ, List.getElem_toArray, List.getElem_cons_zero, List.getElem_cons_succ]
                refine wpAnyH_take (i := 6) (v := ?_) rfl (by kernel_rfl) (by kernel_rfl) (by kernel_rfl) (fun _ _ _ h => h) (Or.inl ⟨by rfl, ?_⟩) (by assumption) ?_
                rotate_left 1
                · intro V hSw; have c := ((show Fp (Gr w.heap.size wr.heap.size) wa V from hSw).cell (p := ⟨wr.heap.size, 2, none⟩) (show wr.heap.size < wa.heap.size from hrl) (fun h => h.2 rfl)).trans HFW.out; clear hSw; go_simp; (try with_reducible rfl)
                try simp only [Act.put, List.setIfInBounds_toArray, List.set_cons_zero, List.set_cons_succ, List.getElem_toArray, List.getElem_cons_zero, List.getElem_cons_succ]
                refine wpAnyH_take (i := 7) (v := ?_) rfl (by kernel_rfl) (by kernel_rfl) (by kernel_rfl) (fun _ _ _ h => h) (Or.inl ⟨by rfl, ?_⟩) (by assumption) ?_
                rotate_left 1
                · intro w hSw; (try dsimp only at hSw); go_simp; (try with_reducible rfl)
                try simp only [Act.put, List.setIfInBounds_toArray, List.set_cons_zero, List.set_cons_succ, List.getElem_toArray, List.getElem_cons_zero, List.getElem_cons_succ]
                refine wpAnyH_take (i := 8) (v := ?_) rfl (by kernel_rfl) (by kernel_rfl) (by kernel_rfl) (fun _ _ _ h => h) (Or.inl ⟨by rfl, ?_⟩) (by assumption) ?_
                rotate_left 1
                · intro w hSw; (try dsimp only at hSw); go_simp; (try with_reducible rfl)
                try simp only [Act.put, List.setIfInBounds_toArray, List.set_cons_zero, List.set_cons_succ, List.getElem_toArray, List.getElem_cons_zero, List.getElem_cons_succ]
                refine wpAnyH_take (i := 9) (v := ?_) rfl (by kernel_rfl) (by kernel_rfl) (by kernel_rfl) (fun _ _ _ h => h) (Or.inl ⟨by rfl, ?_⟩) (by assumption) ?_
                rotate_left 1
                · intro w hSw; (try dsimp only at hSw); go_simp; (try with_reducible rfl)
                try simp only [Act.put, List.setIfInBounds_toArray, List.set_cons_zero, List.set_cons_succ, List.getElem_toArray, List.getElem_cons_zero, List.getElem_cons_succ]
                refine wpAnyH_take (i := 10) (v := ?_) rfl (by kernel_rfl) (by kernel_rfl) (by kernel_rfl) (fun _ _ _ h => h) (Or.inl ⟨by rfl, ?_⟩) (by assumption) ?_
                rotate_left 1
                · intro V hSw; have c := ((show Fp (Gr w.heap.size wr.heap.size) wa V from hSw).cell (p := ⟨mb, 1, none⟩) (show mb < wa.heap.size by omega) (fun h => absurd (show w.heap.size ≤ mb from h.1) (by omega))).trans HFT.out; clear hSw; go_simp; (try with_reducible rfl)
                try simp only [Act.put, List.setIfInBounds_toArray, List.set_cons_zero, List.set_cons_succ, List.getElem_toArray, List.getElem_cons_zero, List.getElem_cons_succ]
                refine wpAnyH_take (i := 11) (v := ?_) rfl (by kernel_rfl) (by kernel_rfl) (by kernel_rfl) (fun _ _ _ h => h) (Or.inl ⟨by rfl, ?_⟩) (by assumption) ?_
                rotate_left 1
                · intro w hSw; (try dsimp only at hSw); go_simp; (try with_reducible rfl)
                try simp only [Act.put, List.setIfInBounds_toArray, List.set_cons_zero, List.set_cons_succ, List.getElem_toArray, List.getElem_cons_zero, List.getElem_cons_succ]
                refine wpAnyH_take (i := 12) (v := ?_) rfl (by kernel_rfl) (by kernel_rfl) (by kernel_rfl) (fun _ _ _ h => h) (Or.inl ⟨by rfl, ?_⟩) (by assumption) ?_
                rotate_left 1
                · intro w hSw; (try dsimp only at hSw); go_simp; (try with_reducible rfl)
                try simp only [Act.put, List.setIfInBounds_toArray, List.set_cons_zero, List.set_cons_succ, List.getElem_toArray, List.getElem_cons_zero, List.getElem_cons_succ]
                refine wpAnyH_take (i := 13) (v := ?_) rfl (by kernel_rfl) (by kernel_rfl) (by kernel_rfl) (fun _ _ _ h => h) (Or.inl ⟨by rfl, ?_⟩) (by assumption) ?_
                rotate_left 1
                · intro V hSw; have c := ((show Fp (Gr w.heap.size wr.heap.size) wa V from hSw).cell (p := ⟨gt, k, none⟩) (show gt < wa.heap.size by omega) (fun h => absurd (show w.heap.size ≤ gt from h.1) (by omega))).trans HFU.out; clear hSw; go_simp; (try with_reducible rfl)
                try simp only [Act.put, List.setIfInBounds_toArray, List.set_cons_zero, List.set_cons_succ, List.getElem_toArray, List.getElem_cons_zero, List.getElem_cons_succ]
                refine wpAnyH_take (i := 14) (v := ?_) rfl (by kernel_rfl) (by kernel_rfl) (by kernel_rfl) (fun _ _ _ h => h) (Or.inl ⟨by rfl, ?_⟩) (by assumption) ?_
                rotate_left 1
                · intro w hSw; (try dsimp only at hSw); go_simp; (try with_reducible rfl)
                try simp only [Act.put, List.setIfInBounds_toArray, List.set_cons_zero, List.set_cons_succ, List.getElem_toArray, List.getElem_cons_zero, List.getElem_cons_succ]
                refine wpAnyH_ready (rs := [2, 15]) (by kernel_rfl) (by simp) ?_
                refine AllReadyH.cons rfl (fun K hK => ?_) (AllReadyH.cons rfl (fun K hK => ?_) AllReadyH.nil)
                · go_simp
                  refine hK.out _ _ (fp_drew (fp_alloc (Fp.refl _ _) _)) (fun hHeld2 => ?_)
                  clear hK K
                  try simp only [Act.put, List.setIfInBounds_toArray, List.set_cons_zero, List.set_cons_succ, List.getElem_toArray, List.getElem_cons_zero, List.getElem_cons_succ]
                  refine wpAnyH_ready (rs := [3, 15]) (by kernel_rfl) (by simp) ?_
                  refine AllReadyH.cons rfl (fun K hK => ?_) (AllReadyH.cons rfl (fun K hK => ?_) AllReadyH.nil)
                  · refine wp_new_int (k : Int) (.tmp 52) (.tmp 54) rfl rfl hn (by first | exact own_drew (HOA.out.alloc _) | exact own_drew ((HOA.out.alloc _).alloc _)) (by have := HBA.out.size; simp; omega) _ rfl (by first | exact (blk_new wa _ 3).drew | exact ((blk_new wa _ 3).alloc _).drew | exact (blk_new1 wa _ _ 3).drew) ?_
                    intro g2 cp2 w3 hown2 hgrow2 hat2 hlt2
                    obtain ⟨hf3, hos3, hs3, hbk3⟩ := pk_mid HOA.out HOS.out HRB.out (by first | exact HXA.out _ | exact HXB.out _ _) hgrow2
                    refine hK.out _ _ hf3 (fun hHeld3 => ?_)
                    clear hK K
                    try simp only [Act.put, List.setIfInBounds_toArray, List.set_cons_zero, List.set_cons_succ, List.getElem_toArray, List.getElem_cons_zero, List.getElem_cons_succ]
                    refine wpAnyH_ready (rs := [15]) (by kernel_rfl) (by simp) ?_
                    refine AllReadyH.cons rfl (fun K hK => ?_) AllReadyH.nil
                    go_simp
                    refine hK.out _ _ (fp_alloc hf3 _) (fun hHeld15 => ?_)
                    clear hK K
                    try simp only [Act.put, List.setIfInBounds_toArray, List.set_cons_zero, List.set_cons_succ, List.getElem_toArray, List.getElem_cons_zero, List.getElem_cons_succ]
                    refine wpAnyH_ready (rs := [16]) (by kernel_rfl) (by simp) ?_
                    refine AllReadyH.cons rfl (fun K hK => ?_) AllReadyH.nil
                    refine wp_new_share r.wt r.tn (.tmp 56) (.tmp 67) rfl rfl hn (by first | exact hos3 | exact hos3.alloc _) (by have := HBA.out.size; first | omega | (simp; omega)) _ rfl (by first | exact blk_new w3 _ 83 | exact hbk3 _ _ _ (by omega) (by first | exact (blk_new wa _ 83).drew | exact ((blk_new wa _ 83).alloc _).drew | exact (blk_new1 wa _ _ 83).drew)) ?_
                    intro g4 cp4 w5 hown4 hgrow4 hat4 hlt4
                    obtain ⟨hf5, hoa5, hbw5⟩ := pk_fin HOA.out HOS.out HRB.out (by first | exact HXA.out _ | exact HXB.out _ _) hgrow2 hown2 hat2 hlt2 (by first | exact Below.refl _ _ | exact (Below.refl _ _).alloc (Nat.le_refl _) _) hgrow4
                    refine hK.out _ _ hf5 (fun hHeld16 => ?_)
                    clear hK K
                    try simp only [Act.put, List.setIfInBounds_toArray, List.set_cons_zero, List.set_cons_succ, List.getElem_toArray, List.getElem_cons_zero, List.getElem_cons_succ]
                    refine wpAnyH_take (i := 17) (v := ?_) rfl (by kernel_rfl) (by kernel_rfl) (by kernel_rfl) (fun _ _ _ h => h) (Or.inl ⟨by rfl, ?_⟩) (by assumption) ?_
                    rotate_left 1
                    · intro w hSw; (try dsimp only at hSw); go_simp; (try with_reducible rfl)
                    try simp only [Act.put, List.setIfInBounds_toArray, List.set_cons_zero, List.set_cons_succ, List.getElem_toArray, List.getElem_cons_zero, List.getElem_cons_succ]
                    refine wpAnyH_take (i := 18) (v := ?_) rfl (by kernel_rfl) (by kernel_rfl) (by kernel_rfl) (fun _ _ _ h => h) (Or.inl ⟨by rfl, ?_⟩) (by assumption) ?_
                    rotate_left 1
                    · intro w hSw; (try dsimp only at hSw); go_simp; (try with_reducible rfl)
                    try simp only [Act.put, List.setIfInBounds_toArray, List.set_cons_zero, List.set_cons_succ, List.getElem_toArray, List.getElem_cons_zero, List.getElem_cons_succ]
                    refine wpAnyH_done (by kernel_rfl) ?_ _
                    have HOA5 := Lib.hid hoa5
                    have HOS5 := Lib.hid hown4
                    have HBW5 := Lib.hid (hbw5 w rfl HBA.out)
                    clear hown2 hgrow2 hat2 hlt2 hf3 hos3 hs3 hbk3 hown4 hgrow4 hat4 hlt4 hf5 hoa5 hbw5
                    go_wp2_with fail
                    go_roundw
                    case rel =>
                      refine ⟨k + 1, by omega, by go_num, by rw [HPN.out]; go_num, ?_, ?_, HBW5.out⟩
                      · rw [(ix_yes HR.out HQ.out).1, List.length_append, List.map_append]
                        exact HOA5.out
                      · rw [(ix_yes HR.out HQ.out).1, (ix_yes HR.out HQ.out).2, List.length_append, show shF ((L.take k).filter (freeR p zs) ++ [r]) = shF ((L.take k).filter (freeR p zs)) ++ [(r.wt, r.tn)] by simp [shF], shs_append]
                        exact HOS5.out
                    case measure => simp [intOf]; omega
                  · go_simp
                    refine hK.out _ _ (fp_drew (fp_alloc (fp_alloc (Fp.refl _ _) _) _)) (fun hHeld15 => ?_)
                    clear hK K
                    try simp only [Act.put, List.setIfInBounds_toArray, List.set_cons_zero, List.set_cons_succ, List.getElem_toArray, List.getElem_cons_zero, List.getElem_cons_succ]
                    refine wpAnyH_ready (rs := [3]) (by kernel_rfl) (by simp) ?_
                    refine AllReadyH.cons rfl (fun K hK => ?_) AllReadyH.nil
                    refine wp_new_int (k : Int) (.tmp 52) (.tmp 54) rfl rfl hn (by first | exact own_drew (HOA.out.alloc _) | exact own_drew ((HOA.out.alloc _).alloc _)) (by have := HBA.out.size; simp; omega) _ rfl (by first | exact (blk_new wa _ 3).drew | exact ((blk_new wa _ 3).alloc _).drew | exact (blk_new1 wa _ _ 3).drew) ?_
                    intro g2 cp2 w3 hown2 hgrow2 hat2 hlt2
                    obtain ⟨hf3, hos3, hs3, hbk3⟩ := pk_mid HOA.out HOS.out HRB.out (by first | exact HXA.out _ | exact HXB.out _ _) hgrow2
                    refine hK.out _ _ hf3 (fun hHeld3 => ?_)
                    clear hK K
                    try simp only [Act.put, List.setIfInBounds_toArray, List.set_cons_zero, List.set_cons_succ, List.getElem_toArray, List.getElem_cons_zero, List.getElem_cons_succ]
                    refine wpAnyH_ready (rs := [16]) (by kernel_rfl) (by simp) ?_
                    refine AllReadyH.cons rfl (fun K hK => ?_) AllReadyH.nil
                    refine wp_new_share r.wt r.tn (.tmp 56) (.tmp 67) rfl rfl hn (by first | exact hos3 | exact hos3.alloc _) (by have := HBA.out.size; first | omega | (simp; omega)) _ rfl (by first | exact blk_new w3 _ 83 | exact hbk3 _ _ _ (by omega) (by first | exact (blk_new wa _ 83).drew | exact ((blk_new wa _ 83).alloc _).drew | exact (blk_new1 wa _ _ 83).drew)) ?_
                    intro g4 cp4 w5 hown4 hgrow4 hat4 hlt4
                    obtain ⟨hf5, hoa5, hbw5⟩ := pk_fin HOA.out HOS.out HRB.out (by first | exact HXA.out _ | exact HXB.out _ _) hgrow2 hown2 hat2 hlt2 (by first | exact Below.refl _ _ | exact (Below.refl _ _).alloc (Nat.le_refl _) _) hgrow4
                    refine hK.out _ _ hf5 (fun hHeld16 => ?_)
                    clear hK K
                    try simp only [Act.put, List.setIfInBounds_toArray, List.set_cons_zero, List.set_cons_succ, List.getElem_toArray, List.getElem_cons_zero, List.getElem_cons_succ]
                    refine wpAnyH_take (i := 17) (v := ?_) rfl (by kernel_rfl) (by kernel_rfl) (by kernel_rfl) (fun _ _ _ h => h) (Or.inl ⟨by rfl, ?_⟩) (by assumption) ?_
                    rotate_left 1
                    · intro w hSw; (try dsimp only at hSw); go_simp; (try with_reducible rfl)
                    try simp only [Act.put, List.setIfInBounds_toArray, List.set_cons_zero, List.set_cons_succ, List.getElem_toArray, List.getElem_cons_zero, List.getElem_cons_succ]
                    refine wpAnyH_take (i := 18) (v := ?_) rfl (by kernel_rfl) (by kernel_rfl) (by kernel_rfl) (fun _ _ _ h => h) (Or.inl ⟨by rfl, ?_⟩) (by assumption) ?_
                    rotate_left 1
                    · intro w hSw; (try dsimp only at hSw); go_simp; (try with_reducible rfl)
                    try simp only [Act.put, List.setIfInBounds_toArray, List.set_cons_zero, List.set_cons_succ, List.getElem_toArray, List.getElem_cons_zero, List.getElem_cons_succ]
                    refine wpAnyH_done (by kernel_rfl) ?_ _
                    have HOA5 := Lib.hid hoa5
                    have HOS5 := Lib.hid hown4
                    have HBW5 := Lib.hid (hbw5 w rfl HBA.out)
                    clear hown2 hgrow2 hat2 hlt2 hf3 hos3 hs3 hbk3 hown4 hgrow4 hat4 hlt4 hf5 hoa5 hbw5
                    go_wp2_with fail
                    go_roundw
                    case rel =>
                      refine ⟨k + 1, by omega, by go_num, by rw [HPN.out]; go_num, ?_, ?_, HBW5.out⟩
                      · rw [(ix_yes HR.out HQ.out).1, List.length_append, List.map_append]
                        exact HOA5.out
                      · rw [(ix_yes HR.out HQ.out).1, (ix_yes HR.out HQ.out).2, List.length_append, show shF ((L.take k).filter (freeR p zs) ++ [r]) = shF ((L.take k).filter (freeR p zs)) ++ [(r.wt, r.tn)] by simp [shF], shs_append]
                        exact HOS5.out
                    case measure => simp [intOf]; omega
                · go_simp
                  refine hK.out _ _ (fp_drew (fp_alloc (Fp.refl _ _) _)) (fun hHeld15 => ?_)
                  clear hK K
                  try simp only [Act.put, List.setIfInBounds_toArray, List.set_cons_zero, List.set_cons_succ, List.getElem_toArray, List.getElem_cons_zero, List.getElem_cons_succ]
                  refine wpAnyH_ready (rs := [2]) (by kernel_rfl) (by simp) ?_
                  refine AllReadyH.cons rfl (fun K hK => ?_) AllReadyH.nil
                  go_simp
                  refine hK.out _ _ (fp_drew (fp_alloc (fp_alloc (Fp.refl _ _) _) _)) (fun hHeld2 => ?_)
                  clear hK K
                  try simp only [Act.put, List.setIfInBounds_toArray, List.set_cons_zero, List.set_cons_succ, List.getElem_toArray, List.getElem_cons_zero, List.getElem_cons_succ]
                  refine wpAnyH_ready (rs := [3]) (by kernel_rfl) (by simp) ?_
                  refine AllReadyH.cons rfl (fun K hK => ?_) AllReadyH.nil
                  refine wp_new_int (k : Int) (.tmp 52) (.tmp 54) rfl rfl hn (by first | exact own_drew (HOA.out.alloc _) | exact own_drew ((HOA.out.alloc _).alloc _)) (by have := HBA.out.size; simp; omega) _ rfl (by first | exact (blk_new wa _ 3).drew | exact ((blk_new wa _ 3).alloc _).drew | exact (blk_new1 wa _ _ 3).drew) ?_
                  intro g2 cp2 w3 hown2 hgrow2 hat2 hlt2
                  obtain ⟨hf3, hos3, hs3, hbk3⟩ := pk_mid HOA.out HOS.out HRB.out (by first | exact HXA.out _ | exact HXB.out _ _) hgrow2
                  refine hK.out _ _ hf3 (fun hHeld3 => ?_)
                  clear hK K
                  try simp only [Act.put, List.setIfInBounds_toArray, List.set_cons_zero, List.set_cons_succ, List.getElem_toArray, List.getElem_cons_zero, List.getElem_cons_succ]
                  refine wpAnyH_ready (rs := [16]) (by kernel_rfl) (by simp) ?_
                  refine AllReadyH.cons rfl (fun K hK => ?_) AllReadyH.nil
                  refine wp_new_share r.wt r.tn (.tmp 56) (.tmp 67) rfl rfl hn (by first | exact hos3 | exact hos3.alloc _) (by have := HBA.out.size; first | omega | (simp; omega)) _ rfl (by first | exact blk_new w3 _ 83 | exact hbk3 _ _ _ (by omega) (by first | exact (blk_new wa _ 83).drew | exact ((blk_new wa _ 83).alloc _).drew | exact (blk_new1 wa _ _ 83).drew)) ?_
                  intro g4 cp4 w5 hown4 hgrow4 hat4 hlt4
                  obtain ⟨hf5, hoa5, hbw5⟩ := pk_fin HOA.out HOS.out HRB.out (by first | exact HXA.out _ | exact HXB.out _ _) hgrow2 hown2 hat2 hlt2 (by first | exact Below.refl _ _ | exact (Below.refl _ _).alloc (Nat.le_refl _) _) hgrow4
                  refine hK.out _ _ hf5 (fun hHeld16 => ?_)
                  clear hK K
                  try simp only [Act.put, List.setIfInBounds_toArray, List.set_cons_zero, List.set_cons_succ, List.getElem_toArray, List.getElem_cons_zero, List.getElem_cons_succ]
                  refine wpAnyH_take (i := 17) (v := ?_) rfl (by kernel_rfl) (by kernel_rfl) (by kernel_rfl) (fun _ _ _ h => h) (Or.inl ⟨by rfl, ?_⟩) (by assumption) ?_
                  rotate_left 1
                  · intro w hSw; (try dsimp only at hSw); go_simp; (try with_reducible rfl)
                  try simp only [Act.put, List.setIfInBounds_toArray, List.set_cons_zero, List.set_cons_succ, List.getElem_toArray, List.getElem_cons_zero, List.getElem_cons_succ]
                  refine wpAnyH_take (i := 18) (v := ?_) rfl (by kernel_rfl) (by kernel_rfl) (by kernel_rfl) (fun _ _ _ h => h) (Or.inl ⟨by rfl, ?_⟩) (by assumption) ?_
                  rotate_left 1
                  · intro w hSw; (try dsimp only at hSw); go_simp; (try with_reducible rfl)
                  try simp only [Act.put, List.setIfInBounds_toArray, List.set_cons_zero, List.set_cons_succ, List.getElem_toArray, List.getElem_cons_zero, List.getElem_cons_succ]
                  refine wpAnyH_done (by kernel_rfl) ?_ _
                  have HOA5 := Lib.hid hoa5
                  have HOS5 := Lib.hid hown4
                  have HBW5 := Lib.hid (hbw5 w rfl HBA.out)
                  clear hown2 hgrow2 hat2 hlt2 hf3 hos3 hs3 hbk3 hown4 hgrow4 hat4 hlt4 hf5 hoa5 hbw5
                  go_wp2_with fail
                  go_roundw
                  case rel =>
                    refine ⟨k + 1, by omega, by go_num, by rw [HPN.out]; go_num, ?_, ?_, HBW5.out⟩
                    · rw [(ix_yes HR.out HQ.out).1, List.length_append, List.map_append]
                      exact HOA5.out
                    · rw [(ix_yes HR.out HQ.out).1, (ix_yes HR.out HQ.out).2, List.length_append, show shF ((L.take k).filter (freeR p zs) ++ [r]) = shF ((L.take k).filter (freeR p zs)) ++ [(r.wt, r.tn)] by simp [shF], shs_append]
                      exact HOS5.out
                  case measure => simp [intOf]; omega
      · obtain rfl : k = L.length := by omega
        rw [List.take_length] at hoa hos ⊢
        obtain ⟨F, hF⟩ : ∃ F, F = L.filter (freeR p zs) := ⟨_, rfl⟩
        have hixl : (ix (freeR p zs) L 0).length = F.length := by rw [hF]; exact ix_len _ _ _
        rw [← hF] at hos
        rw [hixl] at hoa hos
        have hFl : F.length ≤ L.length := by rw [hF]; exact List.length_filter_le _ _
        have HBr := Lib.hid hb
        have HF := Lib.hid hF
        by_cases hS0 : (L.filter (pickR p)).length = 0
        · have e : pickL p zs L = ((0, some 11), L) := by rw [pickL, if_pos HPO.out, if_pos hS0]
          have HE := Lib.hid e
          rw [hS0]
          clear e hS0 hoa hos hF hixl hb
          go_wp2_with fail
          go_ret2
          rw [HE.out]
          exact ⟨rfl, Nr.of_below HM.out HBr.out⟩
        · have hSz : (((L.filter (pickR p)).length : Int) == 0) = false := beq_eq_false_iff_ne.2 (by omega)
          by_cases hF0 : F.length = 0
          · have e : pickL p zs L = ((0, some 17), L) := by rw [pickL, if_pos HPO.out, if_neg hS0, ← hF, if_pos hF0]
            have HE := Lib.hid e
            generalize (L.filter (pickR p)).length = cnt at hS0 hSz ⊢
            obtain ⟨aoa, ca, hva⟩ := own_form hoa
            subst hva
            rw [hF0]
            clear e hS0 hoa hos hF hixl hb
            go_wp2_with fail
            go_ret2
            rw [HE.out]
            exact ⟨rfl, Nr.of_below HM.out HBr.out⟩
          · obtain ⟨out, hout⟩ : ∃ o, o = (pickW (shF F)).2 := ⟨_, rfl⟩
            have houtl : out.length = F.length := by rw [hout, pickW]; simp [newL_length, shF]
            obtain ⟨n, hn⟩ : ∃ n : Nat, (pickW (shF F)).1 = n := by
              have := (bestTo_range (trnW (shF F)) (shF F).length).2.2 (by simp [shF]; omega)
              exact ⟨_, (Int.toNat_of_nonneg this).symm⟩
            have hnl : n < F.length := by
              have h3 := (bestTo_range (trnW (shF F)) (shF F).length).2.1
              have h4 : (pickW (shF F)).1 = bestTo (trnW (shF F)) (shF F).length := rfl
              rw [h4] at hn
              simp only [shF, List.length_map] at h3 hn
              omega
            obtain ⟨z, hzn⟩ : ∃ z, F[n]? = some z := ⟨_, List.getElem?_eq_getElem hnl⟩
            have hr : pickL p zs L = ((z.ag, none), setT (freeR p zs) L (out.map Prod.snd)) := by
              rw [pickL, if_pos HPO.out, if_neg hS0, ← hF, if_neg hF0, hn, ← hout]
              have e1 : F.getD (n : Int).toNat default = z := by simp [hzn]
              rw [e1]
            have hset := setP_setT (freeR p zs) L (out.map Prod.snd) [] (by rw [List.length_map, houtl, hF])
            rw [List.nil_append, List.nil_append] at hset
            rw [← hset] at hr
            obtain ⟨I, hI⟩ : ∃ I, I = ix (freeR p zs) L 0 := ⟨_, rfl⟩
            rw [show ([] : List Rt).length = 0 from rfl, ← hI] at hr
            rw [← hI] at hoa hixl
            have hIat : ∀ j n, I[j]? = some n → L[n]? = F[j]? ∧ n < L.length := fun j n h => by
              rw [hI] at h
              obtain ⟨m, e, h1, h2⟩ := ix_at _ _ _ _ _ h
              have e2 : n = m := by omega
              subst e2
              rw [hF]
              exact ⟨h1, h2⟩
            generalize (L.filter (pickR p)).length = cnt at hS0 hSz ⊢
            obtain ⟨ga, ca, hva, hga, hgal, hac⟩ := own_cellN hoa (by omega)
            subst hva
            have HPK := Lib.hid (refpick_any _ (shF F) wr (OwnS.of_row (l := shF F) (by simpa [shF] using hos)).read (by simp [shF]; omega))
            obtain ⟨aos, cs, hvs⟩ := own_form hos
            subst hvs
            rw [hn, ← hout] at HPK
            obtain ⟨gt, ct, hvt, _, hgt, htc⟩ := own_cellN HM.out.ot (by omega)
            injection hvt with hv1 _ hv3
            subst hv1 hv3
            have HRR := Lib.hid hr
            have HZ := Lib.hid hzn
            have HIA := Lib.hid hIat
            have HAC := Lib.hid hac
            have hlz : ((F.length : Int) == 0) = false := beq_eq_false_iff_ne.2 (by omega)
            clear hS0 hoa hos hF hb hr hset hI hIat hn hout hac htc hzn
            go_wp2_with (go_at_call 55; refine HPK.out.mono ?_; rintro e w6 ⟨v6, rfl, hO6, hB6⟩; have HO6 := Lib.hid hO6; obtain ⟨ao6, cp6, hv6, _⟩ := hO6.read; subst hv6; have HB6 := Lib.hid hB6; clear hO6 hB6)
            rcases HO6.out with ⟨e6, h6⟩ | ⟨g6, cq6, rest, e6, hg6, hb6⟩
            · rw [h6] at houtl; simp at houtl; omega
            injection e6 with e7 e8 e9
            subst e7 e9
            have HB7 := Lib.hid (HBr.out.trans (HB6.out.mono HBr.out.size))
            have HG6 := Lib.hid hb6
            have hwr := HBr.out.size
            have hw6 := HB6.out.size
            have hfm : ∀ k, w.heap.size ≤ k → ¬ Fm mb (.slice ao L.length cap) (.slice (some ⟨gt, 0, none⟩) L.length capt) k := fun k hk h => by have := HM.out.lt h; omega
            have HFM := Lib.hid hfm
            clear hb6 e8 hfm
            go_loopw [15, 16, 82] (fun _ _ i w7 => ∃ j : Nat, j ≤ F.length ∧ i = n64 j ∧ Mr mb (.slice ao L.length cap) (.slice (some ⟨gt, 0, none⟩) L.length capt) (setP ((I.zip (out.map Prod.snd)).take j) L) w7 ∧ Fp (Fm mb (.slice ao L.length cap) (.slice (some ⟨gt, 0, none⟩) L.length capt)) w6 w7) (fun _ _ i _ => F.length - (intOf i).toNat)
            case atStart => exact ⟨0, Nat.zero_le _, rfl, HM.out.below HB7.out, Fp.refl _ _⟩
            case round =>
              obtain ⟨j, hj, rfl, hm7, hf7⟩ := hrel
              have HM7 := Lib.hid hm7
              have HF7 := Lib.hid hf7
              have hsl := setP_len ((I.zip (out.map Prod.snd)).take j) L
              have hga7 : ga < w6.heap.size := by omega
              have hgag : ga ≠ gt := by omega
              have hmgt : mb ≠ gt := fun e => HM.out.apart.2.1 (by rw [e]; rfl)
              clear hm7 hf7
              by_cases hlj : j < F.length
              · obtain ⟨m, hm⟩ : ∃ m, I[j]? = some m := ⟨_, List.getElem?_eq_getElem (by omega)⟩
                obtain ⟨s, hs⟩ : ∃ s, out[j]? = some s := ⟨_, List.getElem?_eq_getElem (by omega)⟩
                have hmL := (HIA.out j m hm).2
                have htk : (I.zip (out.map Prod.snd)).take (j + 1) = (I.zip (out.map Prod.snd)).take j ++ [(m, s.2)] := by
                  rw [List.take_add_one]
                  congr 1
                  rw [List.getElem?_zip_eq_some.2 (show I[j]? = some (m, s.2).1 ∧ (out.map Prod.snd)[j]? = some (m, s.2).2 from ⟨hm, by rw [List.getElem?_map, hs]; rfl⟩)]
                  rfl
                have hsj := shs_at out j (by omega)
                have hsl2 := shs_length out
                have hgetD : out.getD j (0, 0) = s := by rw [List.getD_eq_getElem?_getD, hs]; rfl
                rw [hgetD] at hsj
                have hbk := HF7.out.blk HG6.out (HFM.out g6 (by omega))
                have q0 : wr.cell? ⟨g6, j * 2, none⟩ = some (fl s.1) := hbk.cell _ _ (by simp only [List.getElem?_toArray]; rw [List.getElem?_append_left (by omega)]; exact hsj.1)
                have q1 : wr.cell? ⟨g6, j * 2 + 1, none⟩ = some (fl s.2) := hbk.cell _ _ (by simp only [List.getElem?_toArray]; rw [List.getElem?_append_left (by omega)]; exact hsj.2)
                have fA : wr.cell? ⟨ga, j, none⟩ = some (n64 m) := (HF7.out.cell (p := ⟨ga, j, none⟩) hga7 (HFM.out ga hga)).trans ((HB6.out.cell (p := ⟨ga, j, none⟩) hgal).trans ((HAC.out j (by omega)).trans (by rw [List.getElem?_map, hm]; rfl)))
                have fT : wr.cell? ⟨mb, 1, none⟩ = some (.slice (some ⟨gt, 0, none⟩) L.length capt) := HM7.out.blk.cell 1 _ rfl
                have hmb7 := HM7.out.blk.lt
                have hs7 := HF7.out.size
                have HTK := Lib.hid htk
                obtain ⟨gt', ct', hvt', _, _, htc'⟩ := own_cellN HM7.out.ot (by omega)
                injection hvt' with hv1' hnn hv3'
                injection hv1' with hv1'
                injection hv1' with hv1' _ _
                subst hv1'
                clear hnn hv3'
                have fU : ∃ u, wr.cell? ⟨gt, m, none⟩ = some u := ⟨_, (htc' m (by omega)).trans (List.getElem?_eq_getElem (by rw [tnL_len]; omega))⟩
                obtain ⟨u, fU⟩ := fU
                have fz : wr.frozen? ⟨gt, m, none⟩ = false := by
                  have ho := HM7.out.ot
                  rw [hsl] at ho
                  exact own_free ho m
                clear hm hs htk hsj hsl2 hgetD hbk htc'
                go_upto_region 22 with fail
                obtain ⟨w8, hw8⟩ : ∃ w8, w8 = wr.alloc (.cells #[fl s.1, fl s.2] 83) := ⟨_, rfl⟩
                rw [← hw8]
                have hb8 : Below wr.heap.size wr w8 := by rw [hw8]; exact (Below.refl _ _).alloc (Nat.le_refl _) _
                have HA8 := Lib.hid ((hb8.cell (p := ⟨ga, j, none⟩) (by show ga < wr.heap.size; omega)).trans fA)
                have HT8 := Lib.hid ((hb8.cell (p := ⟨mb, 1, none⟩) hmb7).trans fT)
                have HS8 := Lib.hid (show w8.cell? ⟨wr.heap.size, 1, none⟩ = some (fl s.2) by rw [hw8]; exact (blk_new wr _ 83).cell 1 _ rfl)
                have c8 : w8.cell? ⟨gt, m, none⟩ = some u := (hb8.cell (p := ⟨gt, m, none⟩) (by show gt < wr.heap.size; omega)).trans fU
                have f8 : w8.frozen? ⟨gt, m, none⟩ = false := (World.frozen?_of_block (w := wr) (hb8.block gt (by omega))).trans fz
                have hl8 : wr.heap.size < w8.heap.size := by rw [hw8]; simp
                have HB8 := Lib.hid hb8
                clear q0 q1 fA fT fU fz hw8 hb8
                refine wp_region_held_drew (S := fun V => Fp (fun k => k = gt) w8 V) (by kernel_rfl) (fp_drew (Fp.refl _ _)) (fun hHeld => ?_)
                refine wpAnyH_take (i := 0) (v := ?_) rfl (by kernel_rfl) (by kernel_rfl) (by kernel_rfl) (fun _ _ _ h => h) (Or.inl ⟨by rfl, ?_⟩) (by assumption) ?_
                rotate_left 1
                · intro w hSw; (try dsimp only at hSw); go_simp; (try with_reducible rfl)
                try simp only [Act.put, List.setIfInBounds_toArray, List.set_cons_zero, List.set_cons_succ, List.getElem_toArray, List.getElem_cons_zero, List.getElem_cons_succ]
                refine wpAnyH_take (i := 1) (v := ?_) rfl (by kernel_rfl) (by kernel_rfl) (by kernel_rfl) (fun _ _ _ h => h) (Or.inl ⟨by rfl, ?_⟩) (by assumption) ?_
                rotate_left 1
                · intro w hSw; (try dsimp only at hSw); go_simp; (try with_reducible rfl)
                try simp only [Act.put, List.setIfInBounds_toArray, List.set_cons_zero, List.set_cons_succ, List.getElem_toArray, List.getElem_cons_zero, List.getElem_cons_succ]
                refine wpAnyH_take (i := 2) (v := ?_) rfl (by kernel_rfl) (by kernel_rfl) (by kernel_rfl) (fun _ _ _ h => h) (Or.inl ⟨by rfl, ?_⟩) (by assumption) ?_
                rotate_left 1
                · intro w hSw; (try dsimp only at hSw); go_simp; (try with_reducible rfl)
                try simp only [Act.put, List.setIfInBounds_toArray, List.set_cons_zero, List.set_cons_succ, List.getElem_toArray, List.getElem_cons_zero, List.getElem_cons_succ]
                refine wpAnyH_take (i := 3) (v := ?_) rfl (by kernel_rfl) (by kernel_rfl) (by kernel_rfl) (fun _ _ _ h => h) (Or.inl ⟨by rfl, ?_⟩) (by assumption) ?_
                rotate_left 1
                · intro V hSw; have c := ((show Fp (fun k => k = gt) w8 V from hSw).cell (p := ⟨mb, 1, none⟩) (show mb < w8.heap.size by omega) (fun h => hmgt h)).trans HT8.out; clear hSw; go_simp; (try with_reducible rfl)
                try simp only [Act.put, List.setIfInBounds_toArray, List.set_cons_zero, List.set_cons_succ, List.getElem_toArray, List.getElem_cons_zero, List.getElem_cons_succ]
                refine wpAnyH_take (i := 4) (v := ?_) rfl (by kernel_rfl) (by kernel_rfl) (by kernel_rfl) (fun _ _ _ h => h) (Or.inl ⟨by rfl, ?_⟩) (by assumption) ?_
                rotate_left 1
                · intro w hSw; (try dsimp only at hSw); go_simp; (try with_reducible rfl)
                try simp only [Act.put, List.setIfInBounds_toArray, List.set_cons_zero, List.set_cons_succ, List.getElem_toArray, List.getElem_cons_zero, List.getElem_cons_succ]
                refine wpAnyH_take (i := 5) (v := ?_) rfl (by kernel_rfl) (by kernel_rfl) (by kernel_rfl) (fun _ _ _ h => h) (Or.inl ⟨by rfl, ?_⟩) (by assumption) ?_
                rotate_left 1
                · intro w hSw; (try dsimp only at hSw); go_simp; (try with_reducible rfl)
                try simp only [Act.put, List.setIfInBounds_toArray, List.set_cons_zero, List.set_cons_succ, List.getElem_toArray, List.getElem_cons_zero, List.getElem_cons_succ]
                refine wpAnyH_take (i := 6) (v := ?_) rfl (by kernel_rfl) (by kernel_rfl) (by kernel_rfl) (fun _ _ _ h => h) (Or.inl ⟨by rfl, ?_⟩) (by assumption) ?_
                rotate_left 1
                · intro w hSw; (try dsimp only at hSw); go_simp; (try with_reducible rfl)
                try simp only [Act.put, List.setIfInBounds_toArray, List.set_cons_zero, List.set_cons_succ, List.getElem_toArray, List.getElem_cons_zero, List.getElem_cons_succ]
                refine wpAnyH_take (i := 7) (v := ?_) rfl (by kernel_rfl) (by kernel_rfl) (by kernel_rfl) (fun _ _ _ h => h) (Or.inl ⟨by rfl, ?_⟩) (by assumption) ?_
                rotate_left 1
                · intro V hSw; have c := ((show Fp (fun k => k = gt) w8 V from hSw).cell (p := ⟨ga, j, none⟩) (show ga < w8.heap.size by omega) (fun h => hgag h)).trans HA8.out; clear hSw; go_simp; (try with_reducible rfl)
                try simp only [Act.put, List.setIfInBounds_toArray, List.set_cons_zero, List.set_cons_succ, List.getElem_toArray, List.getElem_cons_zero, List.getElem_cons_succ]
                refine wpAnyH_take (i := 8) (v := ?_) rfl (by kernel_rfl) (by kernel_rfl) (by kernel_rfl) (fun _ _ _ h => h) (Or.inl ⟨by rfl, ?_⟩) (by assumption) ?_
                rotate_left 1
                · intro w hSw; (try dsimp only at hSw); go_simp; (try with_reducible rfl)
                try simp only [Act.put, List.setIfInBounds_toArray, List.set_cons_zero, List.set_cons_succ, List.getElem_toArray, List.getElem_cons_zero, List.getElem_cons_succ]
                refine wpAnyH_take (i := 9) (v := ?_) rfl (by kernel_rfl) (by kernel_rfl) (by kernel_rfl) (fun _ _ _ h => h) (Or.inl ⟨by rfl, ?_⟩) (by assumption) ?_
                rotate_left 1
                · intro V hSw; have c := ((show Fp (fun k => k = gt) w8 V from hSw).cell (p := ⟨wr.heap.size, 1, none⟩) (show wr.heap.size < w8.heap.size by omega) (fun h => absurd (show wr.heap.size = gt from h) (by omega))).trans HS8.out; clear hSw; go_simp; (try with_reducible rfl)
                try simp only [Act.put, List.setIfInBounds_toArray, List.set_cons_zero, List.set_cons_succ, List.getElem_toArray, List.getElem_cons_zero, List.getElem_cons_succ]
                refine wpAnyH_take (i := 10) (v := ?_) rfl (by kernel_rfl) (by kernel_rfl) (by kernel_rfl) (fun _ _ _ h => h) (Or.inl ⟨by rfl, ?_⟩) (by assumption) ?_
                rotate_left 1
                · intro w hSw; (try dsimp only at hSw); go_simp; (try with_reducible rfl)
                try simp only [Act.put, List.setIfInBounds_toArray, List.set_cons_zero, List.set_cons_succ, List.getElem_toArray, List.getElem_cons_zero, List.getElem_cons_succ]
                refine wpAnyH_ready (rs := [11]) (by kernel_rfl) (by simp) ?_
                refine AllReadyH.cons rfl (fun K hK => ?_) AllReadyH.nil
                go_simp
                refine hK.out _ _ ((fp_drew (Fp.refl _ _)).then (Fp.set gt m _ _ rfl)) (fun hHeld11 => ?_)
                clear hK K
                try simp only [Act.put, List.setIfInBounds_toArray, List.set_cons_zero, List.set_cons_succ, List.getElem_toArray, List.getElem_cons_zero, List.getElem_cons_succ]
                refine wpAnyH_done (by kernel_rfl) ?_ _
                clear c8 f8
                go_wp2_with fail
                go_roundw
                case rel =>
                  refine ⟨j + 1, by omega, by go_num, ?_, HF7.out.then ((Fp.of_below HB8.out).then ((show Fp _ w8 w8.drew from ⟨rfl, rfl, rfl, Nat.le_refl _, fun _ _ _ => rfl⟩).then (Fp.set gt m _ _ (.inr (.inr rfl)))))⟩
                  rw [HTK.out, setP_snoc]
                  have h1 := HM7.out.below HB8.out
                  exact Mr.turn (w := w8.drew) ⟨h1.blk, h1.ol, h1.ot⟩ hsl
                case measure => simp [intOf]; omega
              · obtain rfl : j = F.length := by omega
                have htk : (I.zip (out.map Prod.snd)).take F.length = I.zip (out.map Prod.snd) := List.take_of_length_le (by simp; omega)
                rw [htk] at HM7 hsl
                obtain ⟨mz, hmz⟩ : ∃ m, I[n]? = some m := ⟨_, List.getElem?_eq_getElem (by omega)⟩
                obtain ⟨hz1, hz2⟩ := HIA.out n mz hmz
                obtain ⟨gl, cl, hvl, _, hgl, hlc⟩ := own_cellN HM7.out.ol (by omega)
                rw [hsl] at hvl
                injection hvl with hv1' _ hv3'
                subst hv1' hv3'
                have fA : wr.cell? ⟨ga, n, none⟩ = some (n64 mz) := (HF7.out.cell (p := ⟨ga, n, none⟩) hga7 (HFM.out ga hga)).trans ((HB6.out.cell (p := ⟨ga, n, none⟩) hgal).trans ((HAC.out n (by omega)).trans (by rw [List.getElem?_map, hmz]; rfl)))
                have fL : wr.cell? ⟨mb, 0, none⟩ = some (.slice (some ⟨gl, 0, none⟩) L.length cap) := HM7.out.blk.cell 0 _ rfl
                have fG : wr.cell? ⟨gl, mz * 5 + 1, none⟩ = some (n64 z.ag) := (hlc (mz * 5 + 1) (by omega)).trans (by rw [tL_setP, tL_at L mz 1 z (hz1.trans HZ.out) (by omega)]; rfl)
                clear htk hmz hz1 hlc
                go_upto_region 24 with fail
                go_quiet (fail)
                go_wp2_with fail
                go_ret2
                rw [HRR.out]
                exact ⟨rfl, Nr.before HB7.out ⟨_, _, ⟨HM7.out.blk, HM7.out.ol, HM7.out.ot⟩, ⟨HF7.out.os, HF7.out.tape, HF7.out.output, HF7.out.size, HF7.out.other⟩, fun k hk => .inl hk⟩⟩
end Go.Proofs.YtgimmdnmndbcpaaGreatDoor
