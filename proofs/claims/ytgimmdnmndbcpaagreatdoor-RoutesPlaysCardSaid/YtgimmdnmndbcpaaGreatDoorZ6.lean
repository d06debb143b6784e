/- The reference of layer 16: Register. -/
import Derived.Test.YtgimmdnmndbcpaaGreatDoorZ3
import Derived.Deep.RegionHeld3
import Derived.Deep.RegionLaw
import Derived.Deep.AppendLies
set_option linter.unusedVariables false
set_option linter.unusedSimpArgs false
namespace Go.Proofs.YtgimmdnmndbcpaaGreatDoor
open Go.RowKit Jw Lab Go.Shelf Go.Deep
attribute [local go_sem] run_store_float

theorem regL_bad {p : List UInt8} {a : Int} {wt : Nat} {L : List Rt} {e : Nat} (h : askE p a = some e) : regL p a wt L = (some e, L) := by rw [regL, h]
theorem regL_hit {p : List UInt8} {a : Int} {wt : Nat} {L : List Rt} {k : Nat} {r : Rt} (h : askE p a = none) (hi : idx (isR p a) L = k) (hr : L[k]? = some r) : regL p a wt L = (none, L.set k (upR wt r)) := by
  rw [regL, h]
  simp only
  rw [hi, if_pos (by omega), Int.toNat_natCast, List.getD_eq_getElem?_getD, hr]
  rfl
theorem regL_full {p : List UInt8} {a : Int} {wt : Nat} {L : List Rt} (h : askE p a = none) (hi : idx (isR p a) L = -1) (hf : 4 ≤ (L.filter (nmR p)).length) : regL p a wt L = (some 7, L) := by
  rw [regL, h]
  simp only
  rw [hi, if_neg (by decide), if_pos hf]
theorem regL_new {p : List UInt8} {a : Int} {wt : Nat} {L : List Rt} (h : askE p a = none) (hi : idx (isR p a) L = -1) (hf : ¬ 4 ≤ (L.filter (nmR p)).length) : regL p a wt L = (none, L ++ [newR p a wt]) := by
  rw [regL, h]
  simp only
  rw [hi, if_neg (by decide), if_neg hf]

theorem blk_new1 (w : World) (o : Go.Obj) (cs : Array Value) (t : TypeId) : Blk ((w.alloc o).alloc (.cells cs t)) (w.heap.size + 1) cs t := by
  have h := blk_new (w.alloc o) cs t
  rw [show (w.alloc o).heap.size = w.heap.size + 1 by simp] at h
  exact h
theorem own_drew {w : World} {base n size : Nat} {v : Value} {e : TypeId} {xs : List Value} (h : w.ownsRow base e size v n xs) : w.drew.ownsRow base e size v n xs := h
theorem tc_one (r : Rt) : ∀ u ∈ tc r, u.oneCell' = true := by
  intro u hu
  simp [tc] at hu
  rcases hu with rfl | rfl | rfl | rfl | rfl <;> rfl
/-- One route more. -/
theorem step_new_row {ops : Array Oper} {o : Oper} {a : Act} {K : Act → World → Prop} {Q : Exit → Act → World → Prop} {E : Prop} {w : World} {L : List Rt} {lv : Value} (r : Rt) (hgd : o.guard = none) (s x : Operand)
    (ho : o.op = .call { callee := .builtin .append, args := #[s, x], argTypes := #[27, 27] }) (hs : a.eval s = lv) (hL : L.length < 100000) (hown : w.ownsRow 0 57 5 lv L.length (tL L)) (B : Nat) (hx : a.eval x = .slice (some ⟨B, 0, none⟩) 1 1) (hb : Blk w B (tc r).toArray 57)
    (h : ∀ g cap w', w'.ownsRow 0 57 5 (.slice (some ⟨g, 0, none⟩) (L.length + 1) cap) (L ++ [r]).length (tL (L ++ [r])) → w.grownBy w' lv.ownBlock → (lv.ownBlock = some g ∨ g = w.heap.size) → g < w'.heap.size → K (a.put o.dst (.slice (some ⟨g, 0, none⟩) (L.length + 1) cap)) w') :
    if Region.wanted o (yielded ops a.tmps) = true then Oper.wp Tryz.prog o a w K Q else E := by
  obtain ⟨i0, hi, hz0, hz1, hz2⟩ := info_parts' info50
  refine step_append_lies _ hgd s x 27 ho 0 57 i0 _ 5 48 Tryz.underlying27 hi hz0 hz1 hz2 rfl (by decide) lv L.length (tL L) hs hown ⟨B, 0, none⟩ 1 1 (tc r) hx rfl (fun j u hj => by rw [addr_add, Nat.zero_add]; exact hb.cell j u (by simpa using hj)) (tc_one r) (by decide) (by unfold maxLen; omega) (by omega) (Nat.zero_le _) _ rfl (fun g cap w' h1 h2 h3 h4 => h g cap w' ?_ h2 h3 h4)
  have e1 : (L ++ [r]).length = L.length + 1 := by simp
  have e2 : tL (L ++ [r]) = tL L ++ tc r := by rw [tL_app]; simp [tL]
  rw [e1, e2]
  exact h1
theorem step_new_turn {ops : Array Oper} {o : Oper} {a : Act} {K : Act → World → Prop} {Q : Exit → Act → World → Prop} {E : Prop} {w : World} {L : List Rt} {tv : Value} (r : Rt) (hgd : o.guard = none) (s x : Operand)
    (ho : o.op = .call { callee := .builtin .append, args := #[s, x], argTypes := #[28, 28] }) (hs : a.eval s = tv) (hL : L.length < 100000) (hown : w.ownsRow 0 31 1 tv L.length (tnL L)) (B : Nat) (hx : a.eval x = .slice (some ⟨B, 0, none⟩) 1 1) (hb : Blk w B #[fl r.tn] 31)
    (h : ∀ g cap w', w'.ownsRow 0 31 1 (.slice (some ⟨g, 0, none⟩) (L.length + 1) cap) (L ++ [r]).length (tnL (L ++ [r])) → w.grownBy w' tv.ownBlock → (tv.ownBlock = some g ∨ g = w.heap.size) → g < w'.heap.size → K (a.put o.dst (.slice (some ⟨g, 0, none⟩) (L.length + 1) cap)) w') :
    if Region.wanted o (yielded ops a.tmps) = true then Oper.wp Tryz.prog o a w K Q else E := by
  obtain ⟨i0, hi, hz0, hz1, hz2⟩ := info_parts' info31z
  refine step_append_lies _ hgd s x 28 ho 0 31 i0 _ 1 8 Tryz.underlying28 hi hz0 hz1 hz2 rfl (by decide) tv L.length (tnL L) hs hown ⟨B, 0, none⟩ 1 1 [fl r.tn] hx rfl (fun j u hj => by rw [addr_add, Nat.zero_add]; exact hb.cell j u (by simpa using hj)) (fun u hu => by simp at hu; subst hu; rfl) (by decide) (by unfold maxLen; omega) (by omega) (Nat.zero_le _) _ rfl (fun g cap w' h1 h2 h3 h4 => h g cap w' ?_ h2 h3 h4)
  have e1 : (L ++ [r]).length = L.length + 1 := by simp
  have e2 : tnL (L ++ [r]) = tnL L ++ [fl r.tn] := by rw [tnL_app]; rfl
  rw [e1, e2]
  exact h1
theorem fp_grow {wr W w3 : World} {ob : Option Nat} (hW : Below wr.heap.size wr W) (hg : W.grownBy w3 ob) : Fp (fun k => ob = some k) wr w3 :=
  ⟨hg.os.trans hW.os, hg.tape.trans hW.tape, hg.output.trans hW.output, Nat.le_trans hW.size hg.size, fun k hk hn => (hg.block k (Nat.lt_of_lt_of_le hk hW.size) (fun e => hn e.symm)).trans (hW.block k hk)⟩
section
variable {mb : Nat} {lv tv : Value} {L : List Rt} {wr W w3 W4 w5 : World}
/-- Behind the first append. -/
theorem reg_mid (h : Mr mb lv tv L wr) (hW : Below wr.heap.size wr W) (hg : W.grownBy w3 lv.ownBlock) : Below wr.heap.size wr W ∧ w3.cell? ⟨mb, 1, none⟩ = some tv ∧ w3.ownsRow 0 31 1 tv L.length (tnL L) ∧ wr.heap.size ≤ w3.heap.size ∧ ∀ b cs t, wr.heap.size ≤ b → Blk W b cs t → Blk w3 b cs t := by
  have hf := fp_grow hW hg
  obtain ⟨a1, a2, a3⟩ := h.apart
  refine ⟨hW, (hf.blk h.blk a1).cell 1 _ rfl, own_same h.ot fun k hk => hf.other k (own_lo h.ot k hk).2 (fun e => a3 k e hk), hf.size, fun b cs t hb hbl => hbl.same (hg.block b hbl.lt fun e => ?_)⟩
  have := (own_lo h.ol b e.symm).2
  omega
/-- Behind the second. -/
theorem reg_fin {r : Rt} {g2 c2 g4 c4 n : Nat} (h : Mr mb lv tv L wr) (hW : Below wr.heap.size wr W) (hg : W.grownBy w3 lv.ownBlock) (ho2 : w3.ownsRow 0 57 5 (.slice (some ⟨g2, 0, none⟩) n c2) (L ++ [r]).length (tL (L ++ [r]))) (hat2 : lv.ownBlock = some g2 ∨ g2 = W.heap.size) (hlt2 : g2 < w3.heap.size)
    (hW4 : Below w3.heap.size w3 W4) (hg4 : W4.grownBy w5 tv.ownBlock) (ho4 : w5.ownsRow 0 31 1 (.slice (some ⟨g4, 0, none⟩) n c4) (L ++ [r]).length (tnL (L ++ [r]))) (hat4 : tv.ownBlock = some g4 ∨ g4 = W4.heap.size) :
    w5.cell? ⟨mb, 0, none⟩ = some lv ∧ w5.frozen? ⟨mb, 0, none⟩ = false ∧ w5.cell? ⟨mb, 1, none⟩ = some tv ∧ w5.frozen? ⟨mb, 1, none⟩ = false ∧ Nr mb lv tv wr ((w5.setCell ⟨mb, 0, none⟩ (.slice (some ⟨g2, 0, none⟩) n c2)).setCell ⟨mb, 1, none⟩ (.slice (some ⟨g4, 0, none⟩) n c4)) (L ++ [r]) := by
  have hf3 := fp_grow hW hg
  have hf5 := fp_grow hW4 hg4
  obtain ⟨a1, a2, a3⟩ := h.apart
  have b3 := hf3.blk h.blk a1
  have b5 := hf5.blk b3 a2
  have hml := h.blk.lt
  have e2 : g2 ≠ mb := fun e => by
    rcases hat2 with h' | h'
    · exact a1 (by rw [h', e])
    · have := hW.size; omega
  have e4 : g4 ≠ mb := fun e => by
    rcases hat4 with h' | h'
    · exact a2 (by rw [h', e])
    · have := hW4.size; have := hf3.size; omega
  have e24 : tv.ownBlock ≠ some g2 := fun e => by
    rcases hat2 with h' | h'
    · exact a3 g2 h' e
    · have h1 := (own_lo h.ot g2 e).2
      have h2 := hW.size
      omega
  refine ⟨b5.cell 0 _ rfl, b5.free 0, b5.cell 1 _ rfl, b5.free 1, _, _, ⟨(b5.set 0 _).set 1 _, ?_, ?_⟩, ?_, fun k hk => ?_⟩
  · refine own_same ho2 fun k hk => ?_
    simp only [Value.ownBlock, Option.some.injEq] at hk
    subst hk
    rw [Below.heap_setCell _ _ _ _ e2, Below.heap_setCell _ _ _ _ e2]
    exact hf5.other g2 hlt2 e24
  · refine own_same ho4 fun k hk => ?_
    simp only [Value.ownBlock, Option.some.injEq] at hk
    subst hk
    rw [Below.heap_setCell _ _ _ _ e4, Below.heap_setCell _ _ _ _ e4]
  · refine ((hf3.mono fun k hk => .inr (.inl hk)).trans (hf5.mono (S' := Fm mb lv tv) fun k hk => .inr (.inr hk)) (fun k hk => .inl hk)).then ((Fp.set mb 0 _ _ (.inl rfl)).then (Fp.set mb 1 _ _ (.inl rfl)))
  · rcases hk with e | e | e
    · exact .inl (.inl e)
    · simp only [Value.ownBlock, Option.some.injEq] at e
      subst e
      rcases hat2 with h' | h'
      · exact .inl (.inr (.inl h'))
      · exact .inr (by have := hW.size; omega)
    · simp only [Value.ownBlock, Option.some.injEq] at e
      subst e
      rcases hat4 with h' | h'
      · exact .inl (.inr (.inr h'))
      · exact .inr (by have := hW4.size; have := hf3.size; omega)
end
set_option maxRecDepth 20000 in
set_option maxHeartbeats 4000000 in
theorem rregister_any {mb : Nat} {lv tv : Value} {L : List Rt} {w : World} (h : Mr mb lv tv L w) (hL : L.length < 100000) (p : List UInt8) (hl : p.length < 4294967281) (a : Int) (wt : Nat) :
    Calls Tryz.prog 8 #[pp mb, .string (bs p), n64 a, fl wt] w fun e w' => e = .returned (n64 (nE (regL p a wt L).1)) ∧ Nr mb lv tv w w' (regL p a wt L).2 := by
  have HA := Lib.hid (rask_any p hl a w)
  have HF := Lib.hid (fun (w1 : World) (hb : Below w.heap.size w w1) => rfind_any (h.below hb) (by omega) p a)
  have HM := Lib.hid h
  cases he : askE p a with
  | some e =>
    rw [regL_bad he]
    rw [he] at HA
    have hne : ((nE (some e) : Int) != 0) = true := by rw [bne, nE_ne]; rfl
    obtain ⟨E, hE⟩ : ∃ E, E = nE (some e) := ⟨_, rfl⟩
    rw [← hE] at hne HA ⊢
    clear h he hE HF
    go_enter Tryz.func8, Tryz.ntmps8
    go_wp2_with (go_at_call 32; refine HA.out.mono ?_; rintro e w1 ⟨rfl, hB⟩; have HB := Lib.hid hB; clear hB)
    go_ret
    exact ⟨rfl, Nr.of_below HM.out HB.out⟩
  | none =>
    rw [he] at HA
    have HA := Lib.hid (show Calls Tryz.prog 32 #[.string (bs p), n64 a] w fun e w' => e = .returned (n64 0) ∧ Below w.heap.size w w' from HA.out)
    rcases idxL_cases (isR p a) L with ⟨hi, _⟩ | ⟨k, r, hr, _, hi, _⟩
    · obtain ⟨ao, cap, rfl⟩ := own_form h.ol
      rw [hi] at HF
      have HI := Lib.hid hi
      have HE := Lib.hid he
      clear h he hi
      go_enter Tryz.func8, Tryz.ntmps8
      go_wp2_with (first
        | (go_at_call 32; refine HA.out.mono ?_; rintro e w1 ⟨rfl, hB⟩; have HB := Lib.hid hB; clear hB)
        | (go_at_call 33; refine (HF.out _ HB.out).mono ?_; rintro e w2 ⟨rfl, hB⟩; have HB2 := Lib.hid (below_all HB.out hB); have cm := (HM.out.below HB2.out).blk.cell 0 _ rfl; clear hB))
      go_loopw [11, 13, 53] (fun n _ i wr => ∃ k : Nat, k ≤ L.length ∧ i = n64 k ∧ n = n64 ((L.take k).filter (nmR p)).length ∧ Below w.heap.size w wr) (fun _ _ i _ => L.length - (intOf i).toNat)
      case atStart => exact ⟨0, Nat.zero_le _, rfl, rfl, HB2.out⟩
      case round =>
        clear cm HB2 HF HA
        obtain ⟨k, hk, rfl, rfl, hb⟩ := hrel
        have hcnt : ((L.take k).filter (nmR p)).length ≤ k := Nat.le_trans (List.length_filter_le _ _) (by simp; omega)
        by_cases hlk : k < L.length
        · obtain ⟨r, hr⟩ : ∃ r, L[k]? = some r := ⟨_, List.getElem?_eq_getElem hlk⟩
          obtain ⟨g, cg, hv, hgl, c0, c1, c2, c3, c4, hfz⟩ := (HM.out.below hb).cells hr
          injection hv with hv1 _ hv3
          subst hv1 hv3
          have htk : L.take (k + 1) = L.take k ++ [r] := by rw [List.take_add_one, hr]; rfl
          have hbe := bs_eql r.nm p
          have HB3 := Lib.hid (hb.alloc hb.size (.cells #[.string (bs r.nm), n64 r.ag, fl r.wt, .bool r.dr, n64 r.un] 57))
          have hcn : ((L.take (k + 1)).filter (nmR p)).length = ((L.take k).filter (nmR p)).length + (if (r.nm == p) = true then 1 else 0) := by
            rw [htk, List.filter_append, List.length_append]
            congr 1
            cases e : r.nm == p <;> simp [nmR, e]
          have HCN := Lib.hid hcn
          generalize ((L.take k).filter (nmR p)).length = cnt at hcnt hcn HCN ⊢
          clear hb hr htk hcn hfz
          cases h1 : r.nm == p with
          | false =>
            rw [h1] at hbe HCN
            have HCN := Lib.hid (show ((L.take (k + 1)).filter (nmR p)).length = cnt from HCN.out)
            go_wp2_with fail
            go_roundw
            case rel => exact ⟨k + 1, by omega, by go_num, by rw [HCN.out], HB3.out⟩
            case measure => simp [intOf]; omega
          | true =>
            rw [h1] at hbe HCN
            have HCN := Lib.hid (show ((L.take (k + 1)).filter (nmR p)).length = cnt + 1 from HCN.out)
            go_wp2_with fail
            go_roundw
            case rel => exact ⟨k + 1, by omega, by go_num, by rw [HCN.out]; go_num, HB3.out⟩
            case measure => simp [intOf]; omega
        · obtain rfl : k = L.length := by omega
          rw [List.take_length] at hcnt ⊢
          have HB3 := Lib.hid hb
          by_cases hful : 4 ≤ (L.filter (nmR p)).length
          · have d4 : decide ((4 : Int) ≤ ((L.filter (nmR p)).length : Int)) = true := by simp; omega
            clear hb
            go_wp2_with fail
            go_ret
            rw [regL_full HE.out HI.out hful]
            exact ⟨rfl, Nr.of_below HM.out HB3.out⟩
          · have d4 : decide ((4 : Int) ≤ ((L.filter (nmR p)).length : Int)) = false := by simp; omega
            have hm := HM.out.below hb
            have cm : wr.cell? ⟨mb, 0, none⟩ = some (.slice ao L.length cap) := hm.blk.cell 0 _ rfl
            have cn : wr.cell? ⟨mb, 1, none⟩ = some tv := hm.blk.cell 1 _ rfl
            have HMR := Lib.hid hm
            clear hb hm
            obtain ⟨aot, capt, rfl⟩ := own_form HMR.out.ot
            have cmA := fun o => (World.cell?_alloc_some wr ⟨mb, 0, none⟩ o (by rw [cm]; rfl)).trans cm
            have cnA := fun o => (World.cell?_alloc_some wr ⟨mb, 1, none⟩ o (by rw [cn]; rfl)).trans cn
            have cmB := fun o o2 => (World.cell?_alloc_some (wr.alloc o) ⟨mb, 0, none⟩ o2 (by rw [cmA]; rfl)).trans (cmA o)
            have cnB := fun o o2 => (World.cell?_alloc_some (wr.alloc o) ⟨mb, 1, none⟩ o2 (by rw [cnA]; rfl)).trans (cnA o)
            go_upto_region 17 with fail
            have HBA := Lib.hid (fun o1 => (((Below.refl wr.heap.size wr).alloc (Nat.le_refl _) o1).drew : Below wr.heap.size wr (wr.alloc o1).drew))
            have HBB := Lib.hid (fun o1 o2 => ((((Below.refl wr.heap.size wr).alloc (Nat.le_refl _) o1).alloc (by simp) o2).drew : Below wr.heap.size wr ((wr.alloc o1).alloc o2).drew))
            go_region_law (first
              | (refine step_new_row (newR p a wt) rfl (.tmp 71) (.tmp 76) rfl rfl hL (by first | exact own_drew (HMR.out.ol.alloc _) | exact own_drew ((HMR.out.ol.alloc _).alloc _)) _ rfl (by first | exact (blk_new wr _ 57).drew | exact ((blk_new wr _ 57).alloc _).drew | exact (blk_new1 wr _ _ 57).drew) (fun g2 cp2 w3 hown2 hgrow2 hat2 hlt2 => ?_)
                 obtain ⟨hW, cn3, ht3, hs3, hbk3⟩ := reg_mid HMR.out (by first | exact HBA.out _ | exact HBB.out _ _) hgrow2
                 have cn3b := fun o => (World.cell?_alloc_some w3 ⟨mb, 1, none⟩ o (by rw [cn3]; rfl)).trans cn3
                 have HT3 := Lib.hid ht3
                 have HBK3 := Lib.hid hbk3
                 have HW3 := Lib.hid hW
                 have HG2 := Lib.hid hgrow2
                 have HO2 := Lib.hid hown2
                 have HA2 := Lib.hid hat2
                 clear ht3 hbk3 hW hgrow2 hown2 hat2)
              | (refine step_new_turn (newR p a wt) rfl (.tmp 81) (.tmp 82) rfl rfl hL (by first | exact HT3.out | exact HT3.out.alloc _) _ rfl (by first | exact blk_new w3 _ 31 | exact HBK3.out _ _ _ (by omega) (by first | exact (blk_new wr _ 31).drew | exact ((blk_new wr _ 31).alloc _).drew | exact (blk_new1 wr _ _ 31).drew)) (fun g4 cp4 w5 hown4 hgrow4 hat4 hlt4 => ?_)
                 obtain ⟨cm5, fm5, cn5, fn5, hN⟩ := reg_fin HMR.out HW3.out HG2.out HO2.out HA2.out hlt2 (by first | exact Below.refl _ _ | exact (Below.refl _ _).alloc (Nat.le_refl _) _) hgrow4 hown4 hat4
                 have HN := Lib.hid hN
                 clear hown4 hgrow4 hat4 hN))
            all_goals
              go_wp2
              go_ret
              rw [regL_new HE.out HI.out hful]
              exact ⟨rfl, Nr.before HB3.out HN.out⟩
    · rw [regL_hit he hi hr]
      rw [hi] at HF
      have HR := Lib.hid hr
      have hkl : k < L.length := (List.getElem?_eq_some_iff.1 hr).1
      clear h he hi hr
      go_enter Tryz.func8, Tryz.ntmps8
      go_upto_region 6 with (first
        | (go_at_call 32; refine HA.out.mono ?_; rintro e w1 ⟨rfl, hB⟩; have HB := Lib.hid hB; clear hB)
        | (go_at_call 33; refine (HF.out _ HB.out).mono ?_; rintro e w2 ⟨rfl, hB⟩; have HB2 := Lib.hid (below_all HB.out hB); have cm := (HM.out.below HB2.out).blk.cell 0 _ rfl; obtain ⟨g, cg, hlv, _, c0, c1, c2, c3, c4, hfz⟩ := (HM.out.below HB2.out).cells HR.out; subst hlv; clear hB))
      have hm2 := HM.out.below HB2.out
      have hmg : mb ≠ g := fun e => hm2.apart.1 (by rw [e]; rfl)
      have cm : w2.drew.cell? ⟨mb, 0, none⟩ = some (.slice (some ⟨g, 0, none⟩) L.length cg) := hm2.blk.cell 0 _ rfl
      have ne : ∀ (W : World) (i : Nat) (u : Value), (W.setCell ⟨g, i, none⟩ u).cell? ⟨mb, 0, none⟩ = W.cell? ⟨mb, 0, none⟩ := fun W i u => World.cell?_of_block (Below.heap_setCell _ _ _ _ hmg)
      have cmA : (w2.drew.setCell ⟨g, k * 5 + 2, none⟩ (fl wt)).cell? ⟨mb, 0, none⟩ = some (.slice (some ⟨g, 0, none⟩) L.length cg) := (ne _ _ _).trans cm
      have cmB : ((w2.drew.setCell ⟨g, k * 5 + 2, none⟩ (fl wt)).setCell ⟨g, k * 5 + 3, none⟩ (.bool false)).cell? ⟨mb, 0, none⟩ = some (.slice (some ⟨g, 0, none⟩) L.length cg) := (ne _ _ _).trans cmA
      have cmC : (((w2.drew.setCell ⟨g, k * 5 + 2, none⟩ (fl wt)).setCell ⟨g, k * 5 + 3, none⟩ (.bool false)).setCell ⟨g, k * 5 + 4, none⟩ (n64 0)).cell? ⟨mb, 0, none⟩ = some (.slice (some ⟨g, 0, none⟩) L.length cg) := (ne _ _ _).trans cmB
      have hres : Nr mb (.slice (some ⟨g, 0, none⟩) L.length cg) tv w2 (((w2.drew.setCell ⟨g, k * 5 + 2, none⟩ (fl wt)).setCell ⟨g, k * 5 + 3, none⟩ (.bool false)).setCell ⟨g, k * 5 + 4, none⟩ (n64 0)) (L.set k (upR wt r)) := by
        have m0 : Mr mb (.slice (some ⟨g, 0, none⟩) L.length cg) tv L w2.drew := ⟨hm2.blk, hm2.ol, hm2.ot⟩
        have m1 := m0.field (r' := { r with wt := wt }) (u := fl wt) (i := 2) HR.out (by omega) rfl rfl
        have l1 : (L.set k { r with wt := wt }).length = L.length := List.length_set
        have r1 : (L.set k { r with wt := wt })[k]? = some { r with wt := wt } := List.getElem?_set_self hkl
        rw [← l1] at m1
        have m2 := m1.field (r' := { r with wt := wt, dr := false }) (u := .bool false) (i := 3) r1 (by omega) rfl rfl
        rw [List.set_set, l1] at m2
        have l2 : (L.set k { r with wt := wt, dr := false }).length = L.length := List.length_set
        have r2 : (L.set k { r with wt := wt, dr := false })[k]? = some { r with wt := wt, dr := false } := List.getElem?_set_self hkl
        rw [← l2] at m2
        have m3 := m2.field (r' := { r with wt := wt, dr := false, un := 0 }) (u := n64 0) (i := 4) r2 (by omega) rfl rfl
        rw [List.set_set, l2] at m3
        exact ⟨_, _, m3, ((show Fp _ w2 w2.drew from ⟨rfl, rfl, rfl, Nat.le_refl _, fun _ _ _ => rfl⟩).then fp_field).then (fp_field.then fp_field), fun k hk => .inl hk⟩
      have HRES := Lib.hid (Nr.before HB2.out hres)
      clear hres hm2 ne hmg
      refine wp_region_held_drew (S := fun V => V.cell? ⟨mb, 0, none⟩ = some (.slice (some ⟨g, 0, none⟩) L.length cg)) (by kernel_rfl) cm (fun hHeld => ?_)
      refine wpAnyH_take (i := 0) (v := ?_) rfl (by kernel_rfl) (by kernel_rfl) (by kernel_rfl) (fun _ _ _ h => h) (Or.inl ⟨by rfl, ?_⟩) (by assumption) ?_
      rotate_left 1
      · intro w hSw; (try dsimp only at hSw); go_simp; (try with_reducible rfl)
      try simp only [Act.put, List.setIfInBounds_toArray, List.set_cons_zero, List.set_cons_succ, List.getElem_toArray, List.getElem_cons_zero, List.getElem_cons_succ]
      refine wpAnyH_take (i := 1) (v := ?_) rfl (by kernel_rfl) (by kernel_rfl) (by kernel_rfl) (fun _ _ _ h => h) (Or.inl ⟨by rfl, ?_⟩) (by assumption) ?_
      rotate_left 1
      · intro w hSw; (try dsimp only at hSw); go_simp; (try with_reducible rfl)
      try simp only [Act.put, List.setIfInBounds_toArray, List.set_cons_zero, List.set_cons_succ, List.getElem_toArray, List.getElem_cons_zero, List.getElem_cons_succ]
      refine wpAnyH_take (i := 2) (v := ?_) rfl (by kernel_rfl) (by kernel_rfl) (by kernel_rfl) (fun _ _ _ h => h) (Or.inl ⟨by rfl, ?_⟩) (by assumption) ?_
      rotate_left 1
      · intro w hSw; (try dsimp only at hSw); go_simp; (try with_reducible rfl)
      try simp only [Act.put, List.setIfInBounds_toArray, List.set_cons_zero, List.set_cons_succ, List.getElem_toArray, List.getElem_cons_zero, List.getElem_cons_succ]
      refine wpAnyH_take (i := 3) (v := ?_) rfl (by kernel_rfl) (by kernel_rfl) (by kernel_rfl) (fun _ _ _ h => h) (Or.inl ⟨by rfl, ?_⟩) (by assumption) ?_
      rotate_left 1
      · intro w hSw; (try dsimp only at hSw); go_simp; (try with_reducible rfl)
      try simp only [Act.put, List.setIfInBounds_toArray, List.set_cons_zero, List.set_cons_succ, List.getElem_toArray, List.getElem_cons_zero, List.getElem_cons_succ]
      refine wpAnyH_take (i := 4) (v := ?_) rfl (by kernel_rfl) (by kernel_rfl) (by kernel_rfl) (fun _ _ _ h => h) (Or.inl ⟨by rfl, ?_⟩) (by assumption) ?_
      rotate_left 1
      · intro w hSw; (try dsimp only at hSw); go_simp; (try with_reducible rfl)
      try simp only [Act.put, List.setIfInBounds_toArray, List.set_cons_zero, List.set_cons_succ, List.getElem_toArray, List.getElem_cons_zero, List.getElem_cons_succ]
      refine wpAnyH_take (i := 5) (v := ?_) rfl (by kernel_rfl) (by kernel_rfl) (by kernel_rfl) (fun _ _ _ h => h) (Or.inl ⟨by rfl, ?_⟩) (by assumption) ?_
      rotate_left 1
      · intro w hSw; (try dsimp only at hSw); go_simp; (try with_reducible rfl)
      try simp only [Act.put, List.setIfInBounds_toArray, List.set_cons_zero, List.set_cons_succ, List.getElem_toArray, List.getElem_cons_zero, List.getElem_cons_succ]
      refine wpAnyH_take (i := 6) (v := ?_) rfl (by kernel_rfl) (by kernel_rfl) (by kernel_rfl) (fun _ _ _ h => h) (Or.inl ⟨by rfl, ?_⟩) (by assumption) ?_
      rotate_left 1
      · intro w hSw; (try dsimp only at hSw); go_simp; (try with_reducible rfl)
      try simp only [Act.put, List.setIfInBounds_toArray, List.set_cons_zero, List.set_cons_succ, List.getElem_toArray, List.getElem_cons_zero, List.getElem_cons_succ]
      refine wpAnyH_take (i := 7) (v := ?_) rfl (by kernel_rfl) (by kernel_rfl) (by kernel_rfl) (fun _ _ _ h => h) (Or.inl ⟨by rfl, ?_⟩) (by assumption) ?_
      rotate_left 1
      · intro w hSw; (try dsimp only at hSw); go_simp; (try with_reducible rfl)
      try simp only [Act.put, List.setIfInBounds_toArray, List.set_cons_zero, List.set_cons_succ, List.getElem_toArray, List.getElem_cons_zero, List.getElem_cons_succ]
      refine wpAnyH_take (i := 8) (v := ?_) rfl (by kernel_rfl) (by kernel_rfl) (by kernel_rfl) (fun _ _ _ h => h) (Or.inl ⟨by rfl, ?_⟩) (by assumption) ?_
      rotate_left 1
      · intro w hSw; (try dsimp only at hSw); go_simp; (try with_reducible rfl)
      try simp only [Act.put, List.setIfInBounds_toArray, List.set_cons_zero, List.set_cons_succ, List.getElem_toArray, List.getElem_cons_zero, List.getElem_cons_succ]
      refine wpAnyH_take (i := 9) (v := ?_) rfl (by kernel_rfl) (by kernel_rfl) (by kernel_rfl) (fun _ _ _ h => h) (Or.inl ⟨by rfl, ?_⟩) (by assumption) ?_
      rotate_left 1
      · intro w hSw; (try dsimp only at hSw); go_simp; (try with_reducible rfl)
      try simp only [Act.put, List.setIfInBounds_toArray, List.set_cons_zero, List.set_cons_succ, List.getElem_toArray, List.getElem_cons_zero, List.getElem_cons_succ]
      refine wpAnyH_take (i := 10) (v := ?_) rfl (by kernel_rfl) (by kernel_rfl) (by kernel_rfl) (fun _ _ _ h => h) (Or.inl ⟨by rfl, ?_⟩) (by assumption) ?_
      rotate_left 1
      · intro w hSw; (try dsimp only at hSw); go_simp; (try with_reducible rfl)
      try simp only [Act.put, List.setIfInBounds_toArray, List.set_cons_zero, List.set_cons_succ, List.getElem_toArray, List.getElem_cons_zero, List.getElem_cons_succ]
      refine wpAnyH_take (i := 11) (v := ?_) rfl (by kernel_rfl) (by kernel_rfl) (by kernel_rfl) (fun _ _ _ h => h) (Or.inl ⟨by rfl, ?_⟩) (by assumption) ?_
      rotate_left 1
      · intro w hSw; (try dsimp only at hSw); go_simp; (try with_reducible rfl)
      try simp only [Act.put, List.setIfInBounds_toArray, List.set_cons_zero, List.set_cons_succ, List.getElem_toArray, List.getElem_cons_zero, List.getElem_cons_succ]
      refine wpAnyH_take (i := 12) (v := ?_) rfl (by kernel_rfl) (by kernel_rfl) (by kernel_rfl) (fun _ _ _ h => h) (Or.inl ⟨by rfl, ?_⟩) (by assumption) ?_
      rotate_left 1
      · intro w hSw; (try dsimp only at hSw); go_simp; (try with_reducible rfl)
      try simp only [Act.put, List.setIfInBounds_toArray, List.set_cons_zero, List.set_cons_succ, List.getElem_toArray, List.getElem_cons_zero, List.getElem_cons_succ]
      refine wpAnyH_take (i := 13) (v := ?_) rfl (by kernel_rfl) (by kernel_rfl) (by kernel_rfl) (fun _ _ _ h => h) (Or.inl ⟨by rfl, ?_⟩) (by assumption) ?_
      rotate_left 1
      · intro w hSw; (try dsimp only at hSw); go_simp; (try with_reducible rfl)
      try simp only [Act.put, List.setIfInBounds_toArray, List.set_cons_zero, List.set_cons_succ, List.getElem_toArray, List.getElem_cons_zero, List.getElem_cons_succ]
      refine wpAnyH_take (i := 14) (v := ?_) rfl (by kernel_rfl) (by kernel_rfl) (by kernel_rfl) (fun _ _ _ h => h) (Or.inl ⟨by rfl, ?_⟩) (by assumption) ?_
      rotate_left 1
      · intro w hSw; (try dsimp only at hSw); go_simp; (try with_reducible rfl)
      try simp only [Act.put, List.setIfInBounds_toArray, List.set_cons_zero, List.set_cons_succ, List.getElem_toArray, List.getElem_cons_zero, List.getElem_cons_succ]
      refine wpAnyH_take (i := 15) (v := ?_) rfl (by kernel_rfl) (by kernel_rfl) (by kernel_rfl) (fun _ _ _ h => h) (Or.inl ⟨by rfl, ?_⟩) (by assumption) ?_
      rotate_left 1
      · intro w hSw; (try dsimp only at hSw); go_simp; (try with_reducible rfl)
      try simp only [Act.put, List.setIfInBounds_toArray, List.set_cons_zero, List.set_cons_succ, List.getElem_toArray, List.getElem_cons_zero, List.getElem_cons_succ]
      refine wpAnyH_take (i := 16) (v := ?_) rfl (by kernel_rfl) (by kernel_rfl) (by kernel_rfl) (fun _ _ _ h => h) (Or.inl ⟨by rfl, ?_⟩) (by assumption) ?_
      rotate_left 1
      · intro w hSw; (try dsimp only at hSw); go_simp; (try with_reducible rfl)
      try simp only [Act.put, List.setIfInBounds_toArray, List.set_cons_zero, List.set_cons_succ, List.getElem_toArray, List.getElem_cons_zero, List.getElem_cons_succ]
      refine wpAnyH_take (i := 17) (v := ?_) rfl (by kernel_rfl) (by kernel_rfl) (by kernel_rfl) (fun _ _ _ h => h) (Or.inl ⟨by rfl, ?_⟩) (by assumption) ?_
      rotate_left 1
      · intro w hSw; (try dsimp only at hSw); go_simp; (try with_reducible rfl)
      try simp only [Act.put, List.setIfInBounds_toArray, List.set_cons_zero, List.set_cons_succ, List.getElem_toArray, List.getElem_cons_zero, List.getElem_cons_succ]
      refine wpAnyH_ready (rs := [18]) (by kernel_rfl) (by simp) ?_
      refine AllReadyH.cons rfl (fun K hK => ?_) AllReadyH.nil
      go_simp
      refine hK.out _ _ cmA (fun hHeld18 => ?_)
      clear hK K
      try simp only [Act.put, List.setIfInBounds_toArray, List.set_cons_zero, List.set_cons_succ, List.getElem_toArray, List.getElem_cons_zero, List.getElem_cons_succ]
      refine wpAnyH_take (i := 19) (v := ?_) rfl (by kernel_rfl) (by kernel_rfl) (by kernel_rfl) (fun _ _ _ h => h) (Or.inl ⟨by rfl, ?_⟩) (by assumption) ?_
      rotate_left 1
      · intro w hSw; (try dsimp only at hSw); go_simp; (try with_reducible rfl)
      try simp only [Act.put, List.setIfInBounds_toArray, List.set_cons_zero, List.set_cons_succ, List.getElem_toArray, List.getElem_cons_zero, List.getElem_cons_succ]
      refine wpAnyH_take (i := 20) (v := ?_) rfl (by kernel_rfl) (by kernel_rfl) (by kernel_rfl) (fun _ _ _ h => h) (Or.inl ⟨by rfl, ?_⟩) (by assumption) ?_
      rotate_left 1
      · intro w hSw; (try dsimp only at hSw); go_simp; (try with_reducible rfl)
      try simp only [Act.put, List.setIfInBounds_toArray, List.set_cons_zero, List.set_cons_succ, List.getElem_toArray, List.getElem_cons_zero, List.getElem_cons_succ]
      refine wpAnyH_ready (rs := [21]) (by kernel_rfl) (by simp) ?_
      refine AllReadyH.cons rfl (fun K hK => ?_) AllReadyH.nil
      go_simp
      refine hK.out _ _ cmB (fun hHeld21 => ?_)
      clear hK K
      try simp only [Act.put, List.setIfInBounds_toArray, List.set_cons_zero, List.set_cons_succ, List.getElem_toArray, List.getElem_cons_zero, List.getElem_cons_succ]
      refine wpAnyH_take (i := 22) (v := ?_) rfl (by kernel_rfl) (by kernel_rfl) (by kernel_rfl) (fun _ _ _ h => h) (Or.inl ⟨by rfl, ?_⟩) (by assumption) ?_
      rotate_left 1
      · intro w hSw; (try dsimp only at hSw); go_simp; (try with_reducible rfl)
      try simp only [Act.put, List.setIfInBounds_toArray, List.set_cons_zero, List.set_cons_succ, List.getElem_toArray, List.getElem_cons_zero, List.getElem_cons_succ]
      refine wpAnyH_take (i := 23) (v := ?_) rfl (by kernel_rfl) (by kernel_rfl) (by kernel_rfl) (fun _ _ _ h => h) (Or.inl ⟨by rfl, ?_⟩) (by assumption) ?_
      rotate_left 1
      · intro w hSw; (try dsimp only at hSw); go_simp; (try with_reducible rfl)
      try simp only [Act.put, List.setIfInBounds_toArray, List.set_cons_zero, List.set_cons_succ, List.getElem_toArray, List.getElem_cons_zero, List.getElem_cons_succ]
      refine wpAnyH_ready (rs := [24]) (by kernel_rfl) (by simp) ?_
      refine AllReadyH.cons rfl (fun K hK => ?_) AllReadyH.nil
      go_simp
      refine hK.out _ _ cmC (fun hHeld24 => ?_)
      clear hK K
      try simp only [Act.put, List.setIfInBounds_toArray, List.set_cons_zero, List.set_cons_succ, List.getElem_toArray, List.getElem_cons_zero, List.getElem_cons_succ]
      refine wpAnyH_done (by kernel_rfl) ?_ _
      go_wp2
      go_ret
      exact ⟨rfl, HRES.out⟩
end Go.Proofs.YtgimmdnmndbcpaaGreatDoor
