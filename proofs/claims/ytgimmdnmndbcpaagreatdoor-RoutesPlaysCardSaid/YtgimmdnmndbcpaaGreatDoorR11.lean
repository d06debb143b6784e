/- Routes: Pick. -/
import Derived.Test.YtgimmdnmndbcpaaGreatDoorR10
set_option linter.unusedVariables false
set_option linter.unusedSimpArgs false
namespace Go.Proofs.YtgimmdnmndbcpaaGreatDoor
open Go.RowKit Jw Lab Go.Shelf Go.Deep
attribute [local go_sem] run_store_float

theorem idxOf_nod {l : List Nat} (h : l.Nodup) : ∀ {j a : Nat}, l[j]? = some a → l.idxOf a = j := by
  induction l with
  | nil => intro j a h; simp at h
  | cons x l ih =>
    intro j a ha
    rw [List.nodup_cons] at h
    cases j with
    | zero => simp at ha; subst ha; simp
    | succ j =>
      simp only [List.getElem?_cons_succ] at ha
      have hne : (x == a) = false := beq_eq_false_iff_ne.2 (fun e => h.1 (e ▸ List.mem_of_getElem? ha))
      rw [List.idxOf_cons, hne, cond_false, ih h.2 ha]
/-- Some routes turned, by their blocks. -/
theorem St.mapsx {t : Nat} {lv : Value} {M : List (Nat × Rt)} {w w' : World} (h : St t lv M w) (f : Nat × Rt → Rt) (hb : ∀ x ∈ M, Blk w' x.1 (rc (f x)) 67) (hf : Fp (fun k => ∃ x ∈ M, k = x.1) w w') : Nx t lv M w w' (M.map f) := by
  have hap := h.apart
  have hfst : (M.map fun x => (x.1, f x)).map Prod.fst = M.map Prod.fst := by simp
  have hpv : pv (M.map fun x => (x.1, f x)) = pv M := by simp [pv]
  refine ⟨lv, M.map fun x => (x.1, f x), by simp, ⟨hf.blk h.blk (fun ⟨x, hx, e⟩ => hap.1 x hx e.symm), ?_, fun y hy => ?_, by rw [hfst]; exact h.nod⟩, hf.mono (fun k ⟨x, hx, e⟩ => .inr (.inr (List.mem_map.2 ⟨x, hx, e.symm⟩))), fun k hk => ?_⟩
  · rw [hpv, List.length_map]
    exact own_same h.own (fun g hg => hf.other g (own_lo h.own g hg).2 (fun ⟨x, hx, e⟩ => hap.2.2 x hx (by rw [hg, e])))
  · obtain ⟨x, hx, rfl⟩ := List.mem_map.1 hy
    exact hb x hx
  · rcases hk with e | e | e
    · exact .inl (.inl e)
    · exact .inl (.inr (.inl e))
    · rw [hfst] at e; exact .inl (.inr (.inr e))
theorem nod_eq {M : List (Nat × Rt)} (h : (M.map Prod.fst).Nodup) {x y : Nat × Rt} (hx : x ∈ M) (hy : y ∈ M) (e : x.1 = y.1) : x = y := by
  obtain ⟨i1, hi1, rfl⟩ := List.mem_iff_getElem.1 hx
  obtain ⟨i2, hi2, rfl⟩ := List.mem_iff_getElem.1 hy
  have := nod_at h (List.getElem?_eq_getElem hi1) (List.getElem?_eq_getElem hi2) e
  subst this; rfl

theorem info72 : (Tryz.prog.info? 83).map (fun i => (i.zero, i.size, i.bytes)) = some (some (.agg #[.float .f64 0, .float .f64 0]), 2, 16) := by kernel_rfl
/-- Shares of routes. -/
def shM (M : List (Nat × Rt)) : List (Nat × Nat) := M.map fun x => (x.2.wt, x.2.tn)
theorem shM_shF (M : List (Nat × Rt)) : shM M = shF (M.map Prod.snd) := by simp [shM, shF]
theorem shs_append (l m : List (Nat × Nat)) : shs (l ++ m) = shs l ++ shs m := by
  induction l with
  | nil => rfl
  | cons s l ih => simp [shs, ih]

/-- What Pick writes. -/
def pkF (F : List (Nat × Rt)) (ts : List Nat) (j : Nat) (x : Nat × Rt) : Rt := if x.1 ∈ (F.take j).map Prod.fst then tnR (ts.getD ((F.map Prod.fst).idxOf x.1) 0) x.2 else x.2

set_option maxRecDepth 20000 in
set_option maxHeartbeats 4000000 in
theorem picks_any {K : Nat → Prop} {t : Nat} {lv : Value} {M : List (Nat × Rt)} {w : World} {ads : Nat → Addr} {m : Int} (hs : St t lv M w) (hg : Gw K w ads m) (hM : M.length ≤ 800) (p : List UInt8) (hl : p.length < 4294967281) (v : Value) (zs : List Int) (hv : Ri w v zs) (hz : zs.length ≤ 9223372036854775807) :
    Calls Tryz.prog 22 #[pp t, .string (bs p), v] w fun e w' => e = .returned (.tuple #[n64 (pickL p zs (M.map Prod.snd)).1.1, ev ads (pickL p zs (M.map Prod.snd)).1.2]) ∧ Nx t lv M w w' (pickL p zs (M.map Prod.snd)).2 := by
  have hmf : ∀ (fn : Fn) (first cap : Array Value) (w : World), (Instr.makeFunc fn first cap).run Tryz.prog w = .ok (.func fn first cap) w := fun _ _ _ _ => rfl
  obtain ⟨w1, hw1⟩ : ∃ w1, w1 = (w.alloc (.cells #[.string (bs p)] 9)).alloc (.cells #[v] 32) := ⟨_, rfl⟩
  have hb1 : Below w.heap.size w w1 := by rw [hw1]; exact ((Below.refl _ _).alloc (Nat.le_refl _) _).alloc (by simp) _
  have hsz1 : w1.heap.size = w.heap.size + 2 := by rw [hw1]; simp
  have h1 : w1.cell? ⟨w.heap.size, 0, none⟩ = some (.string (bs p)) := by rw [hw1]; exact ((blk_new w _ 9).alloc _).cell 0 _ rfl
  have h2 : w1.cell? ⟨w.heap.size + 1, 0, none⟩ = some v := by
    rw [hw1]
    have := (blk_new (w.alloc (.cells #[.string (bs p)] 9)) #[v] 32).cell 0 _ rfl
    simp
  have hs1 := hs.below hb1
  have hg1 := hg.below hb1
  have hvb : ∀ b off n c, v = .slice (some ⟨b, off, none⟩) n c → zs.length ≠ 0 → b < w.heap.size := by
    intro b off n c e hn
    obtain ⟨ao, cap, e2, h⟩ := hv
    obtain ⟨b', off', rfl, hlt, _⟩ := h hn
    rw [e2] at e
    injection e with e
    injection e with e
    injection e with e
    omega
  have hcc := check_any p hl (ads 9) m w1 hg1.gl
  have HV := Lib.hid hv
  have HVB := Lib.hid hvb
  have HB := Lib.hid hb1
  have HW := Lib.hid hw1
  have HS := Lib.hid hs
  have HG := Lib.hid hg
  obtain ⟨aov, capv, rfl, _⟩ := hv
  cases hpk : patOk p with
  | false =>
    have hr : pickL p zs (M.map Prod.snd) = ((0, some 9), M.map Prod.snd) := by rw [pickL, hpk]; rfl
    rw [hr]
    rw [hpk] at hcc
    have HC := Lib.hid (show Calls Tryz.prog 45 #[.string (bs p)] w1 fun e w' => e = .returned (.iface 126 (.pointer (some (ads 9)))) ∧ Below w1.heap.size w1 w' from hcc)
    have HG1 := Lib.hid hg1
    rw [hw1] at h1 h2
    clear hs hg hb1 hs1 hg1 hw1 hpk hcc hr hsz1 hvb
    go_enter Tryz.func22, Tryz.ntmps22
    go_upto_region 2 with (go_at_call 45; rw [← HW.out]; refine HC.out.mono ?_; rintro e w2 ⟨rfl, hB⟩; have hc := (HG1.out.below hB).gl.name; have HB2 := Lib.hid (below_all HB.out hB); clear hB)
    go_quiet (fail)
    go_wp2
    go_ret2
    exact ⟨rfl, Nx.of_below HS.out ⟨HB2.out.os, HB2.out.tape, HB2.out.output, HB2.out.size, HB2.out.block⟩⟩
  | true =>
    rw [hpk] at hcc
    have HC := Lib.hid (show Calls Tryz.prog 45 #[.string (bs p)] w1 fun e w' => e = .returned .nilIface ∧ Below w1.heap.size w1 w' from hcc)
    obtain ⟨N, hN⟩ : ∃ N, N = M.filter fun x => pickR p x.2 := ⟨_, rfl⟩
    obtain ⟨F, hF⟩ : ∃ F, F = M.filter fun x => freeR p zs x.2 := ⟨_, rfl⟩
    have hFN : N.filter (fun x => !busyR zs x.2) = F := by rw [hN, hF, free_filter]
    have hNl : N.length ≤ M.length := by rw [hN]; exact List.length_filter_le _ _
    have hFl : F.length ≤ M.length := by rw [hF]; exact List.length_filter_le _ _
    have eN : ((M.map Prod.snd).filter (pickR p)) = N.map Prod.snd := by rw [hN, List.filter_map]; rfl
    have eF : ((M.map Prod.snd).filter (freeR p zs)) = F.map Prod.snd := by rw [hF, List.filter_map]; rfl
    have hNM : ∀ x ∈ N, x ∈ M := fun x hx => by rw [hN] at hx; exact (List.mem_filter.1 hx).1
    have hFM : ∀ x ∈ F, x ∈ M := fun x hx => by rw [hF] at hx; exact (List.mem_filter.1 hx).1
    have HOF := Lib.hid (fun (w2 : World) (hB : Below w1.heap.size w1 w2) => by
      have hc2 : w2.cell? ⟨w.heap.size, 0, none⟩ = some (.string (bs p)) := (hB.cell (p := ⟨w.heap.size, 0, none⟩) (by rw [hsz1]; show w.heap.size < _; omega)).trans h1
      have := of_any 47 en32 #[pp w.heap.size] (pickR p) t lv M w2 ((hs1.below hB).blk.cell 0 _ rfl) (Pr.own (hs1.below hB).own) (by omega) (asks32 (hs1.below hB).rts hc2 (fun e => e) (fun _ _ e => e))
      rw [← hN] at this
      exact this)
    have HDF := Lib.hid (fun (w2 w3 : World) (v1 : Value) (hB : Below w1.heap.size w1 w2) (hB3 : Below w2.heap.size w2 w3) (hO : w3.ownsRow w2.heap.size 65 1 v1 N.length (pv N)) => by
      have hb3 := below_all hB hB3
      have hsz2 := hB.size
      have hc3 : w3.cell? ⟨w.heap.size + 1, 0, none⟩ = some _ := (hb3.cell (p := ⟨w.heap.size + 1, 0, none⟩) (by rw [hsz1]; show w.heap.size + 1 < _; omega)).trans h2
      have := delf_any 50 en34 #[pp (w.heap.size + 1)] (busyR zs) v1 N w3 (own_base hO (by omega)) (by omega) (asks34 hz (fun x hx => (hs1.below hb3).rts x (hNM x hx)) hc3 ((HV.out.below hb1).below hb3) (fun b off n c e hn hk => by
        have h3 := HVB.out b off n c e hn
        have h4 := (own_lo hO b hk).1
        omega) (fun hk => by
        have h4 := (own_lo hO _ hk).1
        omega) (fun x hx hk => by
        have h4 := (own_lo hO _ hk).1
        have h5 := (hs.rts x (hNM x hx)).lt
        omega))
      rw [hFN] at this
      exact this)
    rw [hw1] at h1 h2
    by_cases hN0 : N.length = 0
    · have hr : pickL p zs (M.map Prod.snd) = ((0, some 11), M.map Prod.snd) := by rw [pickL, hpk, if_pos rfl, eN, if_pos (by rw [List.length_map]; exact hN0)]
      rw [hr]
      have HG1 := Lib.hid hg1
      clear hs hg hb1 hs1 hg1 hw1 hpk hcc hr hsz1 hvb hN hF hFN eN eF hNM hFM
      go_enter Tryz.func22, Tryz.ntmps22
      go_upto_region 5 with (first | (go_at_call 45; rw [← HW.out]; refine HC.out.mono ?_; rintro e w2 ⟨rfl, hB⟩; have HB2 := Lib.hid hB; clear hB; have HI := Lib.hid (HOF.out w2 HB2.out)) | (go_at_call 46; refine HI.out.mono ?_; rintro e w3 ⟨v1, rfl, hO, hB⟩; have hc := (HG1.out.below (below_all HB2.out hB)).er 11 (by decide); have HB3 := Lib.hid (below_all HB.out (below_all HB2.out hB)); clear hB; obtain ⟨ao1, c1, hv1, _⟩ := Pr.own hO; subst hv1; clear hO))
      go_quiet (fail)
      go_wp2
      go_ret2
      exact ⟨rfl, Nx.of_below HS.out ⟨HB3.out.os, HB3.out.tape, HB3.out.output, HB3.out.size, HB3.out.block⟩⟩
    · by_cases hF0 : F.length = 0
      · have hr : pickL p zs (M.map Prod.snd) = ((0, some 17), M.map Prod.snd) := by rw [pickL, hpk, if_pos rfl, eN, if_neg (by rw [List.length_map]; exact hN0), eF, if_pos (by rw [List.length_map]; exact hF0)]
        rw [hr]
        have HG1 := Lib.hid hg1
        have HSZ := Lib.hid hsz1
        clear hs hg hb1 hs1 hg1 hw1 hpk hcc hr hsz1 hvb hN hF hFN eN eF hNM hFM
        go_enter Tryz.func22, Tryz.ntmps22
        go_upto_region 8 with (first | (go_at_call 45; rw [← HW.out]; refine HC.out.mono ?_; rintro e w2 ⟨rfl, hB⟩; have HB2 := Lib.hid hB; clear hB; have HI := Lib.hid (HOF.out w2 HB2.out)) | (go_at_call 46; refine HI.out.mono ?_; rintro e w3 ⟨v1, rfl, hO, hB⟩; have HD := Lib.hid (HDF.out w2 w3 v1 HB2.out hB hO); have HB3 := Lib.hid (below_all HB2.out hB); clear hB; have HO3 := Lib.hid hO; obtain ⟨ao1, c1, hv1, _⟩ := Pr.own hO; subst hv1; clear hO) | (go_at_call 49; refine HD.out.mono ?_; rintro e w4 ⟨v2, rfl, hO, hF4, hob⟩; have HB4 := Lib.hid (HB3.out.trans (hF4.below (fun k hk => Nat.le_trans HB2.out.size (own_lo HO3.out k hk).1) HB3.out.size)); have hc := (HG1.out.below HB4.out).er 17 (by decide); obtain ⟨ao2, c2, hv2, _⟩ := Pr.own hO; subst hv2; clear hO hF4 hob))
        go_quiet (fail)
        go_wp2
        go_ret2
        exact ⟨rfl, Nx.of_below HS.out (let hB := below_all HB.out HB4.out; ⟨hB.os, hB.tape, hB.output, hB.size, hB.block⟩)⟩
      · obtain ⟨out, hout⟩ : ∃ o, o = (pickW (shM F)).2 := ⟨_, rfl⟩
        have houtl : out.length = F.length := by rw [hout, pickW]; simp [newL_length, shM]
        obtain ⟨n, hn⟩ : ∃ n : Nat, (pickW (shM F)).1 = n := by
          have := (bestTo_range (trnW (shM F)) (shM F).length).2.2 (by simp [shM]; omega)
          exact ⟨_, (Int.toNat_of_nonneg this).symm⟩
        have hnl : n < F.length := by
          have h3 := (bestTo_range (trnW (shM F)) (shM F).length).2.1
          have h4 : (pickW (shM F)).1 = bestTo (trnW (shM F)) (shM F).length := rfl
          rw [h4] at hn
          simp only [shM, List.length_map] at h3 hn
          omega
        obtain ⟨z, hzn⟩ : ∃ z, F[n]? = some z := ⟨_, List.getElem?_eq_getElem hnl⟩
        have hr : pickL p zs (M.map Prod.snd) = ((z.2.ag, none), M.map (pkF F (out.map Prod.snd) F.length)) := by
          rw [pickL, hpk, if_pos rfl, eN, if_neg (by rw [List.length_map]; exact hN0), eF, if_neg (by rw [List.length_map]; exact hF0), ← shM_shF, hn, ← hout]
          have e1 : (F.map Prod.snd).getD (n : Int).toNat default = z.2 := by simp [hzn]
          rw [e1, ← setT_map (freeR p zs) M (out.map Prod.snd) hs.nod (by rw [List.length_map, houtl, hF]), ← hF]
          have e2 : pkF F (out.map Prod.snd) F.length = fun x => if x.1 ∈ F.map Prod.fst then tnR ((out.map Prod.snd).getD ((F.map Prod.fst).idxOf x.1) 0) x.2 else x.2 := by funext x; rw [pkF, List.take_length]
          rw [e2]
        rw [hr]
        obtain ⟨i0, hi, hz0, hz1, hz2⟩ := info_parts' info72
        have hFz : ((F.length : Int) == 0) = false := beq_eq_false_iff_ne.2 (by omega)
        have hNz : ((N.length : Int) == 0) = false := beq_eq_false_iff_ne.2 (by omega)
        have hFn : (F.map Prod.fst).Nodup := by rw [hF]; exact hs.nod.sublist (List.filter_sublist.map _)
        have HZN := Lib.hid hzn
        have HNN := Lib.hid hn
        have HFN := Lib.hid hFn
        have HFM := Lib.hid hFM
        have HOUT := Lib.hid hout
        clear hs hg hb1 hs1 hg1 hw1 hpk hcc hr hsz1 hvb hN hF hFN eN eF hNM hFM hout hn hzn hFn
        go_enter Tryz.func22, Tryz.ntmps22
        go_wp2_with (first | (go_at_call 45; rw [← HW.out]; refine HC.out.mono ?_; rintro e w2 ⟨rfl, hB⟩; have HB2 := Lib.hid hB; clear hB; have HI := Lib.hid (HOF.out w2 HB2.out)) | (go_at_call 46; refine HI.out.mono ?_; rintro e w3 ⟨v1, rfl, hO, hB⟩; have HD := Lib.hid (HDF.out w2 w3 v1 HB2.out hB hO); have HB3 := Lib.hid (below_all HB2.out hB); clear hB; have HO3 := Lib.hid hO; obtain ⟨ao1, c1, hv1, _⟩ := Pr.own hO; subst hv1; clear hO) | (go_at_call 49; refine HD.out.mono ?_; rintro e w4 ⟨v2, rfl, hO, hF4, hob⟩; have HB4 := Lib.hid (below_all HB.out (HB3.out.trans (hF4.below (fun k hk => Nat.le_trans HB2.out.size (own_lo HO3.out k hk).1) HB3.out.size))); have HST4 := Lib.hid (HS.out.below HB4.out); have HVO := Lib.hid (fun k hk => (own_lo HO3.out k (hob k hk)).1); have HO4 := Lib.hid hO; obtain ⟨ao2, c2, hv2, hao2⟩ := Pr.own hO; subst hv2; have HAO := Lib.hid hao2; clear hO hF4 hob hao2))
        have hb2s := HB2.out.size
        have hb1s := HB.out.size
        obtain ⟨gg, hgo, hgg, hgc⟩ := HAO.out (by omega)
        subst hgo
        have HGC := Lib.hid hgc
        have hggb : w2.heap.size ≤ gg := HVO.out gg rfl
        clear hgc
        go_loopw [10, 12, 36] (fun sv _ i wr => ∃ k : Nat, k ≤ F.length ∧ i = n64 k ∧ Below w4.heap.size w4 wr ∧ wr.ownsRow w4.heap.size 83 2 sv k (shs (shM (F.take k)))) (fun _ _ i _ => F.length - (intOf i).toNat)
        case atStart => exact ⟨0, by omega, rfl, Below.refl _ _, World.ownsRow_nil _ _ _ _⟩
        case round =>
          obtain ⟨k, hk, rfl, hb, hown⟩ := hrel
          by_cases hlk : k < F.length
          · obtain ⟨x, hx⟩ : ∃ x, F[k]? = some x := ⟨_, List.getElem?_eq_getElem hlk⟩
            have hcx : wr.cell? ⟨gg, k, none⟩ = some (pp x.1) := (hb.cell (p := ⟨gg, k, none⟩) hgg).trans (HGC.out k x hx)
            have hbk : Blk wr x.1 (rc x.2) 67 := (HST4.out.below hb).rts x (HFM.out x (List.mem_of_getElem? hx))
            have q2 : wr.cell? ⟨x.1, 2, none⟩ = some (fl x.2.wt) := hbk.cell 2 _ rfl
            have q5 : wr.cell? ⟨x.1, 5, none⟩ = some (fl x.2.tn) := hbk.cell 5 _ rfl
            have htk : shs (shM (F.take (k + 1))) = shs (shM (F.take k)) ++ [fl x.2.wt, fl x.2.tn] := by
              rw [List.take_add_one, hx]
              simp [shM, shs_append, shs]
            have hsz : w4.heap.size ≤ wr.heap.size := hb.size
            have HT := Lib.hid htk
            have HP := Lib.hid hown
            have HBR := Lib.hid hb
            clear htk hown hb hbk hx
            go_upto_region 13 with fail
            go_region_law (refine step_append_lies _ rfl (.tmp 40) (.tmp 51) 81 rfl w4.heap.size 83 i0 _ 2 16 Tryz.underlying81 hi hz0 hz1 hz2 rfl (by decide) _ _ _ rfl (by exact HP.out.alloc _) ⟨wr.heap.size, 0, none⟩ 1 1 [fl x.2.wt, fl x.2.tn] rfl rfl (by intro j u hj; match j, hj with
              | 0, hj => (simp at hj; subst hj; simp [Addr.add])
              | 1, hj => (simp at hj; subst hj; simp [Addr.add])) (by intro u hu; simp at hu; rcases hu with rfl | rfl <;> rfl) (by decide) (by unfold maxLen; omega) (by omega) (by simp; omega) _ rfl (fun g cp w5 hown' hgrow hat hlt2 => ?_))
            all_goals
              have HO5 := Lib.hid (show w5.ownsRow w4.heap.size 83 2 _ (k + 1) (shs (shM (F.take (k + 1)))) by rw [HT.out]; exact hown')
              have HB5 := Lib.hid (((HBR.out.drew).alloc hsz (.cells #[fl x.2.wt, fl x.2.tn] 83)).grown hgrow (by simp; omega) (fun g' hg' => (own_lo HP.out _ (by exact hg')).1))
              clear hown' hgrow hat
              clear q2 q5 hcx
              go_wp2_with fail
              go_roundw
              case rel =>
                exact ⟨k + 1, by omega, by go_num, HB5.out, HO5.out⟩
              case measure => simp [intOf]; omega
          · obtain rfl : k = F.length := by omega
            rw [List.take_length] at hown
            have hst5 := HST4.out.below hb
            have HP := Lib.hid (pick_any _ (shM F) wr (OwnS.of_row (l := shM F) (by simpa [shM] using hown)).read (by simp [shM]; omega))
            have HB5 := Lib.hid hb
            obtain ⟨ao4, cp4, hv4⟩ : ∃ ao cp, u10 = .slice ao F.length cp := by
              obtain ⟨_, ⟨rfl, h⟩ | ⟨g', cap', cur, rfl, _⟩⟩ := hown
              · exact ⟨_, _, by rw [h]⟩
              · exact ⟨_, _, rfl⟩
            subst hv4
            rw [HNN.out, ← HOUT.out] at HP
            have HST5 := Lib.hid hst5
            have hgc5 := Lib.hid (show ∀ k x, F[k]? = some x → wr.cell? ⟨gg, k, none⟩ = some (pp x.1) from fun k x hx => (hb.cell (p := ⟨gg, k, none⟩) hgg).trans (HGC.out k x hx))
            have hggr : gg < wr.heap.size := Nat.lt_of_lt_of_le hgg hb.size
            clear hown hb hst5
            go_wp2_with (go_at_call 52; refine HP.out.mono ?_; rintro e w6 ⟨v6, rfl, hO6, hB6⟩; have HO6 := Lib.hid hO6; obtain ⟨ao6, cp6, hv6, _⟩ := hO6.read; subst hv6; have HB6 := Lib.hid hB6; clear hO6 hB6)
            have HST6 := Lib.hid (HST5.out.below HB6.out)
            have hMlt : ∀ x ∈ M, x.1 < w.heap.size := fun x hx => (HS.out.rts x hx).lt
            have hwr : w.heap.size ≤ wr.heap.size := by have := HB4.out.size; have := HB5.out.size; omega
            have hgg6 : gg < w6.heap.size := Nat.lt_of_lt_of_le hggr HB6.out.size
            have hgc6 : ∀ k x, F[k]? = some x → w6.cell? ⟨gg, k, none⟩ = some (pp x.1) := fun k x hx => (HB6.out.cell (p := ⟨gg, k, none⟩) hggr).trans (hgc5.out k x hx)
            rcases HO6.out with ⟨e6, h6⟩ | ⟨g6, cq6, rest, e6, hg6, hb6⟩
            · rw [h6] at houtl; simp at houtl; omega
            injection e6 with e7 e8 e9
            subst e7 e9
            have hg6w : w.heap.size ≤ g6 := by omega
            have HMLT := Lib.hid hMlt
            have HGC6 := Lib.hid hgc6
            have HB66 := Lib.hid hb6
            clear e8 hgc6 hb6 hMlt
            go_loopw [14, 15, 61] (fun _ _ i w7 => ∃ j : Nat, j ≤ F.length ∧ i = n64 j ∧ Fp (fun k => ∃ x ∈ M, k = x.1) w6 w7 ∧ ∀ x ∈ M, Blk w7 x.1 (rc (pkF F (out.map Prod.snd) j x)) 67) (fun _ _ i _ => F.length - (intOf i).toNat)
            case atStart => exact ⟨0, by omega, rfl, Fp.refl _ _, fun x hx => by simpa [pkF] using HST6.out.rts x hx⟩
            case round =>
              obtain ⟨j, hj, rfl, hfp, hbk⟩ := hrel
              have hsep : ∀ b, w.heap.size ≤ b → ¬ ∃ x ∈ M, b = x.1 := fun b hb ⟨x, hx, e⟩ => by have := HMLT.out x hx; omega
              have HSEP := Lib.hid hsep
              have HFP := Lib.hid hfp
              have HBK := Lib.hid hbk
              clear hfp hbk hsep
              have hggw : w.heap.size ≤ gg := by omega
              by_cases hlj : j < F.length
              · obtain ⟨y, hy⟩ : ∃ y, F[j]? = some y := ⟨_, List.getElem?_eq_getElem hlj⟩
                obtain ⟨s, hs⟩ : ∃ s, out[j]? = some s := ⟨_, List.getElem?_eq_getElem (by omega)⟩
                have hyM : y ∈ M := HFM.out y (List.mem_of_getElem? hy)
                have hcy := (HFP.out.cell (p := ⟨gg, j, none⟩) hgg6 (HSEP.out gg hggw)).trans (HGC6.out j y hy)
                have hny : y.1 ∉ (F.take j).map Prod.fst := fun hm => by
                  obtain ⟨z2, hz2, e⟩ := List.mem_map.1 hm
                  obtain ⟨i, hi, rfl⟩ := List.mem_take_iff_getElem.1 hz2
                  have := nod_at HFN.out (List.getElem?_eq_getElem (by omega)) hy e
                  omega
                have hby := HBK.out y hyM
                rw [pkF, if_neg hny] at hby
                have q5 := hby.cell 5 _ rfl
                have f5 := hby.free 5
                have hcs := (HFP.out.blk HB66.out (HSEP.out g6 hg6w)).cell (j * 2 + 1) (fl s.2) (by
                  have h1 := (shs_at out j (by omega)).2
                  have h2 := shs_length out
                  simp only [List.getElem?_toArray]
                  rw [List.getElem?_append_left (by omega), h1, List.getD_eq_getElem?_getD, hs]; rfl)
                have hmem : ∀ x ∈ M, x.1 ≠ y.1 → pkF F (out.map Prod.snd) (j + 1) x = pkF F (out.map Prod.snd) j x := fun x hx hxy => by
                  have e : (x.1 ∈ (F.take (j + 1)).map Prod.fst) = (x.1 ∈ (F.take j).map Prod.fst) := by
                    rw [List.take_add_one, hy, List.map_append]
                    apply propext
                    rw [List.mem_append]
                    exact ⟨fun h => h.elim id (fun h => by simp at h; exact absurd h hxy), .inl⟩
                  simp only [pkF, e]
                have hself : pkF F (out.map Prod.snd) (j + 1) y = tnR s.2 y.2 := by
                  rw [pkF, if_pos (by rw [List.take_add_one, hy, List.map_append]; simp), idxOf_nod HFN.out (show (F.map Prod.fst)[j]? = some y.1 by rw [List.getElem?_map, hy]; rfl)]
                  congr 1
                  rw [List.getD_eq_getElem?_getD, List.getElem?_map, hs]; rfl
                have hjo : j < out.length := by omega
                have HBY := Lib.hid hby
                have HMEM := Lib.hid hmem
                have HSELF := Lib.hid hself
                clear hby hmem hself hny hy hs
                go_wp2_with fail
                go_roundw
                case rel =>
                  refine ⟨j + 1, by omega, by go_num, HFP.out.then (Fp.set y.1 5 _ _ ⟨y, hyM, rfl⟩), fun x hx => ?_⟩
                  by_cases hxy : x.1 = y.1
                  · have := nod_eq HS.out.nod hx hyM hxy
                    subst this
                    rw [HSELF.out]
                    exact HBY.out.set 5 _
                  · rw [HMEM.out x hx hxy]
                    exact (HBK.out x hx).set_other _ _ hxy
                case measure => simp [intOf]; omega
              · obtain rfl : j = F.length := by omega
                have hzM : z ∈ M := HFM.out z (List.mem_of_getElem? HZN.out)
                have hcz := (HFP.out.cell (p := ⟨gg, n, none⟩) hgg6 (HSEP.out gg hggw)).trans (HGC6.out n z HZN.out)
                have hq1 := (HBK.out z hzM).cell 1 (n64 z.2.ag) (by rw [pkF]; split <;> rfl)
                have HR := Lib.hid (HST6.out.mapsx _ HBK.out HFP.out)
                have HB8 := Lib.hid (HB4.out.trans ((HB5.out.trans (HB6.out.mono HB5.out.size)).mono HB4.out.size))
                go_wp2_with fail
                go_ret2
                exact ⟨rfl, Nx.of_fp HB8.out HR.out⟩
end Go.Proofs.YtgimmdnmndbcpaaGreatDoor
