/- Rows of pointers: those of which something holds are cut out; one is cut out. -/
import Derived.Test.YtgimmdnmndbcpaaGreatDoorR2
import Derived.Lib.SliceRun
import Derived.Deep.RegionLaw
set_option linter.unusedVariables false
set_option linter.unusedSimpArgs false
namespace Go.Proofs.YtgimmdnmndbcpaaGreatDoor
open Go.RowKit Jw Lab Go.Shelf

theorem blk_setCells {b : Nat} {t : TypeId} : ∀ (vs : List Value) (o : Nat) (w : World) (cs : Array Value), Blk w b cs t → o + vs.length ≤ cs.size →
    ∃ ds : Array Value, Blk (w.setCells b o vs) b ds t ∧ ds.toList = cs.toList.take o ++ vs ++ cs.toList.drop (o + vs.length)
  | [], o, w, cs, h, _ => ⟨cs, h, by simp⟩
  | v :: r, o, w, cs, h, hs => by
    have hs' : o + 1 + r.length ≤ cs.size := by simp at hs; omega
    obtain ⟨ds, h1, h2⟩ := blk_setCells r (o + 1) (w.setCell ⟨b, o, none⟩ v) (cs.setIfInBounds o v) (h.set o v) (by simpa using hs')
    refine ⟨ds, h1, ?_⟩
    rw [h2, Array.toList_setIfInBounds]
    have ho : o < cs.toList.length := by simp; omega
    have e1 : (cs.toList.set o v).take (o + 1) = cs.toList.take o ++ [v] := by
      rw [List.take_add_one, List.take_set_of_le (Nat.le_refl _), List.getElem?_set_self ho]; rfl
    have e2 : (cs.toList.set o v).drop (o + 1 + r.length) = cs.toList.drop (o + (v :: r).length) := by
      rw [List.drop_set_of_lt (by omega)]; congr 1; simp; omega
    rw [e1, e2]; simp
theorem Fp.setCells {S : Nat → Prop} {b : Nat} (hS : S b) : ∀ (vs : List Value) (o : Nat) (w : World), Fp S w (w.setCells b o vs)
  | [], o, w => Fp.refl _ _
  | v :: r, o, w => (Fp.set b o v w hS).then (Fp.setCells hS r (o + 1) _)
theorem zero57 : ∀ w, (zeroValue 65).run Tryz.prog w = .ok (.pointer none) w := by intro w; kernel_rfl

/-- An own row that is no nil, in its block. -/
theorem own_blk {w : World} {base n : Nat} {e : TypeId} {v : Value} {xs : List Value} (h : w.ownsRow base e 1 v n xs) (hn : 0 < n) :
    ∃ g cap cur, v = .slice (some ⟨g, 0, none⟩) n cap ∧ base ≤ g ∧ Blk w g cur e ∧ n ≤ cap ∧ cap ≤ maxLen ∧ cur.size = cap ∧ cur.toList.take n = xs := by
  obtain ⟨h1, ⟨rfl, h2⟩ | ⟨g, cap, cur, rfl, hb, hh, hc, hm, hs, ht⟩⟩ := h
  · omega
  · exact ⟨g, cap, cur, rfl, hb, hh, hc, hm, by simpa using hs, by simpa using ht⟩

set_option maxRecDepth 20000 in
set_option maxHeartbeats 2000000 in
theorem delf_any (g : FuncId) (eg : ∀ args w, (callFunc g args).run Tryz.prog w = .ok (.enter g args) w) (cap : Array Value) (f : Rt → Bool) (v : Value) (M : List (Nat × Rt)) (w : World) (hown : w.ownsRow 0 65 1 v M.length (pv M)) (hM : M.length ≤ 100000)
    (hp : Asks g cap f M (fun k => v.ownBlock = some k) w) :
    Calls Tryz.prog 49 #[v, .func (.func g) #[] cap] w fun e w' => ∃ v', e = .returned v' ∧ w'.ownsRow 0 65 1 v' (M.filter fun x => !f x.2).length (pv (M.filter fun x => !f x.2)) ∧ Fp (fun k => v.ownBlock = some k) w w' ∧ (∀ k, v'.ownBlock = some k → v.ownBlock = some k) := by
  have hix := idx_any g eg cap f v M w (Pr.own hown) (by omega) (fun w' h x hx => hp w' (h.mono (fun _ e => e.elim)) x hx)
  rcases idx_cases f M with ⟨hi, hno⟩ | ⟨k0, x0, hx0, hf0, hi, hno⟩
  · rw [hi] at hix
    have hfl : (M.filter fun x => !f x.2) = M := List.filter_eq_self.2 (fun x hx => by simp [hno x hx])
    rw [hfl]
    have HI := Lib.hid hix
    have HO := Lib.hid hown
    clear hp hix hi hno hfl hown
    go_enter Tryz.func49, Tryz.ntmps49
    go_wp2_with (go_at_call 60; refine HI.out.mono ?_; rintro e w' ⟨rfl, hB⟩)
    go_ret
    exact ⟨_, rfl, own_same HO.out (fun k hk => hB.block k (own_lo HO.out k hk).2), Fp.of_below hB, fun _ h => h⟩
  · rw [hi] at hix
    have hk0 : k0 < M.length := (List.getElem?_eq_some_iff.1 hx0).1
    obtain ⟨gg, c, cur, rfl, _, hbk, hnc, hcm, hcs, hct⟩ := own_blk hown (by omega)
    have hne1 : ((k0 : Int) == -1) = false := beq_eq_false_iff_ne.2 (by omega)
    have hstart : ∀ dk : Array Value, dk = cur → ((M.take (k0 + 1)).filter fun x => !f x.2).length = k0 ∧ dk.toList.take k0 = pv ((M.take (k0 + 1)).filter fun x => !f x.2) := by
      rintro dk rfl
      have h1 : M.take (k0 + 1) = M.take k0 ++ [x0] := by rw [List.take_add_one, hx0]; rfl
      have h2 : (M.take k0).filter (fun x => !f x.2) = M.take k0 := List.filter_eq_self.2 (fun x hx => by
        obtain ⟨j, hj, rfl⟩ := List.mem_take_iff_getElem.1 hx
        rw [hno j _ (by omega) (List.getElem?_eq_getElem (by omega))]; rfl)
      rw [h1, List.filter_append, h2]
      simp only [List.filter_cons, hf0, Bool.not_true, Bool.false_eq_true, if_false, List.filter_nil, List.append_nil]
      refine ⟨by simp; omega, ?_⟩
      rw [show pv (M.take k0) = (pv M).take k0 from by simp [pv, List.map_take], ← hct, List.take_take]
      congr 1; omega
    have HS := Lib.hid (hstart cur rfl)
    have HIX := Lib.hid hix
    have HP := Lib.hid hp
    have HO := Lib.hid hown
    have HCT := Lib.hid hct
    have HBK := Lib.hid hbk
    have HCS := Lib.hid hcs
    clear hp hix hi hno hown hct hbk hcs hstart hf0
    go_enter Tryz.func49, Tryz.ntmps49
    go_wp2_with (go_at_call 60; refine HIX.out.mono ?_; rintro e w1 ⟨rfl, hB⟩; have HB := Lib.hid hB; clear hB)
    go_loopw [5, 6, 7] (fun s5 s6 _ wr => ∃ (i j : Nat) (dk : Array Value), s5 = n64 i ∧ s6 = n64 j ∧ i < j ∧ j ≤ M.length ∧ Blk wr gg dk 65 ∧ Fp (fun k => (Value.slice (some ⟨gg, 0, none⟩) M.length c).ownBlock = some k) w wr ∧ dk.size = c ∧
        ((M.take j).filter fun x => !f x.2).length = i ∧ dk.toList.take i = pv ((M.take j).filter fun x => !f x.2) ∧ (∀ k x, j ≤ k → M[k]? = some x → dk[k]? = some (pp x.1))) (fun _ s6 _ _ => M.length - (intOf s6).toNat)
    case atStart =>
      refine ⟨k0, k0 + 1, cur, rfl, by go_num, by omega, by omega, HBK.out.below HB.out HBK.out.lt, Fp.of_below HB.out, HCS.out, HS.out.1, HS.out.2, fun k x _ hx => ?_⟩
      have hk : k < M.length := (List.getElem?_eq_some_iff.1 hx).1
      have := pv_at hx
      rw [← HCT.out, List.getElem?_take_of_lt hk] at this
      simpa using this
    case round =>
      obtain ⟨i, j, dk, rfl, rfl, hij, hj, hbr, hfp, hds, hil, htk, hrest⟩ := hrel
      by_cases hlj : j < M.length
      · obtain ⟨x, hx⟩ : ∃ x, M[j]? = some x := ⟨_, List.getElem?_eq_getElem hlj⟩
        have hcj : wr.cell? ⟨gg, j, none⟩ = some (pp x.1) := hbr.cell j _ (hrest j x (Nat.le_refl _) hx)
        have hcall := HP.out wr hfp x (List.mem_of_getElem? hx)
        have htj : M.take (j + 1) = M.take j ++ [x] := by rw [List.take_add_one, hx]; rfl
        obtain ⟨N, hN⟩ : ∃ N, N = (M.take j).filter fun x => !f x.2 := ⟨_, rfl⟩
        rw [← hN] at hil htk
        have hfil : ((M.take (j + 1)).filter fun x => !f x.2) = N ++ (if f x.2 then [] else [x]) := by
          rw [htj, List.filter_append, hN]; congr 1
          cases hq : f x.2 <;> simp [hq]
        have hlti : i < dk.size := by omega
        obtain ⟨old, hold⟩ : ∃ o, dk[i]? = some o := ⟨_, Array.getElem?_eq_getElem hlti⟩
        have HF := Lib.hid hfil
        have HBR := Lib.hid hbr
        have HFP := Lib.hid hfp
        have HR := Lib.hid hrest
        have HT := Lib.hid htk
        have HIL := Lib.hid hil
        have HD := Lib.hid hds
        have HOL := Lib.hid hold
        clear hfil hbr hfp hrest htk hN htj hx hds hold hil
        cases hq : f x.2 with
        | true =>
          rw [hq] at hcall HF
          clear hq
          go_wp2_with (go_at_fn g; refine hcall.mono ?_; rintro e w2 ⟨rfl, hB2⟩; have HB2 := Lib.hid hB2; clear hB2)
          go_roundw
          case rel =>
            have e : ((M.take (j + 1)).filter fun x => !f x.2) = N := by rw [HF.out]; simp
            refine ⟨i, j + 1, dk, rfl, by go_num, by omega, by omega, HBR.out.below HB2.out HBR.out.lt, HFP.out.then (Fp.of_below HB2.out), HD.out, by rw [e]; exact HIL.out, by rw [e]; exact HT.out, fun k y hk hy => HR.out k y (by omega) hy⟩
          case measure => simp [intOf]; omega
        | false =>
          rw [hq] at hcall HF
          clear hq
          go_wp2_with (go_at_fn g; refine hcall.mono ?_; rintro e w2 ⟨rfl, hB2⟩; have hb2 := HBR.out.below hB2 HBR.out.lt; have hci : w2.cell? ⟨gg, i, none⟩ = some old := hb2.cell i _ HOL.out; have hfi := hb2.free i; have HB2 := Lib.hid hB2; clear hB2; have Hb2 := Lib.hid hb2; clear hb2)
          go_roundw
          case rel =>
            have e : ((M.take (j + 1)).filter fun x => !f x.2) = N ++ [x] := by rw [HF.out]; simp
            refine ⟨i + 1, j + 1, dk.setIfInBounds i (pp x.1), by go_num, by go_num, by omega, by omega, Hb2.out.set i _, (HFP.out.then (Fp.of_below HB2.out)).then (Fp.set gg i _ _ rfl), by simp [HD.out], by rw [e]; simp [HIL.out], ?_, fun k y hk hy => ?_⟩
            · rw [e, pv_append, Array.toList_setIfInBounds, List.take_add_one, List.take_set_of_le (Nat.le_refl _), List.getElem?_set_self (by simpa using hlti), HT.out]; rfl
            · rw [Array.getElem?_setIfInBounds_ne (by omega)]
              exact HR.out k y (by omega) hy
          case measure => simp [intOf]; omega
      · obtain rfl : j = M.length := by omega
        rw [List.take_length] at hil htk
        have hic : i < c := by omega
        have hcl : ∀ ty, (Builtin.clear_ #[61] ty #[.slice (some ⟨gg, i, none⟩) (M.length - i) (c - i)]).run Tryz.prog wr = .ok (.tuple #[]) (wr.setCells gg i (List.replicate (M.length - i) (.pointer none))) :=
          fun ty => Lib.run_clear_slice wr 61 65 ty (.pointer none) Tryz.underlying61 zero57 rfl rfl gg i _ _ (by omega) (fun t ht => by rw [hbr.cell (i + t) dk[i + t] (Array.getElem?_eq_getElem (by omega))]; rfl) (fun t ht => hbr.free _)
        have HBR := Lib.hid hbr
        have HFP := Lib.hid hfp
        have HT := Lib.hid htk
        have HIL := Lib.hid hil
        have HD := Lib.hid hds
        clear hbr hfp hrest htk hil hds
        go_wp2
        go_ret
        have hil := HIL.out
        obtain ⟨ds, hb1, hb2⟩ := blk_setCells (List.replicate (M.length - i) (Value.pointer none)) i wr dk HBR.out (by simp; have := HD.out; omega)
        have hsz : ds.size = c := by
          have := congrArg List.length hb2
          have h2 := HD.out
          simp at this; omega
        refine ⟨_, rfl, ⟨by rw [pv_len, Nat.mul_one], .inr ⟨gg, c, ds, by rw [hil]; rfl, by omega, hb1, by omega, hcm, by rw [Nat.mul_one]; exact hsz, ?_⟩⟩, HFP.out.then (Fp.setCells (S := fun k => (Value.slice (some ⟨gg, 0, none⟩) M.length c).ownBlock = some k) (b := gg) rfl _ _ _), fun _ h => h⟩
        rw [hb2, ← HT.out, hil, Nat.mul_one, List.append_assoc, List.take_append_of_le_length (by simp; have := HD.out; omega), List.take_take]
        congr 1; omega

set_option maxRecDepth 20000 in
set_option maxHeartbeats 2000000 in
theorem delete_any (v : Value) (M : List (Nat × Rt)) (w : World) (hown : w.ownsRow 0 65 1 v M.length (pv M)) (i : Nat) (hi : i < M.length) (hM : M.length ≤ 100000) :
    Calls Tryz.prog 35 #[v, n64 i, n64 ((i : Int) + 1)] w fun e w' => ∃ v', e = .returned v' ∧ w'.ownsRow 0 65 1 v' (M.eraseIdx i).length (pv (M.eraseIdx i)) ∧ Fp (fun k => v.ownBlock = some k) w w' ∧ (∀ k, v'.ownBlock = some k → v.ownBlock = some k) := by
  obtain ⟨i0, hi0, hz0, hz1, hz2⟩ := info_parts' info57
  obtain ⟨gg, c, cur, rfl, _, hbk, hnc, hcm, hcs, hct⟩ := own_blk hown (by omega)
  have hcur : ∀ (k : Nat) (x : Nat × Rt), M[k]? = some x → cur[k]? = some (pp x.1) := fun k x hx => by
    have hk : k < M.length := (List.getElem?_eq_some_iff.1 hx).1
    have := pv_at hx
    rw [← hct, List.getElem?_take_of_lt hk] at this
    simpa using this
  obtain ⟨nw, hnw⟩ : ∃ nw, nw = pv (M.drop (i + 1)) := ⟨_, rfl⟩
  have hlen : nw.length = M.length - (i + 1) := by rw [hnw, pv_len]; simp
  obtain ⟨A, hA, hsrc⟩ : ∃ A : Addr, (if c = i + 1 then some (⟨gg, 0, none⟩ : Addr) else some ⟨gg, i + 1, none⟩) = some A ∧ Hid (∀ t u, nw[t]? = some u → w.drew.cell? (A.add t) = some u) := by
    by_cases h : c = i + 1
    · refine ⟨⟨gg, 0, none⟩, by simp [h], fun t u hu => ?_⟩
      have h0 : nw.length = 0 := by rw [hlen]; omega
      rw [List.length_eq_zero_iff.1 h0] at hu
      simp at hu
    · refine ⟨⟨gg, i + 1, none⟩, by simp [h], fun t u hu => ?_⟩
      rw [hnw, pv, List.getElem?_map, List.getElem?_drop] at hu
      cases hx : M[i + 1 + t]? with
      | none => rw [hx] at hu; simp at hu
      | some x =>
        rw [hx] at hu
        simp at hu
        rw [addr_add, ← hu]
        exact hbk.cell (i + 1 + t) _ (hcur _ x hx)
  have s1 := Lib.hid (show nw.length = (M.length - (i + 1)) * 1 by rw [Nat.mul_one]; exact hlen)
  have s2 := Lib.hid (show ∀ u ∈ nw, u.oneCell' = true by rw [hnw]; exact pv_cell _)
  have s3 := Lib.hid (show ∀ t, t < nw.length → (w.drew.cell? ⟨gg, 0 + i * 1 + t, none⟩).isSome = true ∧ w.drew.frozen? ⟨gg, 0 + i * 1 + t, none⟩ = false by
    intro t ht
    refine ⟨?_, hbk.free _⟩
    show (w.cell? _).isSome = true
    rw [hbk.cell (0 + i * 1 + t) cur[0 + i * 1 + t] (Array.getElem?_eq_getElem (by omega))]; rfl)
  obtain ⟨W1, hW1⟩ : ∃ W1, W1 = w.drew.setCells gg (0 + i * 1) nw := ⟨_, rfl⟩
  obtain ⟨ds, hb1, hb2⟩ := blk_setCells nw (0 + i * 1) w.drew cur hbk.drew (by omega)
  rw [← hW1] at hb1
  have hds : ds.size = c := by
    have := congrArg List.length hb2
    simp at this; omega
  obtain ⟨j, hj⟩ : ∃ j, j = i + (M.length - (i + 1)) := ⟨_, rfl⟩
  have hjM : j + 1 = M.length := by omega
  have hcl : ∀ ty, (Builtin.clear_ #[61] ty #[.slice (some ⟨gg, j, none⟩) (M.length - j) (c - j)]).run Tryz.prog W1 = .ok (.tuple #[]) (W1.setCells gg j (List.replicate (M.length - j) (.pointer none))) :=
    fun ty => Lib.run_clear_slice W1 61 65 ty (.pointer none) Tryz.underlying61 zero57 rfl rfl gg j _ _ (by omega) (fun t ht => by rw [hb1.cell (j + t) ds[j + t] (Array.getElem?_eq_getElem (by omega))]; rfl) (fun t ht => hb1.free _)
  rw [hj] at hcl
  have hic : i ≤ c := by omega
  have hwr : IntKind.i64.wrap ((i : Int) + 1) = (i : Int) + 1 := by rw [IntKind.wrap_i64]; omega
  have hp0 : (0 : Int) ≤ (i : Int) + 1 := by omega
  have hp1 : (i : Int) + 1 ≤ (M.length : Int) := by omega
  have hp3 : (i : Int) + 1 ≤ (c : Int) := by omega
  have hp2 : ((i : Int) + 1).toNat = i + 1 := by omega
  have hne : ((i : Int) == (i : Int) + 1) = false := beq_eq_false_iff_ne.2 (by omega)
  have HB1 := Lib.hid hb1
  have HB2 := Lib.hid hb2
  have HDS := Lib.hid hds
  have HW := Lib.hid hW1
  have HCT := Lib.hid hct
  have HNW := Lib.hid hnw
  have HBK := Lib.hid hbk
  have HJ := Lib.hid hj
  have HCS := Lib.hid hcs
  clear hb1 hb2 hds hW1 hct hnw hown hcur hbk hcs hlen hj hjM
  go_enter Tryz.func35, Tryz.ntmps35
  go_wp2_with fail
  go_region_law (refine step_append_room rfl (.tmp 22) (.tmp 25) 61 rfl 65 i0 1 Tryz.underlying61 hi0 hz1 gg 0 i c (by simp [Act.eval, Act.put]) A (M.length - (i + 1)) (c - (i + 1)) nw (by simp [Act.eval, Act.put]) s1.out hsrc.out s2.out (by omega) s3.out ?_; rw [← HW.out])
  go_wp2
  go_ret
  have hj := HJ.out
  have hds := HDS.out
  have hcs := HCS.out
  have hle : (M.eraseIdx i).length = j := by rw [List.length_eraseIdx_of_lt hi]; omega
  obtain ⟨es, he1, he2⟩ := blk_setCells (List.replicate (M.length - j) (Value.pointer none)) j W1 ds HB1.out (by simp; omega)
  have hes : es.size = c := by
    have := congrArg List.length he2
    simp at this; omega
  rw [← hj]
  refine ⟨_, rfl, ⟨by rw [pv_len, Nat.mul_one], .inr ⟨gg, c, es, by rw [hle]; rfl, by omega, he1, by omega, hcm, by rw [Nat.mul_one]; exact hes, ?_⟩⟩, ?_, fun _ h => h⟩
  · rw [he2, Nat.mul_one, hle, List.append_assoc, List.take_append_of_le_length (by simp; omega), List.take_take, Nat.min_self, HB2.out]
    rw [Nat.zero_add, Nat.mul_one, HNW.out, List.take_append_of_le_length (by simp [pv_len]; omega)]
    have e1 : cur.toList.take i = pv (M.take i) := by
      rw [show pv (M.take i) = (pv M).take i from by simp [pv, List.map_take], ← HCT.out, List.take_take]
      congr 1; omega
    rw [e1, ← pv_append, ← List.eraseIdx_eq_take_drop_succ, List.take_of_length_le (by rw [pv_len, hle]; exact Nat.le_refl _)]
  · have h1 : Fp (fun k => (Value.slice (some ⟨gg, 0, none⟩) M.length c).ownBlock = some k) w W1 := by
      rw [HW.out]
      exact (show Fp _ w w.drew from ⟨rfl, rfl, rfl, Nat.le_refl _, fun _ _ _ => rfl⟩).then (Fp.setCells (S := fun k => (Value.slice (some ⟨gg, 0, none⟩) M.length c).ownBlock = some k) (b := gg) rfl _ _ _)
    exact h1.then (Fp.setCells (S := fun k => (Value.slice (some ⟨gg, 0, none⟩) M.length c).ownBlock = some k) (b := gg) rfl _ _ _)
end Go.Proofs.YtgimmdnmndbcpaaGreatDoor
