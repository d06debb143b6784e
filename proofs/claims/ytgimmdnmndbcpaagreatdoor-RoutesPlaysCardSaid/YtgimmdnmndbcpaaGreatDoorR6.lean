/- Routes: Register, Drain, Leave. -/
import Derived.Test.YtgimmdnmndbcpaaGreatDoorR5
set_option linter.unusedVariables false
set_option linter.unusedSimpArgs false
namespace Go.Proofs.YtgimmdnmndbcpaaGreatDoor
open Go.RowKit Jw Lab Go.Shelf
attribute [local go_sem] run_store_float

theorem nod_at {M : List (Nat × Rt)} (h : (M.map Prod.fst).Nodup) {i j : Nat} {x y : Nat × Rt} (hx : M[i]? = some x) (hy : M[j]? = some y) (e : x.1 = y.1) : i = j := by
  obtain ⟨hi, rfl⟩ := List.getElem?_eq_some_iff.1 hx
  obtain ⟨hj, rfl⟩ := List.getElem?_eq_some_iff.1 hy
  exact (List.getElem_inj (h₀ := by simpa using hi) (h₁ := by simpa using hj) h).1 (by simpa using e)

/-- One route turned. -/
theorem St.upd {t : Nat} {lv : Value} {M : List (Nat × Rt)} {w w' : World} (h : St t lv M w) {k : Nat} {x : Nat × Rt} (hx : M[k]? = some x) {r : Rt} (hb : Blk w' x.1 (rc r) 67) (hf : Fp (fun b => b = x.1) w w') :
    Nx t lv M w w' ((M.map Prod.snd).set k r) := by
  have hk : k < M.length := (List.getElem?_eq_some_iff.1 hx).1
  have hxm : x ∈ M := List.mem_of_getElem? hx
  have hap := h.apart
  have hfst : (M.set k (x.1, r)).map Prod.fst = M.map Prod.fst := by
    rw [List.map_set]
    have : (M.map Prod.fst)[k]? = some x.1 := by rw [List.getElem?_map, hx]; rfl
    obtain ⟨h1, h2⟩ := List.getElem?_eq_some_iff.1 this
    rw [← h2]
    exact List.set_getElem_self h1
  have hpv : pv (M.set k (x.1, r)) = pv M := by
    have e : ∀ N : List (Nat × Rt), pv N = (N.map Prod.fst).map pp := fun N => by simp [pv]
    rw [e, e, hfst]
  refine ⟨lv, M.set k (x.1, r), by rw [List.map_set], ⟨hf.blk h.blk (fun e => hap.1 x hxm e.symm), ?_, ?_, by rw [hfst]; exact h.nod⟩, hf.mono (fun b e => .inr (.inr (List.mem_map.2 ⟨x, hxm, e.symm⟩))), fun b hb => ?_⟩
  · rw [hpv, List.length_set]
    exact own_same h.own (fun g hg => hf.other g (own_lo h.own g hg).2 (fun e => hap.2.2 x hxm (by rw [hg, e])))
  · intro y hy
    obtain ⟨j, hj, rfl⟩ := List.mem_iff_getElem.1 hy
    rw [List.getElem_set]
    split
    · exact hb
    · rename_i hne
      have hj' : j < M.length := by simpa using hj
      refine hf.blk (h.rts _ (List.getElem_mem hj')) (fun e => hne ?_)
      exact (nod_at h.nod hx (List.getElem?_eq_getElem hj') e.symm)
  · rcases hb with e | e | e
    · exact .inl (.inl e)
    · exact .inl (.inr (.inl e))
    · rw [hfst] at e; exact .inl (.inr (.inr e))
theorem Nx.of_fp {t : Nat} {lv : Value} {M : List (Nat × Rt)} {w w1 w' : World} {L' : List Rt} (hb : Below w.heap.size w w1) (h : Nx t lv M w1 w' L') : Nx t lv M w w' L' := by
  obtain ⟨lv', M', h1, h2, h3, h4⟩ := h
  refine ⟨lv', M', h1, h2, (Fp.of_below hb).trans h3 (fun k e => .inl e), fun k hk => ?_⟩
  rcases h4 k hk with h | h
  · exact .inl h
  · exact .inr (Nat.le_trans hb.size h)
/-- The row of pointers turned. -/
theorem St.row {t : Nat} {lv : Value} {M : List (Nat × Rt)} {w w1 : World} (h : St t lv M w) {lv' : Value} {M' : List (Nat × Rt)} (hown : w1.ownsRow 0 65 1 lv' M'.length (pv M')) (hf : Fp (fun k => lv.ownBlock = some k) w w1) (hob : ∀ k, lv'.ownBlock = some k → lv.ownBlock = some k ∨ w.heap.size ≤ k)
    (hsub : ∀ x ∈ M', x ∈ M ∨ (w.heap.size ≤ x.1 ∧ Blk w1 x.1 (rc x.2) 67)) (hnd : (M'.map Prod.fst).Nodup) : Nx t lv M w (w1.setCell ⟨t, 0, none⟩ lv') (M'.map Prod.snd) := by
  have hap := h.apart
  have htb : Blk w1 t #[lv] 63 := hf.blk h.blk hap.2.1
  have htl := h.blk.lt
  have hxt : ∀ x ∈ M', x.1 ≠ t := fun x hx e => by
    rcases hsub x hx with h1 | ⟨h1, _⟩
    · exact hap.1 x h1 e
    · omega
  refine ⟨lv', M', rfl, ⟨htb.set 0 lv', own_same hown (fun g hg => Below.heap_setCell _ _ _ _ (fun e => ?_)), fun x hx => ?_, hnd⟩, (hf.mono (fun k e => .inr (.inl e))).then (Fp.set t 0 lv' w1 (.inl rfl)), fun k hk => ?_⟩
  · rcases hob g hg with h1 | h1
    · exact hap.2.1 (by rw [h1]; exact congrArg some e)
    · have : g = t := e
      omega
  · refine Blk.set_other ?_ _ _ (hxt x hx)
    rcases hsub x hx with h1 | ⟨_, h1⟩
    · exact hf.blk (h.rts x h1) (hap.2.2 x h1)
    · exact h1
  · rcases hk with e | e | e
    · exact .inl (.inl e)
    · rcases hob k e with h1 | h1
      · exact .inl (.inr (.inl h1))
      · exact .inr h1
    · obtain ⟨x, hx, rfl⟩ := List.mem_map.1 e
      rcases hsub x hx with h1 | ⟨h1, _⟩
      · exact .inl (.inr (.inr (List.mem_map.2 ⟨x, h1, rfl⟩)))
      · exact .inr h1

def newR (p : List UInt8) (a : Int) (wt : Nat) : Rt := ⟨p, a, wt, false, 0, 0⟩
def upR (wt : Nat) (r : Rt) : Rt := { r with wt := wt, dr := false, un := 0 }
/-- Register: what is wrong, the routes behind it. -/
def regL (p : List UInt8) (a : Int) (wt : Nat) (L : List Rt) : Option Nat × List Rt :=
  match askE p a with
  | some e => (some e, L)
  | none => if 0 ≤ idx (isR p a) L then (none, L.set (idx (isR p a) L).toNat (upR wt (L.getD (idx (isR p a) L).toNat default))) else if 4 ≤ (L.filter (nmR p)).length then (some 7, L) else (none, L ++ [newR p a wt])

set_option maxRecDepth 20000 in
set_option maxHeartbeats 2000000 in
theorem register_any {K : Nat → Prop} {t : Nat} {lv : Value} {M : List (Nat × Rt)} {w : World} {ads : Nat → Addr} {m : Int} (hs : St t lv M w) (hg : Gw K w ads m) (hM : M.length < 100000) (p : List UInt8) (hl : p.length < 4294967281) (a : Int) (wt : Nat) :
    Calls Tryz.prog 7 #[pp t, .string (bs p), n64 a, fl wt] w fun e w' => e = .returned (ev ads (regL p a wt (M.map Prod.snd)).1) ∧ Nx t lv M w w' (regL p a wt (M.map Prod.snd)).2 := by
  have HA := Lib.hid (ask_any hg p hl a)
  have HS := Lib.hid hs
  have HG := Lib.hid hg
  cases hask : askE p a with
  | some e =>
    have hr : regL p a wt (M.map Prod.snd) = (some e, M.map Prod.snd) := by rw [regL, hask]
    rw [hr]
    rw [hask] at HA
    have HA2 := Lib.hid (show Calls Tryz.prog 29 #[.string (bs p), n64 a] w fun e2 w' => e2 = .returned (.iface 126 (.pointer (some (ads e)))) ∧ Below w.heap.size w w' from HA.out)
    clear HA hs hg hask hr
    go_enter Tryz.func7, Tryz.ntmps7
    go_wp2_with (go_at_call 29; refine HA2.out.mono ?_; rintro e2 w1 ⟨rfl, hB⟩)
    go_ret
    exact ⟨rfl, Nx.of_below HS.out hB⟩
  | none =>
    rw [hask] at HA
    have HA2 := Lib.hid (show Calls Tryz.prog 29 #[.string (bs p), n64 a] w fun e2 w' => e2 = .returned .nilIface ∧ Below w.heap.size w w' from HA.out)
    rcases idx_cases (isR p a) M with ⟨hi, hno⟩ | ⟨k, x, hx, hf, hi, hno⟩
    · by_cases hfull : 4 ≤ (M.filter fun x => nmR p x.2).length
      · have hr : regL p a wt (M.map Prod.snd) = (some 7, M.map Prod.snd) := by
          rw [regL, hask]
          simp only [hi]
          rw [if_neg (by omega), if_pos (by rw [List.filter_map, List.length_map]; exact hfull)]
        rw [hr]
        obtain ⟨N, hN⟩ : ∃ N, N = M.filter fun x => nmR p x.2 := ⟨_, rfl⟩
        rw [← hN] at hfull
        have HN := Lib.hid hN
        have HI := Lib.hid hi
        clear HA hs hg hask hr hi hno hN
        go_enter Tryz.func7, Tryz.ntmps7
        go_wp2_with (first | (go_at_call 29; refine HA2.out.mono ?_; rintro e2 w1 ⟨rfl, hB⟩; have HF := Lib.hid (find_any (HS.out.below hB) (by omega) p a); rw [HI.out] at HF; have HB := Lib.hid hB; clear hB) | (go_at_call 30; refine HF.out.mono ?_; rintro e2 w2 ⟨rfl, hB⟩; have HB2 := Lib.hid (below_all HB.out hB); clear hB; have HD := Lib.hid (named_any (HS.out.below HB2.out) (by omega) p); rw [← HN.out] at HD) | (go_at_call 31; refine HD.out.mono ?_; rintro e2 w3 ⟨v, rfl, hO, hB⟩; have HB3 := Lib.hid (below_all HB2.out hB); clear hB; have he := (HG.out.below HB3.out).er 7 (by decide); obtain ⟨ao, cp, rfl, _⟩ := Pr.own hO; clear hO))
        go_ret
        exact ⟨rfl, Nx.of_below HS.out HB3.out⟩
      · have hr : regL p a wt (M.map Prod.snd) = (none, M.map Prod.snd ++ [newR p a wt]) := by
          rw [regL, hask]
          simp only [hi]
          rw [if_neg (by omega), if_neg (by rw [List.filter_map, List.length_map]; exact hfull)]
        rw [hr]
        obtain ⟨N, hN⟩ : ∃ N, N = M.filter fun x => nmR p x.2 := ⟨_, rfl⟩
        rw [← hN] at hfull
        have HN := Lib.hid hN
        have HI := Lib.hid hi
        obtain ⟨i0, hi0, hz0, hz1, hz2⟩ := info_parts' info57
        clear HA hs hg hask hr hi hno hN
        go_enter Tryz.func7, Tryz.ntmps7
        go_wp2_with (first | (go_at_call 29; refine HA2.out.mono ?_; rintro e2 w1 ⟨rfl, hB⟩; have HF := Lib.hid (find_any (HS.out.below hB) (by omega) p a); rw [HI.out] at HF; have HB := Lib.hid hB; clear hB) | (go_at_call 30; refine HF.out.mono ?_; rintro e2 w2 ⟨rfl, hB⟩; have HB2 := Lib.hid (below_all HB.out hB); clear hB; have HD := Lib.hid (named_any (HS.out.below HB2.out) (by omega) p); rw [← HN.out] at HD) | (go_at_call 31; refine HD.out.mono ?_; rintro e2 w3 ⟨v, rfl, hO, hB⟩; have HB3 := Lib.hid (below_all HB2.out hB); clear hB; obtain ⟨ao, cp, rfl, _⟩ := Pr.own hO; clear hO; have hst3 := HS.out.below HB3.out; have hct : w3.cell? ⟨t, 0, none⟩ = some lv := hst3.blk.cell 0 _ rfl; have HO3 := Lib.hid hst3.own; have HS3 := Lib.hid hst3; clear hst3) | (at_builtin; refine wpList_append_lies _ rfl (.tmp 54) (.tmp 61) 61 rfl 0 65 i0 _ 1 8 Tryz.underlying61 hi0 hz0 hz1 hz2 rfl (by decide) _ M.length _ rfl (own_same HO3.out (fun k hk => (Below.heap_alloc _ _ _ (by have := (own_lo HO3.out k hk).2; simp; omega)).trans (Below.heap_alloc _ _ _ (own_lo HO3.out k hk).2))) ⟨w3.heap.size + 1, 0, none⟩ 1 1 [pp w3.heap.size] rfl rfl ?c1 ?c2 (by decide) ?c3 ?c4 ?c5 _ rfl ?_))
        case c1 => intro j u hj; rw [addr_add, Nat.zero_add]; have h := (blk_new (w3.alloc (.cells (rc (newR p a wt)) 67)) #[pp w3.heap.size] 65).cell j u (by simpa using hj); simpa using h
        case c2 => intro u hu; simp at hu; subst hu; rfl
        case c3 => unfold maxLen; omega
        case c4 => omega
        case c5 => omega
        intro g cap w6 hown hgrow hat hlt6
        have hst3 := HS3.out
        have hne : lv.ownBlock ≠ some t := hst3.apart.2.1
        have htb6 : Blk w6 t #[lv] 63 := ((hst3.blk.alloc _).alloc _).same (hgrow.block t (by have := hst3.blk.lt; simp; omega) (fun e => hne e.symm))
        have c6 : w6.cell? ⟨t, 0, none⟩ = some lv := htb6.cell 0 _ rfl
        have f6 := htb6.free 0
        have hfp : Fp (fun k => lv.ownBlock = some k) w3 w6 :=
          ⟨hgrow.os, hgrow.tape, hgrow.output, Nat.le_trans (by simp; omega) hgrow.size, fun k hk h1 => (hgrow.block k (by simp; omega) (fun e => h1 e.symm)).trans ((Below.heap_alloc _ _ _ (by simp; omega)).trans (Below.heap_alloc _ _ _ hk))⟩
        have hnb : Blk w6 w3.heap.size (rc (newR p a wt)) 67 := ((blk_new w3 (rc (newR p a wt)) 67).alloc _).same (hgrow.block _ (by simp; omega) (fun e => by have := (own_lo hst3.own _ e.symm).2; omega))
        have hlen : M.length + 1 = (M ++ [(w3.heap.size, newR p a wt)]).length := by simp
        have hpv : pv M ++ [pp w3.heap.size] = pv (M ++ [(w3.heap.size, newR p a wt)]) := by rw [pv_append]; rfl
        rw [hlen, hpv] at hown
        rw [hlen]
        have HR := Lib.hid (hst3.row hown hfp (fun k hk => by
          rcases hat with h | h
          · exact .inl (by rw [h]; exact hk)
          · refine .inr ?_
            have : g = k := by simpa [Value.ownBlock] using hk
            omega) (fun x hx => by
          rcases List.mem_append.1 hx with h | h
          · exact .inl h
          · simp at h; subst h; exact .inr ⟨Nat.le_refl _, hnb⟩) (by
          rw [List.map_append, List.nodup_append]
          refine ⟨hst3.nod, by simp, fun x hx y hy e => ?_⟩
          obtain ⟨z, hz, rfl⟩ := List.mem_map.1 hx
          simp at hy
          have := (hst3.rts z hz).lt
          omega))
        clear hown hgrow hat htb6 hfp hnb hlen hpv hst3 hne
        go_wp2
        go_ret
        refine ⟨rfl, Nx.of_fp HB3.out ?_⟩
        have := HR.out
        rw [List.map_append, List.length_append] at this
        exact this
    · have hr : regL p a wt (M.map Prod.snd) = (none, (M.map Prod.snd).set k (upR wt x.2)) := by
        rw [regL, hask]
        simp only [hi]
        rw [if_pos (by omega)]
        simp [hx]
      rw [hr]
      have hk : k < M.length := (List.getElem?_eq_some_iff.1 hx).1
      obtain ⟨ao, c, rfl, hao⟩ := Pr.own hs.own
      obtain ⟨gg, rfl, hgg, hc⟩ := hao (by omega)
      have hck := Lib.hid (hc k x hx)
      have hkz : (k : Int) < (M.length : Int) := by omega
      have HX := Lib.hid hx
      have HI := Lib.hid hi
      clear HA hs hg hask hr hi hno hao hc hx hf
      go_enter Tryz.func7, Tryz.ntmps7
      go_wp2_with (first | (go_at_call 29; refine HA2.out.mono ?_; rintro e2 w1 ⟨rfl, hB⟩; have HF := Lib.hid (find_any (HS.out.below hB) (by omega) p a); rw [HI.out] at HF; have HB := Lib.hid hB; clear hB) | (go_at_call 30; refine HF.out.mono ?_; rintro e2 w2 ⟨rfl, hB⟩; have HB2 := Lib.hid (below_all HB.out hB); clear hB; have hst2 := HS.out.below HB2.out; have hct := hst2.blk.cell 0 _ rfl; have hc2 : w2.cell? ⟨gg, k, none⟩ = some (pp x.1) := (HB2.out.cell (p := ⟨gg, k, none⟩) hgg).trans hck.out; have hbx := hst2.rts x (List.mem_of_getElem? HX.out); have k2 : w2.cell? ⟨x.1, 2, none⟩ = some (fl x.2.wt) := hbx.cell 2 _ rfl; have k3 : w2.cell? ⟨x.1, 3, none⟩ = some (.bool x.2.dr) := hbx.cell 3 _ rfl; have k4 : w2.cell? ⟨x.1, 4, none⟩ = some (n64 x.2.un) := hbx.cell 4 _ rfl; have g2 := hbx.free 2; have g3 := hbx.free 3; have g4 := hbx.free 4; have HBX := Lib.hid hbx; have HS2 := Lib.hid hst2; clear hbx hst2))
      go_ret
      refine ⟨rfl, Nx.of_fp HB2.out (HS2.out.upd HX.out (((HBX.out.set 2 (fl wt)).set 3 (.bool false)).set 4 (n64 0)) (((Fp.set (S := fun b => b = x.1) x.1 2 _ _ rfl).then (Fp.set (S := fun b => b = x.1) x.1 3 _ _ rfl)).then (Fp.set (S := fun b => b = x.1) x.1 4 _ _ rfl)))⟩
end Go.Proofs.YtgimmdnmndbcpaaGreatDoor
