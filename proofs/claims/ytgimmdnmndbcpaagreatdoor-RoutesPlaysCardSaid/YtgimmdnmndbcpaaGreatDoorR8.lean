/- Routes: Down, Up, Expire. -/
import Derived.Test.YtgimmdnmndbcpaaGreatDoorR7
set_option linter.unusedVariables false
set_option linter.unusedSimpArgs false
namespace Go.Proofs.YtgimmdnmndbcpaaGreatDoor
open Go.RowKit Jw Lab Go.Shelf
attribute [local go_sem] min_mn min2_mn

/-- What a function value does to a route. -/
def Does (g : FuncId) (cap : Array Value) (h : Rt → Rt) (M : List (Nat × Rt)) (w : World) : Prop :=
  ∀ w', Fp (fun k => ∃ x ∈ M, k = x.1) w w' → ∀ x ∈ M, ∀ r, Blk w' x.1 (rc r) 67 → Calls Tryz.prog g (#[pp x.1] ++ cap) w' fun e w'' => e = .returned (.tuple #[]) ∧ Blk w'' x.1 (rc (h r)) 67 ∧ Fp (fun k => k = x.1) w' w''

def upH (r : Rt) : Rt := { r with un := 0 }
def dnH (now : Int) (r : Rt) : Rt := if (r.un == 0) = true then { r with un := mn (now + 40) 1099511627776 } else r
theorem clo39 (b : Nat) (r : Rt) (w : World) (hb : Blk w b (rc r) 67) : Calls Tryz.prog 41 #[pp b] w fun e w' => e = .returned (.tuple #[]) ∧ Blk w' b (rc (upH r)) 67 ∧ Fp (fun k => k = b) w w' := by
  have c4 : w.cell? ⟨b, 4, none⟩ = some (n64 r.un) := hb.cell 4 _ rfl
  have f4 := hb.free 4
  have HB := Lib.hid hb
  clear hb
  go_enter Tryz.func41, Tryz.ntmps41
  go_wp2
  go_end0
  exact ⟨rfl, HB.out.set 4 (n64 0), Fp.set b 4 _ _ rfl⟩
theorem clo29 (b1 b : Nat) (now : Int) (hn : 0 ≤ now) (hn2 : now ≤ 1099511627776) (r : Rt) (w : World) (h1 : w.cell? ⟨b1, 0, none⟩ = some (n64 now)) (hb : Blk w b (rc r) 67) :
    Calls Tryz.prog 39 #[pp b, pp b1] w fun e w' => e = .returned (.tuple #[]) ∧ Blk w' b (rc (dnH now r)) 67 ∧ Fp (fun k => k = b) w w' := by
  have c4 : w.cell? ⟨b, 4, none⟩ = some (n64 r.un) := hb.cell 4 _ rfl
  have f4 := hb.free 4
  have HB := Lib.hid hb
  clear hb
  cases h : (r.un == 0) with
  | true =>
    have e : dnH now r = { r with un := mn (now + 40) 1099511627776 } := by rw [dnH, if_pos h]
    rw [e]
    clear e
    go_enter Tryz.func39, Tryz.ntmps39
    go_wp2
    go_end0
    exact ⟨rfl, HB.out.set 4 _, Fp.set b 4 _ _ rfl⟩
  | false =>
    have e : dnH now r = r := by rw [dnH, if_neg (by rw [h]; decide)]
    rw [e]
    clear e
    go_enter Tryz.func39, Tryz.ntmps39
    go_wp2
    go_end0
    exact ⟨rfl, HB.out, Fp.refl _ _⟩
theorem does39 {M : List (Nat × Rt)} {w : World} : Does 41 #[] upH M w := fun w' _ x _ r hb => clo39 x.1 r w' hb
theorem does29 {M : List (Nat × Rt)} {w : World} {b1 : Nat} {now : Int} (hn : 0 ≤ now) (hn2 : now ≤ 1099511627776) (h1 : w.cell? ⟨b1, 0, none⟩ = some (n64 now)) (hb : ∀ x ∈ M, x.1 ≠ b1) : Does 39 #[pp b1] (dnH now) M w :=
  fun w' hf x hx r hr => clo29 b1 x.1 now hn hn2 r w' ((hf.cell (p := ⟨b1, 0, none⟩) (cell_lt h1) (fun ⟨y, hy, e⟩ => hb y hy e.symm)).trans h1) hr
theorem en39 : ∀ args w, (callFunc 41 args).run Tryz.prog w = .ok (.enter 41 args) w := enters_of Tryz.func41 (by kernel_rfl) rfl
theorem en29 : ∀ args w, (callFunc 39 args).run Tryz.prog w = .ok (.enter 39 args) w := enters_of Tryz.func39 (by kernel_rfl) rfl

/-- Some routes turned. -/
theorem St.maps {t : Nat} {lv : Value} {M : List (Nat × Rt)} {w w' : World} (h : St t lv M w) (f : Rt → Rt) (hb : ∀ x ∈ M, Blk w' x.1 (rc (f x.2)) 67) (hf : Fp (fun k => ∃ x ∈ M, k = x.1) w w') : Nx t lv M w w' ((M.map Prod.snd).map f) := by
  have hap := h.apart
  have hfst : (M.map fun x => (x.1, f x.2)).map Prod.fst = M.map Prod.fst := by simp
  have hpv : pv (M.map fun x => (x.1, f x.2)) = pv M := by simp [pv]
  refine ⟨lv, M.map fun x => (x.1, f x.2), by simp, ⟨hf.blk h.blk (fun ⟨x, hx, e⟩ => hap.1 x hx e.symm), ?_, fun y hy => ?_, by rw [hfst]; exact h.nod⟩, hf.mono (fun k ⟨x, hx, e⟩ => .inr (.inr (List.mem_map.2 ⟨x, hx, e.symm⟩))), fun k hk => ?_⟩
  · rw [hpv, List.length_map]
    exact own_same h.own (fun g hg => hf.other g (own_lo h.own g hg).2 (fun ⟨x, hx, e⟩ => hap.2.2 x hx (by rw [hg, e])))
  · obtain ⟨x, hx, rfl⟩ := List.mem_map.1 hy
    exact hb x hx
  · rcases hk with e | e | e
    · exact .inl (.inl e)
    · exact .inl (.inr (.inl e))
    · rw [hfst] at e; exact .inl (.inr (.inr e))

def eachR (a : Int) (h : Rt → Rt) (r : Rt) : Rt := if agR a r = true then h r else r

set_option maxRecDepth 20000 in
set_option maxHeartbeats 2000000 in
theorem each_any {K : Nat → Prop} {t : Nat} {lv : Value} {M : List (Nat × Rt)} {w : World} {ads : Nat → Addr} {m : Int} (hs : St t lv M w) (hg : Gw K w ads m) (hM : M.length ≤ 100000) (g : FuncId) (eg : ∀ args w, (callFunc g args).run Tryz.prog w = .ok (.enter g args) w) (cap : Array Value) (act : Rt → Rt)
    (hd : ∀ w1, Below w.heap.size w w1 → Does g cap act M w1) (a : Int) :
    Calls Tryz.prog 38 #[pp t, n64 a, .func (.func g) #[] cap] w fun e w' => e = .returned (ev ads (if numOk a = true then none else some 0)) ∧ Nx t lv M w w' (if numOk a = true then (M.map Prod.snd).map (eachR a act) else M.map Prod.snd) := by
  have hmf : ∀ (fn : Fn) (first cap : Array Value) (w : World), (Instr.makeFunc fn first cap).run Tryz.prog w = .ok (.func fn first cap) w := fun _ _ _ _ => rfl
  have HNum := Lib.hid (show ∀ w, Calls Tryz.prog 37 #[n64 a] w fun e w' => e = .returned (.bool (numOk a)) ∧ w = w' from number_any a)
  obtain ⟨w1, hw1⟩ : ∃ w1, w1 = w.alloc (.cells #[n64 a] 3) := ⟨_, rfl⟩
  have hb1 : Below w.heap.size w w1 := by rw [hw1]; exact (Below.refl _ _).alloc (Nat.le_refl _) _
  have h1 : w1.cell? ⟨w.heap.size, 0, none⟩ = some (n64 a) := by rw [hw1]; exact (blk_new w _ 3).cell 0 _ rfl
  have hs1 := hs.below hb1
  cases hnum : numOk a with
  | false =>
    rw [hnum] at HNum
    have he := (hg.below hb1).er 0 (by decide)
    rw [hw1] at he
    have HB := Lib.hid hb1
    have HS := Lib.hid hs
    have HW := Lib.hid hw1
    clear hs hg hb1 h1 hs1 hw1 hnum hd
    go_enter Tryz.func38, Tryz.ntmps38
    go_wp2_with (go_at_call 37; refine (HNum.out _).mono ?_; rintro e w2 ⟨rfl, rfl⟩)
    go_ret
    rw [← HW.out]
    exact ⟨rfl, Nx.of_below HS.out HB.out⟩
  | true =>
    rw [hnum] at HNum
    have HI := Lib.hid (of_any 63 en47 _ (agR a) t lv M w1 (hs1.blk.cell 0 _ rfl) (Pr.own hs1.own) hM (asks47 hs1.rts h1 (fun e => e) (fun _ _ e => e)))
    have HB := Lib.hid hb1
    have HS := Lib.hid hs
    have HW := Lib.hid hw1
    have HD := Lib.hid hd
    obtain ⟨N, hN⟩ : ∃ N, N = M.filter fun x => agR a x.2 := ⟨_, rfl⟩
    rw [← hN] at HI
    have hNl : N.length ≤ 100000 := by rw [hN]; exact Nat.le_trans (List.length_filter_le _ _) hM
    have hNM : ∀ x ∈ N, x ∈ M := fun x hx => by rw [hN] at hx; exact (List.mem_filter.1 hx).1
    have hNn : (N.map Prod.fst).Nodup := by rw [hN]; exact hs.nod.sublist (List.filter_sublist.map _)
    have HN := Lib.hid hN
    have HNM := Lib.hid hNM
    have HNn := Lib.hid hNn
    clear hs hg hb1 h1 hs1 hw1 hnum hd hN hNM hNn
    go_enter Tryz.func38, Tryz.ntmps38
    go_wp2_with (first | (go_at_call 37; refine (HNum.out _).mono ?_; rintro e w2 ⟨rfl, rfl⟩) | (go_at_call 46; rw [← HW.out]; refine HI.out.mono ?_; rintro e w2 ⟨v, rfl, hO, hB⟩; have HB2 := Lib.hid (below_all HB.out hB); obtain ⟨ao, cp, rfl, hao⟩ := Pr.own hO; have HO := Lib.hid hO; have HAO := Lib.hid hao; have HBB := Lib.hid hB; clear hO hB hao))
    go_loopw [8, 17] (fun _ i wr => ∃ j : Nat, j ≤ N.length ∧ i = n64 j ∧ Fp (fun k => ∃ x ∈ M, k = x.1) w2 wr ∧ ∀ x ∈ M, Blk wr x.1 (rc (if x.1 ∈ (N.take j).map Prod.fst then act x.2 else x.2)) 67) (fun _ i _ => N.length - (intOf i).toNat)
    case atStart => exact ⟨0, by omega, rfl, Fp.refl _ _, fun x hx => by simpa using (HS.out.below HB2.out).rts x hx⟩
    case round =>
      obtain ⟨j, hj, rfl, hfp, hbk⟩ := hrel
      by_cases hlj : j < N.length
      · obtain ⟨gg, rfl, hgg, hc⟩ := HAO.out (by omega)
        obtain ⟨y, hy⟩ : ∃ y, N[j]? = some y := ⟨_, List.getElem?_eq_getElem hlj⟩
        have hyM : y ∈ M := HNM.out y (List.mem_of_getElem? hy)
        have hgb : w1.heap.size ≤ gg := (own_cell HO.out j hlj).2.2.2
        have hcy : wr.cell? ⟨gg, j, none⟩ = some (pp y.1) := (hfp.cell (p := ⟨gg, j, none⟩) hgg (fun ⟨x, hx, e⟩ => by
          have e' : gg = x.1 := e
          have := ((HS.out.below HB.out).rts x hx).lt
          omega)).trans (hc j y hy)
        have hny : y.1 ∉ (N.take j).map Prod.fst := fun hm => by
          obtain ⟨z, hz, e⟩ := List.mem_map.1 hm
          obtain ⟨i, hi, rfl⟩ := List.mem_take_iff_getElem.1 hz
          have := nod_at HNn.out (List.getElem?_eq_getElem (by omega)) hy e
          omega
        have hby := hbk y hyM
        rw [if_neg hny] at hby
        have HC := Lib.hid (HD.out w2 HB2.out wr hfp y hyM y.2 hby)
        have htk : N.take (j + 1) = N.take j ++ [y] := by rw [List.take_add_one, hy]; rfl
        have HF := Lib.hid hfp
        have HK := Lib.hid hbk
        have HT := Lib.hid htk
        clear hfp hbk htk hny hby hc hy
        go_wp2_with (go_at_fn g; refine HC.out.mono ?_; rintro e w4 ⟨rfl, hb4, hf4⟩; have HB4 := Lib.hid hb4; have HF4 := Lib.hid hf4; clear hb4 hf4)
        go_roundw
        case rel =>
          refine ⟨j + 1, by omega, by go_num, HF.out.then (HF4.out.mono (fun k e => ⟨y, hyM, e⟩)), fun x hx => ?_⟩
          rw [HT.out, List.map_append]
          by_cases hxy : x.1 = y.1
          · have : x = y := by
              obtain ⟨i1, hi1, rfl⟩ := List.mem_iff_getElem.1 hx
              obtain ⟨i2, hi2, rfl⟩ := List.mem_iff_getElem.1 hyM
              have := nod_at HS.out.nod (List.getElem?_eq_getElem hi1) (List.getElem?_eq_getElem hi2) hxy
              subst this; rfl
            subst this
            rw [if_pos (by simp)]
            exact HB4.out
          · have h1 := HF4.out.blk (HK.out x hx) hxy
            have e : (x.1 ∈ (N.take j).map Prod.fst ++ [y].map Prod.fst) = (x.1 ∈ (N.take j).map Prod.fst) := by
              apply propext
              rw [List.mem_append]
              exact ⟨fun h => h.elim id (fun h => by simp at h; exact absurd h hxy), .inl⟩
            simp only [e]
            exact h1
        case measure => simp [intOf]; omega
      · obtain rfl : j = N.length := by omega
        rw [List.take_length] at hbk
        have HF := Lib.hid hfp
        have HK := Lib.hid hbk
        clear hfp hbk
        go_wp2
        go_ret
        refine ⟨rfl, ?_⟩
        rw [← List.map_map]
        refine Nx.of_fp HB2.out ((HS.out.below HB2.out).maps (eachR a act) (fun x hx => ?_) HF.out)
        have h1 := HK.out x hx
        have e : (x.1 ∈ N.map Prod.fst) = (agR a x.2 = true) := by
          apply propext
          constructor
          · intro hm
            obtain ⟨z, hz, e⟩ := List.mem_map.1 hm
            have hz2 : z ∈ M := HNM.out z hz
            have : z = x := by
              obtain ⟨i1, hi1, rfl⟩ := List.mem_iff_getElem.1 hx
              obtain ⟨i2, hi2, rfl⟩ := List.mem_iff_getElem.1 hz2
              have := nod_at HS.out.nod (List.getElem?_eq_getElem hi2) (List.getElem?_eq_getElem hi1) e
              subst this; rfl
            subst this
            rw [HN.out] at hz
            exact (List.mem_filter.1 hz).2
          · intro ha
            exact List.mem_map.2 ⟨x, by rw [HN.out]; exact List.mem_filter.2 ⟨hx, ha⟩, rfl⟩
        rw [eachR]
        simp only [e] at h1
        exact h1

/-- Down, Up: what is wrong, the routes behind it. -/
def downL (a now : Int) (L : List Rt) : Option Nat × List Rt :=
  if numOk now = true then (if numOk a = true then none else some 0, if numOk a = true then L.map (eachR a (dnH now)) else L) else (some 0, L)
def upL (a : Int) (L : List Rt) : Option Nat × List Rt := (if numOk a = true then none else some 0, if numOk a = true then L.map (eachR a upH) else L)

theorem up_any {K : Nat → Prop} {t : Nat} {lv : Value} {M : List (Nat × Rt)} {w : World} {ads : Nat → Addr} {m : Int} (hs : St t lv M w) (hg : Gw K w ads m) (hM : M.length ≤ 100000) (a : Int) :
    Calls Tryz.prog 15 #[pp t, n64 a] w fun e w' => e = .returned (ev ads (upL a (M.map Prod.snd)).1) ∧ Nx t lv M w w' (upL a (M.map Prod.snd)).2 := by
  have HE := Lib.hid (each_any hs hg hM 41 en39 #[] upH (fun _ _ => does39) a)
  obtain ⟨ee, hee⟩ : ∃ ee, ee = ev ads (if numOk a = true then none else some 0) := ⟨_, rfl⟩
  obtain ⟨LL, hLL⟩ : ∃ LL, LL = if numOk a = true then (M.map Prod.snd).map (eachR a upH) else M.map Prod.snd := ⟨_, rfl⟩
  show Calls Tryz.prog 15 #[pp t, n64 a] w fun e w' => e = .returned (ev ads (if numOk a = true then none else some 0)) ∧ Nx t lv M w w' (if numOk a = true then (M.map Prod.snd).map (eachR a upH) else M.map Prod.snd)
  rw [← hee, ← hLL] at HE ⊢
  clear hs hg hee hLL
  go_enter Tryz.func15, Tryz.ntmps15
  go_wp2_with (go_at_call 38; refine HE.out.mono ?_; rintro e w2 ⟨rfl, hN⟩; have HN := Lib.hid hN; clear hN)
  go_ret
  exact ⟨rfl, HN.out⟩

theorem down_any {K : Nat → Prop} {t : Nat} {lv : Value} {M : List (Nat × Rt)} {w : World} {ads : Nat → Addr} {m : Int} (hs : St t lv M w) (hg : Gw K w ads m) (hM : M.length ≤ 100000) (a now : Int) :
    Calls Tryz.prog 13 #[pp t, n64 a, n64 now] w fun e w' => e = .returned (ev ads (downL a now (M.map Prod.snd)).1) ∧ Nx t lv M w w' (downL a now (M.map Prod.snd)).2 := by
  have hmf : ∀ (fn : Fn) (first cap : Array Value) (w : World), (Instr.makeFunc fn first cap).run Tryz.prog w = .ok (.func fn first cap) w := fun _ _ _ _ => rfl
  have HNum := Lib.hid (show ∀ w, Calls Tryz.prog 37 #[n64 now] w fun e w' => e = .returned (.bool (numOk now)) ∧ w = w' from number_any now)
  obtain ⟨w1, hw1⟩ : ∃ w1, w1 = w.alloc (.cells #[n64 now] 3) := ⟨_, rfl⟩
  have hb1 : Below w.heap.size w w1 := by rw [hw1]; exact (Below.refl _ _).alloc (Nat.le_refl _) _
  have h1 : w1.cell? ⟨w.heap.size, 0, none⟩ = some (n64 now) := by rw [hw1]; exact (blk_new w _ 3).cell 0 _ rfl
  have hs1 := hs.below hb1
  have HB := Lib.hid hb1
  have HW := Lib.hid hw1
  cases hnum : numOk now with
  | false =>
    have hr : downL a now (M.map Prod.snd) = (some 0, M.map Prod.snd) := by rw [downL, hnum]; rfl
    rw [hr]
    rw [hnum] at HNum
    have he := (hg.below hb1).er 0 (by decide)
    rw [hw1] at he
    have HS := Lib.hid hs
    clear hs hg hb1 h1 hs1 hw1 hnum hr
    go_enter Tryz.func13, Tryz.ntmps13
    go_wp2_with (go_at_call 37; refine (HNum.out _).mono ?_; rintro e w2 ⟨rfl, rfl⟩)
    go_ret
    rw [← HW.out]
    exact ⟨rfl, Nx.of_below HS.out HB.out⟩
  | true =>
    have hr : downL a now (M.map Prod.snd) = (if numOk a = true then none else some 0, if numOk a = true then (M.map Prod.snd).map (eachR a (dnH now)) else M.map Prod.snd) := by rw [downL, hnum]; rfl
    rw [hr]
    have hn : 0 ≤ now ∧ now ≤ 1099511627776 := by simpa [numOk] using hnum
    rw [hnum] at HNum
    have HE := Lib.hid (each_any hs1 (hg.below hb1) hM 39 en29 #[pp w.heap.size] (dnH now) (fun w2 hb2 => does29 hn.1 hn.2 ((hb2.cell (p := ⟨w.heap.size, 0, none⟩) (cell_lt h1)).trans h1) (fun x hx e => by have := (hs.rts x hx).lt; omega)) a)
    obtain ⟨ee, hee⟩ : ∃ ee, ee = ev ads (if numOk a = true then none else some 0) := ⟨_, rfl⟩
    obtain ⟨LL, hLL⟩ : ∃ LL, LL = if numOk a = true then (M.map Prod.snd).map (eachR a (dnH now)) else M.map Prod.snd := ⟨_, rfl⟩
    show Calls Tryz.prog 13 #[pp t, n64 a, n64 now] w fun e w' => e = .returned (ev ads (if numOk a = true then none else some 0)) ∧ Nx t lv M w w' (if numOk a = true then (M.map Prod.snd).map (eachR a (dnH now)) else M.map Prod.snd)
    rw [← hee, ← hLL] at HE ⊢
    rw [hw1] at h1
    clear hs hg hb1 hs1 hw1 hnum hr hee hn hLL
    go_enter Tryz.func13, Tryz.ntmps13
    go_wp2_with (first | (go_at_call 37; refine (HNum.out _).mono ?_; rintro e w2 ⟨rfl, rfl⟩) | (go_at_call 38; rw [← HW.out]; refine HE.out.mono ?_; rintro e w2 ⟨rfl, hN⟩; have HN := Lib.hid hN; clear hN))
    go_ret
    exact ⟨rfl, Nx.of_fp HB.out HN.out⟩
end Go.Proofs.YtgimmdnmndbcpaaGreatDoor
