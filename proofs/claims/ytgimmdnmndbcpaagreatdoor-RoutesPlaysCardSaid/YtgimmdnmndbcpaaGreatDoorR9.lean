/- Routes: Expire; who is busy. -/
import Derived.Test.YtgimmdnmndbcpaaGreatDoorR8
set_option linter.unusedVariables false
set_option linter.unusedSimpArgs false
namespace Go.Proofs.YtgimmdnmndbcpaaGreatDoor
open Go.RowKit Jw Lab Go.Shelf

theorem cutr_any {t : Nat} {lv : Value} {M : List (Nat × Rt)} {w : World} (hs : St t lv M w) (hM : M.length ≤ 100000) (g : FuncId) (eg : ∀ args w, (callFunc g args).run Tryz.prog w = .ok (.enter g args) w) (cap : Array Value) (f : Rt → Bool)
    (hp : Asks g cap f M (fun k => lv.ownBlock = some k) w) :
    Calls Tryz.prog 42 #[pp t, .func (.func g) #[] cap] w fun e w' => e = .returned (n64 ((M.length : Int) - ((M.filter fun x => !f x.2).length : Int))) ∧ Nx t lv M w w' ((M.filter fun x => !f x.2).map Prod.snd) := by
  have HD := Lib.hid (delf_any g eg cap f lv M w hs.own hM hp)
  have hct := hs.blk.cell 0 _ rfl
  obtain ⟨ao, c, rfl, _⟩ := Pr.own hs.own
  have HS := Lib.hid hs
  obtain ⟨N, hN⟩ : ∃ N, N = M.filter fun x => !f x.2 := ⟨_, rfl⟩
  have hNl : N.length ≤ M.length := by rw [hN]; exact List.length_filter_le _ _
  have hNM : ∀ x ∈ N, x ∈ M := fun x hx => by rw [hN] at hx; exact (List.mem_filter.1 hx).1
  have hNn : (N.map Prod.fst).Nodup := by rw [hN]; exact hs.nod.sublist (List.filter_sublist.map _)
  rw [← hN] at HD ⊢
  have HNM := Lib.hid hNM
  have HNn := Lib.hid hNn
  clear hs hp hN hNM hNn
  go_enter Tryz.func42, Tryz.ntmps42
  go_wp2_with (go_at_call 49; refine HD.out.mono ?_; rintro e2 w3 ⟨v3, rfl, hO, hF, hob⟩; obtain ⟨ao3, cp3, hv3, _⟩ := Pr.own hO; subst hv3; have htb3 := hF.blk HS.out.blk HS.out.apart.2.1; have c3 : w3.cell? ⟨t, 0, none⟩ = some (Value.slice ao M.length c) := htb3.cell 0 _ rfl; have f3 := htb3.free 0; have HR := Lib.hid (HS.out.row hO hF (fun k hk => .inl (hob k hk)) (fun x hx => .inl (HNM.out x hx)) HNn.out); clear hO hF hob htb3)
  go_ret
  exact ⟨rfl, HR.out⟩

/-- Expire: how many, what is wrong, the routes behind it. -/
def expL (now : Int) (L : List Rt) : (Int × Option Nat) × List Rt :=
  if numOk now = true then (((L.length : Int) - ((L.filter fun r => !goneR now r).length : Int), none), L.filter fun r => !goneR now r) else ((0, some 0), L)

set_option maxRecDepth 20000 in
theorem expire_any {K : Nat → Prop} {t : Nat} {lv : Value} {M : List (Nat × Rt)} {w : World} {ads : Nat → Addr} {m : Int} (hs : St t lv M w) (hg : Gw K w ads m) (hM : M.length ≤ 100000) (now : Int) :
    Calls Tryz.prog 19 #[pp t, n64 now] w fun e w' => e = .returned (.tuple #[n64 (expL now (M.map Prod.snd)).1.1, ev ads (expL now (M.map Prod.snd)).1.2]) ∧ Nx t lv M w w' (expL now (M.map Prod.snd)).2 := by
  have hmf : ∀ (fn : Fn) (first cap : Array Value) (w : World), (Instr.makeFunc fn first cap).run Tryz.prog w = .ok (.func fn first cap) w := fun _ _ _ _ => rfl
  have HNum := Lib.hid (show ∀ w, Calls Tryz.prog 37 #[n64 now] w fun e w' => e = .returned (.bool (numOk now)) ∧ w = w' from number_any now)
  obtain ⟨w1, hw1⟩ : ∃ w1, w1 = w.alloc (.cells #[n64 now] 3) := ⟨_, rfl⟩
  have hb1 : Below w.heap.size w w1 := by rw [hw1]; exact (Below.refl _ _).alloc (Nat.le_refl _) _
  have h1 : w1.cell? ⟨w.heap.size, 0, none⟩ = some (n64 now) := by rw [hw1]; exact (blk_new w _ 3).cell 0 _ rfl
  have hs1 := hs.below hb1
  have HB := Lib.hid hb1
  have HW := Lib.hid hw1
  cases hnum : numOk now with
  | false =>
    have hr : expL now (M.map Prod.snd) = ((0, some 0), M.map Prod.snd) := by rw [expL, hnum]; rfl
    rw [hr]
    rw [hnum] at HNum
    have he := (hg.below hb1).er 0 (by decide)
    rw [hw1] at he h1
    have HS := Lib.hid hs
    clear hs hg hb1 hs1 hw1 hnum hr
    go_enter Tryz.func19, Tryz.ntmps19
    go_upto_region 2 with (go_at_call 37; refine (HNum.out _).mono ?_; rintro e w2 ⟨rfl, rfl⟩)
    go_quiet (fail)
    go_wp2
    go_ret2
    refine ⟨rfl, Nx.of_below HS.out ?_⟩
    have hB := HB.out
    rw [HW.out] at hB
    exact ⟨hB.os, hB.tape, hB.output, hB.size, hB.block⟩
  | true =>
    have hr : expL now (M.map Prod.snd) = (((M.length : Int) - ((M.filter fun x => !goneR now x.2).length : Int), none), (M.filter fun x => !goneR now x.2).map Prod.snd) := by
      rw [expL, hnum, if_pos rfl, List.filter_map, List.length_map, List.length_map]; rfl
    rw [hr]
    rw [hnum] at HNum
    have HC := Lib.hid (cutr_any hs1 hM 44 en38 #[pp w.heap.size] (goneR now) (asks38 hs1.rts h1 (fun e => by have := (own_lo hs.own _ e).2; omega) (fun x hx => hs1.apart.2.2 x hx)))
    obtain ⟨N, hN⟩ : ∃ N, N = M.filter fun x => !goneR now x.2 := ⟨_, rfl⟩
    rw [← hN] at HC ⊢
    obtain ⟨LN, hLN⟩ : ∃ LN, LN = N.map Prod.snd := ⟨_, rfl⟩
    rw [← hLN] at HC ⊢
    rw [hw1] at h1
    clear hs hg hb1 hs1 hw1 hnum hr hN hLN
    go_enter Tryz.func19, Tryz.ntmps19
    go_wp2_with (first | (go_at_call 37; refine (HNum.out _).mono ?_; rintro e w2 ⟨rfl, rfl⟩) | (go_at_call 42; rw [← HW.out]; refine HC.out.mono ?_; rintro e w2 ⟨rfl, hN⟩; have HN := Lib.hid hN; clear hN))
    go_ret2
    exact ⟨rfl, Nx.of_fp HB.out HN.out⟩

/-- A row of ints, as it can be read. -/
def Ri (w : World) (v : Value) (zs : List Int) : Prop :=
  ∃ ao cap, v = .slice ao zs.length cap ∧ (zs.length ≠ 0 → ∃ b off, ao = some ⟨b, off, none⟩ ∧ b < w.heap.size ∧ ∀ k, k < zs.length → w.cell? ⟨b, off + k, none⟩ = some (n64 (zs.getD k 0)))
theorem Ri.below {w w' : World} {v : Value} {zs : List Int} (h : Ri w v zs) (hb : Below w.heap.size w w') : Ri w' v zs := by
  obtain ⟨ao, cap, rfl, h⟩ := h
  refine ⟨ao, cap, rfl, fun hn => ?_⟩
  obtain ⟨b, off, rfl, hlt, hc⟩ := h hn
  exact ⟨b, off, rfl, Nat.lt_of_lt_of_le hlt hb.size, fun k hk => (hb.cell (p := ⟨b, off + k, none⟩) hlt).trans (hc k hk)⟩
theorem contains_any {v : Value} {zs : List Int} {w : World} (h : Ri w v zs) (hl : zs.length ≤ 9223372036854775807) (x : Int) :
    Calls Tryz.prog 51 #[v, n64 x] w fun e w' => e = .returned (.bool (zs.contains x)) ∧ w' = w := by
  obtain ⟨ao, cap, rfl, h⟩ := h
  rcases Nat.eq_zero_or_pos zs.length with h0 | h0
  · rw [h0]
    have : zs = [] := List.length_eq_zero_iff.1 h0
    rw [this]
    exact Tryz.slices_Contains_int_empty ao cap x w
  · obtain ⟨b, off, rfl, hlt, hc⟩ := h (by omega)
    have := Tryz.slices_Contains_int b off zs.length cap zs x w (Nat.le_refl _) hl (fun j hj => by
      rw [hc j hj])
    rw [List.take_length] at this
    exact this
end Go.Proofs.YtgimmdnmndbcpaaGreatDoor
