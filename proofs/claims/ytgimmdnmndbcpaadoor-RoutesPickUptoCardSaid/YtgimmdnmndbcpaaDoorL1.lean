/- RoutesLives: what its calls come to, one behind the other. -/
import Derived.Test.YtgimmdnmndbcpaaDoorR13
set_option linter.unusedVariables false
set_option linter.unusedSimpArgs false
namespace Go.Proofs.YtgimmdnmndbcpaaDoor
open Go.RowKit Jw Lab Go.Shelf

theorem idx_nil (f : Rt → Bool) : idx f [] = -1 := rfl
theorem reg_new {p : List UInt8} {a : Int} (h : patOk p = true) (ha : numOk a = true) (wt : Nat) : regL p a wt [] = (none, [newR p a wt]) := by
  have e : askE p a = none := by rw [askE, if_pos h, if_pos ha]
  rw [regL, e]
  rfl
theorem reg_bad {p : List UInt8} (h : patOk p = false) (a : Int) (wt : Nat) (L : List Rt) : regL p a wt L = (some 4, L) := by
  have e : askE p a = some 4 := by rw [askE, h]; rfl
  rw [regL, e]
def lvR (p : List UInt8) (now : Int) : Rt := ⟨p, 7, 4607182418800017408, false, now + 40, 0⟩
theorem lv_down (p : List UInt8) (now : Int) (h : 0 ≤ now) (h2 : now < 549755813888) : downL 7 now [newR p 7 4607182418800017408] = (none, [lvR p now]) := by
  have hn : numOk now = true := by simp [numOk]; omega
  have e1 : mn (now + 40) 1099511627776 = now + 40 := by unfold mn; omega
  rw [downL, if_pos hn, if_pos (by decide), if_pos (by decide)]
  simp only [List.map_cons, List.map_nil, eachR, newR, agR, beq_self_eq_true, if_true, dnH, e1, lvR]
theorem lv_exp (p : List UInt8) (now later : Int) (h : 0 ≤ now) (h2 : now < 549755813888) (h3 : 0 ≤ later) (h4 : later < 200) :
    expL (now + later) [lvR p now] = if 40 < later then ((1, none), []) else ((0, none), [lvR p now]) := by
  have hn : numOk (now + later) = true := by simp [numOk]; omega
  have e0 : (now + 40 != 0) = true := by simp; omega
  rw [expL, if_pos hn]
  by_cases hg : 40 < later
  · have e1 : goneR (now + later) (lvR p now) = true := by show (now + 40 != 0 && decide (now + 40 < now + later)) = true; rw [e0]; simp; omega
    rw [if_pos hg]
    simp [e1]
  · have e1 : goneR (now + later) (lvR p now) = false := by show (now + 40 != 0 && decide (now + 40 < now + later)) = false; rw [e0]; simp; omega
    rw [if_neg hg]
    simp [e1]
theorem lv_pick {p : List UInt8} (hp : patOk p = true) (now : Int) (h : 0 ≤ now) : pickL p [] [lvR p now] = ((0, some 0), [lvR p now]) := by
  have e0 : (now + 40 == 0) = false := by simp; omega
  have e1 : pickR p (lvR p now) = false := by simp [pickR, lvR, e0]
  rw [pickL, if_pos hp, if_pos (by simp [e1])]
theorem lv_up (p : List UInt8) (now : Int) : upL 7 [lvR p now] = (none, [newR p 7 4607182418800017408]) := by
  rw [upL, if_pos (by decide), if_pos (by decide)]
  simp [eachR, lvR, agR, upH, newR]
theorem sv_new (p : List UInt8) (wt : Nat) : (([newR p 7 wt].filter (nmR p)).any svR) = true := by simp [nmR, newR, svR]
theorem sv_lv (p : List UInt8) (now : Int) (h : 0 ≤ now) : (([lvR p now].filter (nmR p)).any svR) = false := by
  have e0 : (now + 40 == 0) = false := by simp; omega
  simp [nmR, lvR, svR, e0]

theorem lives_chain (K : Nat → Prop) (ads : Nat → Addr) (m : Int) (p : List UInt8) (hp : patOk p = true) (hl : p.length < 4294967281) (now later : Int) (h : 0 ≤ now) (h2 : now < 549755813888) (h3 : 0 ≤ later) (h4 : later < 200) (n : Nat) (hn : n = if 40 < later then 1 else 0) : ∃ L1 L2 L3 L4 : List Rt,
    (∀ t w, Wk K t [] w ads m → Calls Tryd.prog 9 #[pp t, .string (bs p), n64 7, fl 4607182418800017408] w fun e w' => e = .returned .nilIface ∧ Wk K t L1 w' ads m ∧ Fp (fun k => ¬ K k) w w') ∧
    (∀ t w, Wk K t L1 w ads m → Calls Tryd.prog 11 #[pp t, .string (bs p)] w fun e w' => e = .returned (.bool true) ∧ Wk K t L1 w' ads m ∧ Fp (fun k => ¬ K k) w w') ∧
    (∀ t w, Wk K t L1 w ads m → Calls Tryd.prog 12 #[pp t, n64 7, n64 now] w fun e w' => e = .returned .nilIface ∧ Wk K t L2 w' ads m ∧ Fp (fun k => ¬ K k) w w') ∧
    (∀ t w, Wk K t L2 w ads m → Calls Tryd.prog 11 #[pp t, .string (bs p)] w fun e w' => e = .returned (.bool false) ∧ Wk K t L2 w' ads m ∧ Fp (fun k => ¬ K k) w w') ∧
    (∀ t w, Wk K t L2 w ads m → Calls Tryd.prog 13 #[pp t, .string (bs p), .slice none 0 0] w fun e w' => e = .returned (.tuple #[n64 0, .iface 113 (.pointer (some (ads 0)))]) ∧ Wk K t L2 w' ads m ∧ Fp (fun k => ¬ K k) w w') ∧
    (∀ t w, Wk K t L2 w ads m → Calls Tryd.prog 14 #[pp t, n64 (now + later)] w fun e w' => e = .returned (.tuple #[n64 n, .nilIface]) ∧ Wk K t L3 w' ads m ∧ Fp (fun k => ¬ K k) w w') ∧
    (∀ t w, Wk K t L3 w ads m → Calls Tryd.prog 10 #[pp t] w fun e w' => ∃ ao c, e = .returned (.slice ao (1 - n) c) ∧ Wk K t L3 w' ads m ∧ Fp (fun k => ¬ K k) w w') ∧
    (∀ t w, Wk K t L3 w ads m → Calls Tryd.prog 15 #[pp t, n64 7] w fun e w' => e = .returned .nilIface ∧ Wk K t L4 w' ads m ∧ Fp (fun k => ¬ K k) w w') ∧
    (∀ t w, Wk K t L4 w ads m → Calls Tryd.prog 11 #[pp t, .string (bs p)] w fun e w' => e = .returned (.bool (!decide (40 < later))) ∧ Wk K t L4 w' ads m ∧ Fp (fun k => ¬ K k) w w') := by
  have hr := reg_new (p := p) (a := 7) hp (by decide) 4607182418800017408
  refine ⟨[newR p 7 4607182418800017408], [lvR p now], if 40 < later then [] else [lvR p now], if 40 < later then [] else [newR p 7 4607182418800017408], fun t w hW => register_ok hr hW (by decide) hl, fun t w hW => ?_, fun t w hW => down_ok (lv_down p now h h2) hW (by simp), fun t w hW => ?_, fun t w hW => ?_, fun t w hW => ?_, fun t w hW => ?_, fun t w hW => ?_, fun t w hW => ?_⟩
  · have := serve_k hW (by simp) p
    rw [sv_new] at this
    exact this
  · have := serve_k hW (by simp) p
    rw [sv_lv p now h] at this
    exact this
  · have := picks_k hW (by simp) p hl (.slice none 0 0) [] (ri_nil w) (by decide)
    rw [lv_pick hp now h] at this
    exact this
  · have := expire_k hW (by simp) (now + later)
    rw [lv_exp p now later h h2 h3 h4] at this
    subst hn
    by_cases hg : 40 < later
    · rw [if_pos hg] at this ⊢
      rw [if_pos hg]
      exact this
    · rw [if_neg hg] at this ⊢
      rw [if_neg hg]
      exact this
  · have hlen : (if 40 < later then [] else [lvR p now]).length = 1 - n := by subst hn; by_cases hg : 40 < later <;> simp [hg]
    refine (all_k hW (by rw [hlen]; omega)).mono fun e w' ⟨v, h1, h2, h3, h4, h5⟩ => ?_
    obtain ⟨ao, c, hv⟩ := own_form h2
    exact ⟨ao, c, by rw [h1, hv, hlen], h4, h5⟩
  · have := up_k hW (by by_cases hg : 40 < later <;> simp [hg]) 7
    by_cases hg : 40 < later
    · rw [if_pos hg] at this ⊢
      exact this
    · rw [if_neg hg] at this ⊢
      rw [lv_up] at this
      exact this
  · have := serve_k hW (by by_cases hg : 40 < later <;> simp [hg]) p
    by_cases hg : 40 < later
    · rw [if_pos hg] at this ⊢
      simpa [hg] using this
    · rw [if_neg hg] at this ⊢
      rw [sv_new] at this
      simpa [hg] using this
end Go.Proofs.YtgimmdnmndbcpaaDoor
