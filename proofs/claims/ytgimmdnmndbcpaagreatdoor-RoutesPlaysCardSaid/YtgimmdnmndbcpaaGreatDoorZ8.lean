/- Routes: Drop. -/
import Derived.Test.YtgimmdnmndbcpaaGreatDoorZ5
set_option linter.unusedVariables false
set_option linter.unusedSimpArgs false
namespace Go.Proofs.YtgimmdnmndbcpaaGreatDoor
open Go.RowKit Jw Lab Go.Shelf

theorem clo43 (b1 b : Nat) (a : Int) (r : Rt) (w : World) (h1 : w.cell? ⟨b1, 0, none⟩ = some (n64 a)) (hb : Blk w b (rc r) 67) :
    Calls Tryz.prog 43 #[pp b, pp b1] w fun e w' => e = .returned (.bool (r.ag == a)) ∧ Below w.heap.size w w' := by
  have c0 : w.cell? ⟨b, 1, none⟩ = some (n64 r.ag) := hb.cell 1 _ rfl
  clear hb
  go_enter Tryz.func43, Tryz.ntmps43
  go_wp2
  go_quiet (fail)
  go_wp2
  go_ret
  exact ⟨rfl, ⟨rfl, rfl, rfl, Nat.le_refl _, fun _ _ => rfl⟩⟩
theorem en43 : ∀ args w, (callFunc 43 args).run Tryz.prog w = .ok (.enter 43 args) w := enters_of Tryz.func43 (by kernel_rfl) rfl
section
variable {M : List (Nat × Rt)} {w : World} {S : Nat → Prop} {b1 : Nat} {a : Int}
theorem asks43 (hR : ∀ x ∈ M, Blk w x.1 (rc x.2) 67) (h1 : w.cell? ⟨b1, 0, none⟩ = some (n64 a)) (s1 : ¬ S b1) (sM : ∀ x ∈ M, ¬ S x.1) : Asks 43 #[pp b1] (agR a) M S w :=
  fun w' hf x hx => clo43 b1 x.1 a x.2 w' ((hf.cell (p := ⟨b1, 0, none⟩) (cell_lt h1) s1).trans h1) (hf.blk (hR x hx) (sM x hx))
end

set_option maxRecDepth 20000 in
theorem drop_any {K : Nat → Prop} {t : Nat} {lv : Value} {M : List (Nat × Rt)} {w : World} {ads : Nat → Addr} {m : Int} (hs : St t lv M w) (hg : Gw K w ads m) (hM : M.length ≤ 100000) (a : Int) :
    Calls Tryz.prog 17 #[pp t, n64 a] w fun e w' => e = .returned (ev ads (dropL a (M.map Prod.snd)).1) ∧ Nx t lv M w w' (dropL a (M.map Prod.snd)).2 := by
  have hmf : ∀ (fn : Fn) (first cap : Array Value) (w : World), (Instr.makeFunc fn first cap).run Tryz.prog w = .ok (.func fn first cap) w := fun _ _ _ _ => rfl
  have HNum := Lib.hid (show ∀ w, Calls Tryz.prog 37 #[n64 a] w fun e w' => e = .returned (.bool (numOk a)) ∧ w = w' from number_any a)
  obtain ⟨w1, hw1⟩ : ∃ w1, w1 = w.alloc (.cells #[n64 a] 3) := ⟨_, rfl⟩
  have hb1 : Below w.heap.size w w1 := by rw [hw1]; exact (Below.refl _ _).alloc (Nat.le_refl _) _
  have h1 : w1.cell? ⟨w.heap.size, 0, none⟩ = some (n64 a) := by rw [hw1]; exact (blk_new w _ 3).cell 0 _ rfl
  have hs1 := hs.below hb1
  have HB := Lib.hid hb1
  have HW := Lib.hid hw1
  cases hnum : numOk a with
  | false =>
    have hr : dropL a (M.map Prod.snd) = (some 0, M.map Prod.snd) := by rw [dropL, hnum]; rfl
    rw [hr]
    rw [hnum] at HNum
    have he := (hg.below hb1).er 0 (by decide)
    rw [hw1] at he h1
    have HS := Lib.hid hs
    clear hs hg hb1 hs1 hw1 hnum hr
    go_enter Tryz.func17, Tryz.ntmps17
    go_upto_region 2 with (go_at_call 37; refine (HNum.out _).mono ?_; rintro e w2 ⟨rfl, rfl⟩)
    go_wp2
    go_ret
    refine ⟨rfl, Nx.of_below HS.out ?_⟩
    have hB := HB.out
    rw [HW.out] at hB
    exact ⟨hB.os, hB.tape, hB.output, hB.size, hB.block⟩
  | true =>
    have hr : dropL a (M.map Prod.snd) = (none, (M.filter fun x => !agR a x.2).map Prod.snd) := by
      rw [dropL, hnum, if_pos rfl, if_pos rfl, List.filter_map]; rfl
    rw [hr]
    rw [hnum] at HNum
    have HC := Lib.hid (cutr_any hs1 hM 43 en43 #[pp w.heap.size] (agR a) (asks43 hs1.rts h1 (fun e => by have := (own_lo hs.own _ e).2; omega) (fun x hx => hs1.apart.2.2 x hx)))
    obtain ⟨N, hN⟩ : ∃ N, N = M.filter fun x => !agR a x.2 := ⟨_, rfl⟩
    rw [← hN] at HC ⊢
    obtain ⟨LN, hLN⟩ : ∃ LN, LN = N.map Prod.snd := ⟨_, rfl⟩
    rw [← hLN] at HC ⊢
    rw [hw1] at h1
    clear hs hg hb1 hs1 hw1 hnum hr hN hLN
    go_enter Tryz.func17, Tryz.ntmps17
    go_wp2_with (first | (go_at_call 37; refine (HNum.out _).mono ?_; rintro e w2 ⟨rfl, rfl⟩) | (go_at_call 42; rw [← HW.out]; refine HC.out.mono ?_; rintro e w2 ⟨rfl, hN⟩; have HN := Lib.hid hN; clear hN))
    go_ret
    exact ⟨rfl, Nx.of_fp HB.out HN.out⟩
end Go.Proofs.YtgimmdnmndbcpaaGreatDoor
