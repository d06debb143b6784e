/- Routes: the walk of alive. -/
import Derived.Test.YtgimmdnmndbcpaaGreatDoorZ1
set_option linter.unusedVariables false
set_option linter.unusedSimpArgs false
namespace Go.Proofs.YtgimmdnmndbcpaaGreatDoor
open Go.RowKit Jw Lab Go.Shelf

theorem ri_nil (w : World) : Ri w (.slice none 0 0) [] := ⟨none, 0, rfl, fun h => by simp at h⟩

section
variable {K : Nat → Prop} {t : Nat} {L L' : List Rt} {w : World} {ads : Nat → Addr} {m : Int}
theorem register_ok {p : List UInt8} {a : Int} {wt : Nat} (hr : regL p a wt L = (none, L')) (h : Wk K t L w ads m) (hL : L.length < 100000) (hl : p.length < 4294967281) :
    Calls Tryz.prog 7 #[pp t, .string (bs p), n64 a, fl wt] w fun e w' => e = .returned .nilIface ∧ Wk K t L' w' ads m ∧ Fp (fun k => ¬ K k) w w' := by
  have := register_k h hL p hl a wt
  rw [hr] at this
  exact this
theorem picks_ok {p : List UInt8} {a : Int} (hr : pickL p [] L = ((a, none), L')) (h : Wk K t L w ads m) (hL : L.length ≤ 800) (hl : p.length < 4294967281) :
    Calls Tryz.prog 22 #[pp t, .string (bs p), .slice none 0 0] w fun e w' => e = .returned (.tuple #[n64 a, .nilIface]) ∧ Wk K t L' w' ads m ∧ Fp (fun k => ¬ K k) w w' := by
  have := picks_k h hL p hl (.slice none 0 0) [] (ri_nil w) (by decide)
  rw [hr] at this
  exact this
theorem down_ok {a now : Int} (hr : downL a now L = (none, L')) (h : Wk K t L w ads m) (hL : L.length ≤ 100000) :
    Calls Tryz.prog 13 #[pp t, n64 a, n64 now] w fun e w' => e = .returned .nilIface ∧ Wk K t L' w' ads m ∧ Fp (fun k => ¬ K k) w w' := by
  have := down_k h hL a now
  rw [hr] at this
  exact this
end
section
variable {K : Nat → Prop} {t : Nat} {w : World} {ads : Nat → Addr} {m : Int}
theorem al_r1 (h : Wk K t [] w ads m) : Calls Tryz.prog 7 #[pp t, .string ⟨#[97]⟩, n64 0, fl 4611686018427387904] w fun e w' => e = .returned .nilIface ∧ Wk K t aL1 w' ads m ∧ Fp (fun k => ¬ K k) w w' := register_ok ar1 h (by decide) (by decide)
theorem al_r2 (h : Wk K t aL1 w ads m) : Calls Tryz.prog 7 #[pp t, .string ⟨#[97]⟩, n64 1, fl 4607182418800017408] w fun e w' => e = .returned .nilIface ∧ Wk K t aL2 w' ads m ∧ Fp (fun k => ¬ K k) w w' := register_ok ar2 h (by have := al_len; omega) (by decide)
theorem al_p1 (h : Wk K t aL2 w ads m) : Calls Tryz.prog 22 #[pp t, .string ⟨#[97]⟩, .slice none 0 0] w fun e w' => e = .returned (.tuple #[n64 0, .nilIface]) ∧ Wk K t aL3 w' ads m ∧ Fp (fun k => ¬ K k) w w' := picks_ok ap1 h (by have := al_len; omega) (by decide)
theorem al_p2 (h : Wk K t aL3 w ads m) : Calls Tryz.prog 22 #[pp t, .string ⟨#[97]⟩, .slice none 0 0] w fun e w' => e = .returned (.tuple #[n64 1, .nilIface]) ∧ Wk K t aL4 w' ads m ∧ Fp (fun k => ¬ K k) w w' := picks_ok ap2 h (by have := al_len; omega) (by decide)
theorem al_p3 (h : Wk K t aL4 w ads m) : Calls Tryz.prog 22 #[pp t, .string ⟨#[97]⟩, .slice none 0 0] w fun e w' => e = .returned (.tuple #[n64 0, .nilIface]) ∧ Wk K t aL5 w' ads m ∧ Fp (fun k => ¬ K k) w w' := picks_ok ap3 h (by have := al_len; omega) (by decide)
theorem al_d (h : Wk K t aL5 w ads m) : Calls Tryz.prog 13 #[pp t, n64 0, n64 5] w fun e w' => e = .returned .nilIface ∧ Wk K t aL6 w' ads m ∧ Fp (fun k => ¬ K k) w w' := down_ok ad h (by have := al_len; omega)
theorem al_p4 (h : Wk K t aL6 w ads m) : Calls Tryz.prog 22 #[pp t, .string ⟨#[97]⟩, .slice none 0 0] w fun e w' => e = .returned (.tuple #[n64 1, .nilIface]) ∧ Wk K t aL7 w' ads m ∧ Fp (fun k => ¬ K k) w w' := picks_ok ap4 h (by have := al_len; omega) (by decide)
theorem al_l (h : Wk K t aL7 w ads m) : Calls Tryz.prog 27 #[pp t, .string ⟨#[97]⟩] w fun e w' => ∃ g c, e = .returned (.slice (some ⟨g, 0, none⟩) 2 c) ∧ w'.cell? ⟨g, 4, none⟩ = some (n64 45) ∧ Fp (fun k => ¬ K k) w w' := by
  obtain ⟨_, _, _, _, _, _, l7, l8, l9⟩ := al_len
  refine (show Calls Tryz.prog 27 #[pp t, .string ⟨#[97]⟩] w _ from list_k h (by omega) [97]).mono ?_
  rintro e w1 ⟨v, rfl, hO, hB, hW, hF⟩
  obtain ⟨gl, cl, hv, _, _, hcl⟩ := own_cellN hO (by omega)
  refine ⟨gl, cl, by rw [hv, l8], ?_, hF⟩
  rw [hcl 4 (by omega)]
  cases hq : aL7.filter (nmR [97]) with
  | nil => rw [hq] at l8; simp at l8
  | cons r rs => rw [hq] at l9; simp at l9; rw [← l9]; rfl
end

theorem al_chain (K : Nat → Prop) (ads : Nat → Addr) (m : Int) : ∃ L1 L2 L3 L4 L5 L6 L7 : List Rt,
    (∀ t w, Wk K t [] w ads m → Calls Tryz.prog 7 #[pp t, .string ⟨#[97]⟩, n64 0, fl 4611686018427387904] w fun e w' => e = .returned .nilIface ∧ Wk K t L1 w' ads m ∧ Fp (fun k => ¬ K k) w w') ∧
    (∀ t w, Wk K t L1 w ads m → Calls Tryz.prog 7 #[pp t, .string ⟨#[97]⟩, n64 1, fl 4607182418800017408] w fun e w' => e = .returned .nilIface ∧ Wk K t L2 w' ads m ∧ Fp (fun k => ¬ K k) w w') ∧
    (∀ t w, Wk K t L2 w ads m → Calls Tryz.prog 22 #[pp t, .string ⟨#[97]⟩, .slice none 0 0] w fun e w' => e = .returned (.tuple #[n64 0, .nilIface]) ∧ Wk K t L3 w' ads m ∧ Fp (fun k => ¬ K k) w w') ∧
    (∀ t w, Wk K t L3 w ads m → Calls Tryz.prog 22 #[pp t, .string ⟨#[97]⟩, .slice none 0 0] w fun e w' => e = .returned (.tuple #[n64 1, .nilIface]) ∧ Wk K t L4 w' ads m ∧ Fp (fun k => ¬ K k) w w') ∧
    (∀ t w, Wk K t L4 w ads m → Calls Tryz.prog 22 #[pp t, .string ⟨#[97]⟩, .slice none 0 0] w fun e w' => e = .returned (.tuple #[n64 0, .nilIface]) ∧ Wk K t L5 w' ads m ∧ Fp (fun k => ¬ K k) w w') ∧
    (∀ t w, Wk K t L5 w ads m → Calls Tryz.prog 13 #[pp t, n64 0, n64 5] w fun e w' => e = .returned .nilIface ∧ Wk K t L6 w' ads m ∧ Fp (fun k => ¬ K k) w w') ∧
    (∀ t w, Wk K t L6 w ads m → Calls Tryz.prog 22 #[pp t, .string ⟨#[97]⟩, .slice none 0 0] w fun e w' => e = .returned (.tuple #[n64 1, .nilIface]) ∧ Wk K t L7 w' ads m ∧ Fp (fun k => ¬ K k) w w') ∧
    (∀ t w, Wk K t L7 w ads m → Calls Tryz.prog 27 #[pp t, .string ⟨#[97]⟩] w fun e w' => ∃ g c, e = .returned (.slice (some ⟨g, 0, none⟩) 2 c) ∧ w'.cell? ⟨g, 4, none⟩ = some (n64 45) ∧ Fp (fun k => ¬ K k) w w') :=
  ⟨aL1, aL2, aL3, aL4, aL5, aL6, aL7, fun _ _ h => al_r1 h, fun _ _ h => al_r2 h, fun _ _ h => al_p1 h, fun _ _ h => al_p2 h, fun _ _ h => al_p3 h, fun _ _ h => al_d h, fun _ _ h => al_p4 h, fun _ _ h => al_l h⟩

set_option maxRecDepth 20000 in
set_option maxHeartbeats 4000000 in
theorem alive_any {K : Nat → Prop} {w : World} {ads : Nat → Addr} {m : Int} (hg : Gw K w ads m) (lo : ∀ k, K k → k < w.heap.size) :
    Calls Tryz.prog 4 #[] w fun e w' => e = .returned (.bool true) ∧ Fp (fun k => ¬ K k) w w' := by
  have HN := Lib.hid (new_k hg lo)
  obtain ⟨L1, L2, L3, L4, L5, L6, L7, r1, r2, p1, p2, p3, d1, p4, q1⟩ := al_chain K ads m
  have R1 := Lib.hid r1
  have R2 := Lib.hid r2
  have P1 := Lib.hid p1
  have P2 := Lib.hid p2
  have P3 := Lib.hid p3
  have D1 := Lib.hid d1
  have P4 := Lib.hid p4
  have Q1 := Lib.hid q1
  clear r1 r2 p1 p2 p3 d1 p4 q1
  clear hg lo
  go_enter Tryz.func4, Tryz.ntmps4
  go_wp2_with (first
    | (go_at_call 5; refine HN.out.mono ?_; rintro e w1 ⟨rfl, hW, hF⟩; have HS := Lib.hid hW; have HF := Lib.hid hF; clear hW hF)
    | (first | go_at_call 7 | go_at_call 13 | go_at_call 22
       first
        | with_reducible refine (R1.out _ _ HS.out).mono ?_
        | with_reducible refine (R2.out _ _ HS.out).mono ?_
        | with_reducible refine (P1.out _ _ HS.out).mono ?_
        | with_reducible refine (P2.out _ _ HS.out).mono ?_
        | with_reducible refine (P3.out _ _ HS.out).mono ?_
        | with_reducible refine (D1.out _ _ HS.out).mono ?_
        | with_reducible refine (P4.out _ _ HS.out).mono ?_
       rintro e w1 ⟨rfl, hW, hF⟩; clear HS; have HS := Lib.hid hW; have HFN := Lib.hid (HF.out.then hF); clear hW hF HF; have HF := Lib.hid HFN.out; clear HFN)
    | (go_at_call 27; refine (Q1.out _ _ HS.out).mono ?_
       rintro e w1 ⟨gl, cl, rfl, hl1, hF⟩; clear HS; have HFN := Lib.hid (HF.out.then hF); clear hF HF; have HF := Lib.hid HFN.out; clear HFN))
  go_ret
  exact ⟨rfl, HF.out⟩
end Go.Proofs.YtgimmdnmndbcpaaGreatDoor
