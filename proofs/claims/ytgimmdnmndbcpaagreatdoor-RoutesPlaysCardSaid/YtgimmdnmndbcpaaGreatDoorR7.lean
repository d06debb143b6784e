/- Routes: Drain, Leave. -/
import Derived.Test.YtgimmdnmndbcpaaGreatDoorR6
set_option linter.unusedVariables false
set_option linter.unusedSimpArgs false
namespace Go.Proofs.YtgimmdnmndbcpaaGreatDoor
open Go.RowKit Jw Lab Go.Shelf

theorem map_erase {α β : Type} (f : α → β) (L : List α) (k : Nat) : (L.map f).eraseIdx k = (L.eraseIdx k).map f := by
  rw [List.eraseIdx_eq_take_drop_succ, List.eraseIdx_eq_take_drop_succ, List.map_append, List.map_take, List.map_drop]
/-- The place of a route that has to be there. -/
def thereL (p : List UInt8) (a : Int) (L : List Rt) : Int × Option Nat :=
  match askE p a with
  | some e => (0, some e)
  | none => if 0 ≤ idx (isR p a) L then (idx (isR p a) L, none) else (0, some 11)

set_option maxRecDepth 20000 in
set_option maxHeartbeats 2000000 in
theorem there_any {K : Nat → Prop} {t : Nat} {lv : Value} {M : List (Nat × Rt)} {w : World} {ads : Nat → Addr} {m : Int} (hs : St t lv M w) (hg : Gw K w ads m) (hM : M.length ≤ 100000) (p : List UInt8) (hl : p.length < 4294967281) (a : Int) :
    Calls Tryz.prog 34 #[pp t, .string (bs p), n64 a] w fun e w' => e = .returned (.tuple #[n64 (thereL p a (M.map Prod.snd)).1, ev ads (thereL p a (M.map Prod.snd)).2]) ∧ Below w.heap.size w w' := by
  have HA := Lib.hid (ask_any hg p hl a)
  have HS := Lib.hid hs
  have HG := Lib.hid hg
  cases hask : askE p a with
  | some e =>
    have hr : thereL p a (M.map Prod.snd) = (0, some e) := by rw [thereL, hask]
    rw [hr]
    rw [hask] at HA
    have HA2 := Lib.hid (show Calls Tryz.prog 29 #[.string (bs p), n64 a] w fun e2 w' => e2 = .returned (.iface 126 (.pointer (some (ads e)))) ∧ Below w.heap.size w w' from HA.out)
    clear HA hs hg hask hr
    go_enter Tryz.func34, Tryz.ntmps34
    go_wp2_with (go_at_call 29; refine HA2.out.mono ?_; rintro e2 w1 ⟨rfl, hB⟩)
    go_ret2
    exact ⟨rfl, hB⟩
  | none =>
    rw [hask] at HA
    have HA2 := Lib.hid (show Calls Tryz.prog 29 #[.string (bs p), n64 a] w fun e2 w' => e2 = .returned .nilIface ∧ Below w.heap.size w w' from HA.out)
    rcases idx_cases (isR p a) M with ⟨hi, hno⟩ | ⟨k, x, hx, hf, hi, hno⟩
    · have hr : thereL p a (M.map Prod.snd) = (0, some 11) := by
        rw [thereL, hask]
        simp only [hi]
        rw [if_neg (by omega)]
      rw [hr]
      have HI := Lib.hid hi
      clear HA hs hg hask hr hi hno
      go_enter Tryz.func34, Tryz.ntmps34
      go_upto_region 6 with (first | (go_at_call 29; refine HA2.out.mono ?_; rintro e2 w1 ⟨rfl, hB⟩; have HF := Lib.hid (find_any (HS.out.below hB) (by omega) p a); rw [HI.out] at HF; have HB := Lib.hid hB; clear hB) | (go_at_call 30; refine HF.out.mono ?_; rintro e2 w2 ⟨rfl, hB⟩; have HB2 := Lib.hid (below_all HB.out hB); clear hB; have he := (HG.out.below HB2.out).er 11 (by decide)))
      go_quiet (fail)
      go_wp2
      go_ret2
      exact ⟨rfl, HB2.out.os, HB2.out.tape, HB2.out.output, HB2.out.size, HB2.out.block⟩
    · have hr : thereL p a (M.map Prod.snd) = ((k : Int), none) := by
        rw [thereL, hask]
        simp only [hi]
        rw [if_pos (by omega)]
      rw [hr]
      have HI := Lib.hid hi
      clear HA hs hg hask hr hi hno
      go_enter Tryz.func34, Tryz.ntmps34
      go_wp2_with (first | (go_at_call 29; refine HA2.out.mono ?_; rintro e2 w1 ⟨rfl, hB⟩; have HF := Lib.hid (find_any (HS.out.below hB) (by omega) p a); rw [HI.out] at HF; have HB := Lib.hid hB; clear hB) | (go_at_call 30; refine HF.out.mono ?_; rintro e2 w2 ⟨rfl, hB⟩; have HB2 := Lib.hid (below_all HB.out hB); clear hB))
      go_ret2
      exact ⟨rfl, HB2.out⟩

def dnR (r : Rt) : Rt := { r with dr := true }
/-- Drain, Leave: what is wrong, the routes behind it. -/
def drainL (p : List UInt8) (a : Int) (L : List Rt) : Option Nat × List Rt :=
  match thereL p a L with
  | (_, some e) => (some e, L)
  | (i, none) => (none, L.set i.toNat (dnR (L.getD i.toNat default)))
def leaveL (p : List UInt8) (a : Int) (L : List Rt) : Option Nat × List Rt :=
  match thereL p a L with
  | (_, some e) => (some e, L)
  | (i, none) => (none, L.eraseIdx i.toNat)
theorem there_cases (p : List UInt8) (a : Int) (M : List (Nat × Rt)) : (∃ e, thereL p a (M.map Prod.snd) = (0, some e)) ∨ ∃ (k : Nat) (x : Nat × Rt), M[k]? = some x ∧ thereL p a (M.map Prod.snd) = ((k : Int), none) := by
  unfold thereL
  cases askE p a with
  | some e => exact .inl ⟨e, rfl⟩
  | none =>
    rcases idx_cases (isR p a) M with ⟨hi, hno⟩ | ⟨k, x, hx, hf, hi, hno⟩
    · simp only [hi]
      exact .inl ⟨11, rfl⟩
    · simp only [hi]
      rw [if_pos (by omega)]
      exact .inr ⟨k, x, hx, rfl⟩

set_option maxRecDepth 20000 in
set_option maxHeartbeats 2000000 in
theorem drain_any {K : Nat → Prop} {t : Nat} {lv : Value} {M : List (Nat × Rt)} {w : World} {ads : Nat → Addr} {m : Int} (hs : St t lv M w) (hg : Gw K w ads m) (hM : M.length ≤ 100000) (p : List UInt8) (hl : p.length < 4294967281) (a : Int) :
    Calls Tryz.prog 9 #[pp t, .string (bs p), n64 a] w fun e w' => e = .returned (ev ads (drainL p a (M.map Prod.snd)).1) ∧ Nx t lv M w w' (drainL p a (M.map Prod.snd)).2 := by
  have ht := there_any hs hg hM p hl a
  rcases there_cases p a M with ⟨e, he⟩ | ⟨k, x, hx, he⟩
  · have hr : drainL p a (M.map Prod.snd) = (some e, M.map Prod.snd) := by rw [drainL, he]
    rw [hr]
    rw [he] at ht
    have HT := Lib.hid (show Calls Tryz.prog 34 #[pp t, .string (bs p), n64 a] w fun e2 w' => e2 = .returned (.tuple #[n64 0, .iface 126 (.pointer (some (ads e)))]) ∧ Below w.heap.size w w' from ht)
    have HS := Lib.hid hs
    clear ht hr he hs hg
    go_enter Tryz.func9, Tryz.ntmps9
    go_wp2_with (go_at_call 34; refine HT.out.mono ?_; rintro e2 w1 ⟨rfl, hB⟩)
    go_ret
    exact ⟨rfl, Nx.of_below HS.out hB⟩
  · have hr : drainL p a (M.map Prod.snd) = (none, (M.map Prod.snd).set k (dnR x.2)) := by
      rw [drainL, he]
      simp [hx]
    rw [hr]
    rw [he] at ht
    have HT := Lib.hid (show Calls Tryz.prog 34 #[pp t, .string (bs p), n64 a] w fun e2 w' => e2 = .returned (.tuple #[n64 k, .nilIface]) ∧ Below w.heap.size w w' from ht)
    have hk : k < M.length := (List.getElem?_eq_some_iff.1 hx).1
    obtain ⟨ao, c, rfl, hao⟩ := Pr.own hs.own
    obtain ⟨gg, rfl, hgg, hc⟩ := hao (by omega)
    have hck := Lib.hid (hc k x hx)
    have hkz : (k : Int) < (M.length : Int) := by omega
    have HX := Lib.hid hx
    have HS := Lib.hid hs
    clear ht hr he hs hg hao hc hx
    go_enter Tryz.func9, Tryz.ntmps9
    go_wp2_with (go_at_call 34; refine HT.out.mono ?_; rintro e2 w2 ⟨rfl, hB⟩; have HB2 := Lib.hid hB; clear hB; have hst2 := HS.out.below HB2.out; have hct := hst2.blk.cell 0 _ rfl; have hc2 : w2.cell? ⟨gg, k, none⟩ = some (pp x.1) := (HB2.out.cell (p := ⟨gg, k, none⟩) hgg).trans hck.out; have hbx := hst2.rts x (List.mem_of_getElem? HX.out); have k3 : w2.cell? ⟨x.1, 3, none⟩ = some (.bool x.2.dr) := hbx.cell 3 _ rfl; have g3 := hbx.free 3; have HBX := Lib.hid hbx; have HS2 := Lib.hid hst2; clear hbx hst2)
    go_ret
    refine ⟨rfl, Nx.of_fp HB2.out (HS2.out.upd HX.out (HBX.out.set 3 (.bool true)) (Fp.set (S := fun b => b = x.1) x.1 3 _ _ rfl))⟩

set_option maxRecDepth 20000 in
set_option maxHeartbeats 2000000 in
theorem leave_any {K : Nat → Prop} {t : Nat} {lv : Value} {M : List (Nat × Rt)} {w : World} {ads : Nat → Addr} {m : Int} (hs : St t lv M w) (hg : Gw K w ads m) (hM : M.length ≤ 100000) (p : List UInt8) (hl : p.length < 4294967281) (a : Int) :
    Calls Tryz.prog 11 #[pp t, .string (bs p), n64 a] w fun e w' => e = .returned (ev ads (leaveL p a (M.map Prod.snd)).1) ∧ Nx t lv M w w' (leaveL p a (M.map Prod.snd)).2 := by
  have ht := there_any hs hg hM p hl a
  rcases there_cases p a M with ⟨e, he⟩ | ⟨k, x, hx, he⟩
  · have hr : leaveL p a (M.map Prod.snd) = (some e, M.map Prod.snd) := by rw [leaveL, he]
    rw [hr]
    rw [he] at ht
    have HT := Lib.hid (show Calls Tryz.prog 34 #[pp t, .string (bs p), n64 a] w fun e2 w' => e2 = .returned (.tuple #[n64 0, .iface 126 (.pointer (some (ads e)))]) ∧ Below w.heap.size w w' from ht)
    have HS := Lib.hid hs
    clear ht hr he hs hg
    go_enter Tryz.func11, Tryz.ntmps11
    go_wp2_with (go_at_call 34; refine HT.out.mono ?_; rintro e2 w1 ⟨rfl, hB⟩)
    go_ret
    exact ⟨rfl, Nx.of_below HS.out hB⟩
  · have hr : leaveL p a (M.map Prod.snd) = (none, (M.eraseIdx k).map Prod.snd) := by
      rw [leaveL, he]
      simp [map_erase]
    rw [hr]
    rw [he] at ht
    have HT := Lib.hid (show Calls Tryz.prog 34 #[pp t, .string (bs p), n64 a] w fun e2 w' => e2 = .returned (.tuple #[n64 k, .nilIface]) ∧ Below w.heap.size w w' from ht)
    have hk : k < M.length := (List.getElem?_eq_some_iff.1 hx).1
    have hwr : IntKind.i64.wrap ((k : Int) + 1) = (k : Int) + 1 := by rw [IntKind.wrap_i64]; omega
    have HX := Lib.hid hx
    have HS := Lib.hid hs
    clear ht hr he hs hg hx
    go_enter Tryz.func11, Tryz.ntmps11
    go_wp2_with (first | (go_at_call 34; refine HT.out.mono ?_; rintro e2 w2 ⟨rfl, hB⟩; have HB2 := Lib.hid hB; clear hB; have hst2 := HS.out.below HB2.out; have hct := hst2.blk.cell 0 _ rfl; have HD := Lib.hid (delete_any lv M w2 hst2.own k hk hM); have HS2 := Lib.hid hst2; clear hst2) | (go_at_call 35; refine HD.out.mono ?_; rintro e2 w3 ⟨v3, rfl, hO, hF, hob⟩; obtain ⟨ao3, cp3, hv3, _⟩ := Pr.own hO; subst hv3; have htb3 := hF.blk HS2.out.blk HS2.out.apart.2.1; have c3 : w3.cell? ⟨t, 0, none⟩ = some lv := htb3.cell 0 _ rfl; have f3 := htb3.free 0; have HR := Lib.hid (HS2.out.row hO hF (fun k hk => .inl (hob k hk)) (fun x hx => .inl (List.mem_of_mem_eraseIdx hx)) (by rw [← map_erase]; exact HS2.out.nod.sublist (List.eraseIdx_sublist _ _))); clear hO hF hob htb3))
    go_ret
    exact ⟨rfl, Nx.of_fp HB2.out HR.out⟩
end Go.Proofs.YtgimmdnmndbcpaaGreatDoor
