/- The reference of layer 16: one route's fields written: Drain, Up, Down. -/
import Derived.Test.YtgimmdnmndbcpaaGreatDoorZ1
set_option linter.unusedVariables false
set_option linter.unusedSimpArgs false
namespace Go.Proofs.YtgimmdnmndbcpaaGreatDoor
open Go.RowKit Jw Lab Go.Shelf
attribute [local go_sem] run_store_float

theorem tL_set : ∀ (L : List Rt) (k i : Nat) (r r' : Rt) (u : Value), L[k]? = some r → i < 5 → tc r' = (tc r).set i u → (tL L).set (k * 5 + i) u = tL (L.set k r')
  | [], k, i, r, r', u, h, _, _ => by simp at h
  | x :: L, 0, i, r, r', u, h, hi, e => by
    simp only [List.getElem?_cons_zero, Option.some.injEq] at h
    subst h
    show (tc x ++ tL L).set (0 * 5 + i) u = tc r' ++ tL L
    rw [e, Nat.zero_mul, Nat.zero_add, List.set_append_left _ _ (by simp [tc]; omega)]
  | x :: L, k + 1, i, r, r', u, h, hi, e => by
    show (tc x ++ tL L).set ((k + 1) * 5 + i) u = tc x ++ tL (L.set k r')
    rw [List.set_append_right _ _ (by simp [tc]; omega), ← tL_set L k i r r' u (by simpa using h) hi e]
    congr 2
    simp [tc]
    omega
theorem tnL_same {L : List Rt} {k : Nat} {r r' : Rt} (h : L[k]? = some r) (e : r'.tn = r.tn) : tnL (L.set k r') = tnL L := by
  refine List.ext_getElem? fun j => ?_
  rw [tnL, tnL, List.getElem?_map, List.getElem?_map, List.getElem?_set]
  split
  · rename_i hj
    subst hj
    rw [if_pos (List.getElem?_eq_some_iff.1 h).1, h]
    simp [e]
  · rfl

/-- From one state to the next. -/
def Nr (mb : Nat) (lv tv : Value) (w w' : World) (L' : List Rt) : Prop :=
  ∃ lv' tv', Mr mb lv' tv' L' w' ∧ Fp (Fm mb lv tv) w w' ∧ ∀ k, Fm mb lv' tv' k → Fm mb lv tv k ∨ w.heap.size ≤ k
section
variable {mb : Nat} {lv tv : Value} {L : List Rt} {w w' w1 : World}
theorem Nr.refl (h : Mr mb lv tv L w) : Nr mb lv tv w w L := ⟨lv, tv, h, Fp.refl _ _, fun k hk => .inl hk⟩
theorem Nr.of_below (h : Mr mb lv tv L w) (hb : Below w.heap.size w w') : Nr mb lv tv w w' L := ⟨lv, tv, h.below hb, Fp.of_below hb, fun k hk => .inl hk⟩
theorem Nr.before {L' : List Rt} (hb : Below w.heap.size w w1) (h : Nr mb lv tv w1 w' L') : Nr mb lv tv w w' L' := by
  obtain ⟨lv', tv', h1, h2, h3⟩ := h
  refine ⟨lv', tv', h1, (Fp.of_below hb).then h2, fun k hk => ?_⟩
  rcases h3 k hk with h | h
  · exact .inl h
  · exact .inr (Nat.le_trans hb.size h)
theorem Nr.trans {lv1 tv1 : Value} {L' : List Rt} (hf : Fp (Fm mb lv tv) w w1) (hs : ∀ k, Fm mb lv1 tv1 k → Fm mb lv tv k ∨ w.heap.size ≤ k) (h : Nr mb lv1 tv1 w1 w' L') : Nr mb lv tv w w' L' := by
  obtain ⟨lv', tv', h1, h2, h3⟩ := h
  refine ⟨lv', tv', h1, hf.trans h2 hs, fun k hk => ?_⟩
  rcases h3 k hk with h | h
  · exact hs k h
  · exact .inr (Nat.le_trans hf.size h)
theorem Nr.after {L' : List Rt} (h : Nr mb lv tv w w1 L') (hb : Below w1.heap.size w1 w') : Nr mb lv tv w w' L' := by
  obtain ⟨lv', tv', h1, h2, h3⟩ := h
  exact ⟨lv', tv', h1.below hb, h2.then (Fp.of_below hb), h3⟩
/-- A field of a route is written. -/
theorem Mr.field {g cap : Nat} {k i : Nat} {r r' : Rt} {u : Value} (h : Mr mb (.slice (some ⟨g, 0, none⟩) L.length cap) tv L w) (hr : L[k]? = some r) (hi : i < 5) (e : tc r' = (tc r).set i u) (et : r'.tn = r.tn) :
    Mr mb (.slice (some ⟨g, 0, none⟩) L.length cap) tv (L.set k r') (w.setCell ⟨g, k * 5 + i, none⟩ u) := by
  obtain ⟨a1, a2, a3⟩ := h.apart
  have hl : (L.set k r').length = L.length := List.length_set
  refine ⟨h.blk.set_other _ _ (fun e => a1 (by rw [e]; rfl)), ?_, ?_⟩
  · rw [hl, ← tL_set L k i r r' u hr hi e]
    exact own_setN h.ol _ _
  · rw [hl, tnL_same hr et]
    exact own_same h.ot fun b hb => Below.heap_setCell _ _ _ _ (fun e => a3 g rfl (by subst e; exact hb))
theorem fp_field {g cap n : Nat} {i : Nat} {u : Value} : Fp (Fm mb (.slice (some ⟨g, 0, none⟩) n cap) tv) w (w.setCell ⟨g, i, none⟩ u) := Fp.set g i u w (.inr (.inl rfl))
/-- What is read of a route. -/
theorem Mr.cells (h : Mr mb lv tv L w) {k : Nat} {r : Rt} (hr : L[k]? = some r) : ∃ g cap, lv = .slice (some ⟨g, 0, none⟩) L.length cap ∧ g < w.heap.size ∧ w.cell? ⟨g, k * 5, none⟩ = some (.string (bs r.nm)) ∧ w.cell? ⟨g, k * 5 + 1, none⟩ = some (n64 r.ag) ∧
    w.cell? ⟨g, k * 5 + 2, none⟩ = some (fl r.wt) ∧ w.cell? ⟨g, k * 5 + 3, none⟩ = some (.bool r.dr) ∧ w.cell? ⟨g, k * 5 + 4, none⟩ = some (n64 r.un) ∧ ∀ i, w.frozen? ⟨g, i, none⟩ = false := by
  have hk := (List.getElem?_eq_some_iff.1 hr).1
  have ho := h.ol
  obtain ⟨g, cg, rfl, _, hgl, hcell⟩ := own_cellN ho (by omega)
  have cc : ∀ i, i < 5 → w.cell? ⟨g, k * 5 + i, none⟩ = (tc r)[i]? := fun i hi => (hcell (k * 5 + i) (by omega)).trans (tL_at L k i r hr hi)
  exact ⟨g, cg, rfl, hgl, cc 0 (by omega), cc 1 (by omega), cc 2 (by omega), cc 3 (by omega), cc 4 (by omega), fun i => own_free ho i⟩
end

theorem drainL_bad {p : List UInt8} {a : Int} {L : List Rt} {e : Nat} (h : askE p a = some e) : drainL p a L = (some e, L) := by rw [drainL, thereL, h]
theorem drainL_none {p : List UInt8} {a : Int} {L : List Rt} (h : askE p a = none) (hi : idx (isR p a) L = -1) : drainL p a L = (some 11, L) := by rw [drainL, thereL, h, hi]; rfl
theorem drainL_hit {p : List UInt8} {a : Int} {L : List Rt} {k : Nat} {r : Rt} (h : askE p a = none) (hi : idx (isR p a) L = k) (hr : L[k]? = some r) : drainL p a L = (none, L.set k (dnR r)) := by
  rw [drainL, thereL, h, hi]
  simp only
  rw [if_pos (by omega)]
  simp only [Int.toNat_natCast]
  rw [List.getD_eq_getElem?_getD, hr]
  rfl
theorem nE_ne {e : Nat} : ((nE (some e) : Int) == 0) = false := by
  rw [beq_eq_false_iff_ne]
  simp only [nE]
  omega

set_option maxRecDepth 20000 in
set_option maxHeartbeats 1000000 in
theorem rdrain_any {mb : Nat} {lv tv : Value} {L : List Rt} {w : World} (h : Mr mb lv tv L w) (hL : L.length ≤ 100000) (p : List UInt8) (hl : p.length < 4294967281) (a : Int) :
    Calls Tryz.prog 10 #[pp mb, .string (bs p), n64 a] w fun e w' => e = .returned (n64 (nE (drainL p a L).1)) ∧ Nr mb lv tv w w' (drainL p a L).2 := by
  have HA := Lib.hid (rask_any p hl a w)
  have HF := Lib.hid (fun (w1 : World) (hb : Below w.heap.size w w1) => rfind_any (h.below hb) hL p a)
  have HM := Lib.hid h
  cases he : askE p a with
  | some e =>
    rw [drainL_bad he]
    rw [he] at HA
    have hne := @nE_ne e
    obtain ⟨E, hE⟩ : ∃ E, E = nE (some e) := ⟨_, rfl⟩
    obtain ⟨I, hI⟩ : ∃ I, I = idx (isR p a) L := ⟨_, rfl⟩
    rw [← hE] at hne HA ⊢
    rw [← hI] at HF
    clear h he hE hI
    go_enter Tryz.func10, Tryz.ntmps10
    go_wp2_with (first
      | (go_at_call 32; refine HA.out.mono ?_; rintro e w1 ⟨rfl, hB⟩; have HB := Lib.hid hB; clear hB)
      | (go_at_call 33; refine (HF.out _ HB.out).mono ?_; rintro e w2 ⟨rfl, hB⟩; have HB2 := Lib.hid (below_all HB.out hB); clear hB))
    go_ret
    exact ⟨rfl, Nr.of_below HM.out HB2.out⟩
  | none =>
    rw [he] at HA
    have HA := Lib.hid (show Calls Tryz.prog 32 #[.string (bs p), n64 a] w fun e w' => e = .returned (n64 0) ∧ Below w.heap.size w w' from HA.out)
    rcases idxL_cases (isR p a) L with ⟨hi, _⟩ | ⟨k, r, hr, _, hi, _⟩
    · rw [drainL_none he hi]
      rw [hi] at HF
      clear h he hi
      go_enter Tryz.func10, Tryz.ntmps10
      go_wp2_with (first
        | (go_at_call 32; refine HA.out.mono ?_; rintro e w1 ⟨rfl, hB⟩; have HB := Lib.hid hB; clear hB)
        | (go_at_call 33; refine (HF.out _ HB.out).mono ?_; rintro e w2 ⟨rfl, hB⟩; have HB2 := Lib.hid (below_all HB.out hB); clear hB))
      go_ret
      exact ⟨rfl, Nr.of_below HM.out HB2.out⟩
    · rw [drainL_hit he hi hr]
      rw [hi] at HF
      have HR := Lib.hid hr
      have hkl : k < L.length := (List.getElem?_eq_some_iff.1 hr).1
      clear h he hi hr
      go_enter Tryz.func10, Tryz.ntmps10
      go_wp2_with (first
        | (go_at_call 32; refine HA.out.mono ?_; rintro e w1 ⟨rfl, hB⟩; have HB := Lib.hid hB; clear hB)
        | (go_at_call 33; refine (HF.out _ HB.out).mono ?_; rintro e w2 ⟨rfl, hB⟩; have HB2 := Lib.hid (below_all HB.out hB); have cm := (HM.out.below HB2.out).blk.cell 0 _ rfl; obtain ⟨g, cg, hlv, _, c0, c1, c2, c3, c4, hfz⟩ := (HM.out.below HB2.out).cells HR.out; subst hlv; clear hB))
      go_ret
      exact ⟨rfl, Nr.before HB2.out ⟨_, _, (HM.out.below HB2.out).field HR.out (by omega) rfl rfl, fp_field, fun k hk => .inl hk⟩⟩
end Go.Proofs.YtgimmdnmndbcpaaGreatDoor
