/- RoutesPlays: the routes and the reference side by side. -/
import Derived.Test.YtgimmdnmndbcpaaGreatDoorZ9
import Derived.Test.YtgimmdnmndbcpaaGreatDoorZ4
import Derived.Test.YtgimmdnmndbcpaaGreatDoorZn
set_option linter.unusedVariables false
set_option linter.unusedSimpArgs false
namespace Go.Proofs.YtgimmdnmndbcpaaGreatDoor
open Go.RowKit Jw Lab Go.Shelf

/-- The routes L and the reference's routes Lm; all that lay at the start and the blocks X stay. -/
structure Dd (X : Nat → Prop) (w0 : World) (t mb : Nat) (L Lm : List Rt) (w : World) : Prop where
  ex : ∃ lv M lvm tvm, M.map Prod.snd = L ∧ St t lv M w ∧ Mr mb lvm tvm Lm w ∧ (∀ k, Foot t lv M k → ¬ Fm mb lvm tvm k ∧ w0.heap.size ≤ k ∧ ¬ X k) ∧ ∀ k, Fm mb lvm tvm k → w0.heap.size ≤ k ∧ ¬ X k
  bel : Below w0.heap.size w0 w
  xlt : ∀ k, X k → k < w.heap.size
/-- What stays. -/
abbrev Kx (X : Nat → Prop) (w0 : World) (k : Nat) : Prop := k < w0.heap.size ∨ X k
theorem Gw.wide {K K' : Nat → Prop} {w : World} {ads : Nat → Addr} {m : Int} (h : Gw K w ads m) (hK : ∀ k, K k → K' k) : Gw K' w ads m := ⟨h.gl, h.er, fun k hk => hK k (h.k7 k hk), hK _ h.ka⟩
section
variable {X : Nat → Prop} {w0 w w' : World} {t mb : Nat} {L Lm L' : List Rt} {ads : Nat → Addr} {m : Int}
theorem Dd.bel' (h : Dd X w0 t mb L Lm w) (hf : Fp (fun k => ¬ Kx X w0 k) w w') : Below w0.heap.size w0 w' :=
  h.bel.trans (hf.below (fun k hk => Nat.le_of_not_lt fun e => hk (.inl e)) h.bel.size)
theorem Dd.mono (h : Dd X w0 t mb L Lm w) {Y : Nat → Prop} (hY : ∀ k, Y k → X k) : Dd Y w0 t mb L Lm w := by
  obtain ⟨⟨lv, M, lvm, tvm, h1, h2, h3, h4, h5⟩, hb, hx⟩ := h
  exact ⟨⟨lv, M, lvm, tvm, h1, h2, h3, fun k hk => ⟨(h4 k hk).1, (h4 k hk).2.1, fun e => (h4 k hk).2.2 (hY k e)⟩, fun k hk => ⟨(h5 k hk).1, fun e => (h5 k hk).2 (hY k e)⟩⟩, hb, fun k hk => hx k (hY k hk)⟩
/-- Beside new blocks, which are to stay too. -/
theorem Dd.add (h : Dd X w0 t mb L Lm w) (hb : Below w.heap.size w w') : Dd (fun k => X k ∨ (w.heap.size ≤ k ∧ k < w'.heap.size)) w0 t mb L Lm w' := by
  obtain ⟨⟨lv, M, lvm, tvm, h1, h2, h3, h4, h5⟩, hb0, hx⟩ := h
  refine ⟨⟨lv, M, lvm, tvm, h1, h2.below hb, h3.below hb, fun k hk => ⟨(h4 k hk).1, (h4 k hk).2.1, fun e => ?_⟩, fun k hk => ⟨(h5 k hk).1, fun e => ?_⟩⟩, hb0.trans (hb.mono hb0.size), fun k hk => ?_⟩
  · rcases e with e | e
    · exact (h4 k hk).2.2 e
    · have := h2.lt hk; omega
  · rcases e with e | e
    · exact (h5 k hk).2 e
    · have := h3.lt hk; omega
  · rcases hk with e | e
    · exact Nat.lt_of_lt_of_le (hx k e) hb.size
    · exact e.2
theorem Dd.below (h : Dd X w0 t mb L Lm w) (hb : Below w.heap.size w w') : Dd X w0 t mb L Lm w' := (h.add hb).mono fun k e => .inl e
/-- A call of the routes. -/
theorem Dd.callT (h : Dd X w0 t mb L Lm w) (hg : Gw (fun k => k < w0.heap.size) w0 ads m) {f : FuncId} {args : Array Value} {R : Ending → Prop}
    (hc : ∀ K, Wk K t L w ads m → Calls Tryz.prog f args w fun e w' => R e ∧ Wk K t L' w' ads m ∧ Fp (fun k => ¬ K k) w w') :
    Calls Tryz.prog f args w fun e w' => R e ∧ Dd X w0 t mb L' Lm w' ∧ Fp (fun k => ¬ Kx X w0 k) w w' := by
  have h0 := h
  obtain ⟨⟨lv, M, lvm, tvm, h1, h2, h3, h4, h5⟩, hb, hx⟩ := h
  have hlo : ∀ k, (Kx X w0 k ∨ Fm mb lvm tvm k) → k < w.heap.size := fun k hk => by
    rcases hk with (e | e) | e
    · exact Nat.lt_of_lt_of_le e hb.size
    · exact hx k e
    · exact h3.lt e
  refine (hc (fun k => Kx X w0 k ∨ Fm mb lvm tvm k) ⟨⟨hlo, lv, M, h1, h2, fun k hk e => ?_⟩, (hg.below hb).wide fun k e => .inl (.inl e), hlo⟩).mono fun e w' ⟨hR, hW, hF⟩ => ?_
  · rcases e with (e | e) | e
    · have := (h4 k hk).2.1; omega
    · exact (h4 k hk).2.2 e
    · exact (h4 k hk).1 e
  · obtain ⟨⟨_, lv', M', e1, e2, e3⟩, _, _⟩ := hW
    have hF' : Fp (fun k => ¬ Kx X w0 k) w w' := hF.mono fun k hk e => hk (.inl e)
    refine ⟨hR, ⟨⟨lv', M', lvm, tvm, e1, e2, h3.fp hF (fun k hk e => e (.inr hk)), fun k hk => ⟨fun e => e3 k hk (.inr e), Nat.le_of_not_lt fun e => e3 k hk (.inl (.inl e)), fun e => e3 k hk (.inl (.inr e))⟩, h5⟩, h0.bel' hF', fun k hk => Nat.lt_of_lt_of_le (hx k hk) hF.size⟩, hF'⟩
/-- A call of the reference. -/
theorem Dd.callM (h : Dd X w0 t mb L Lm w) {f : FuncId} {args : Array Value} {R : Ending → Prop}
    (hc : ∀ lv tv, Mr mb lv tv Lm w → Calls Tryz.prog f args w fun e w' => R e ∧ Nr mb lv tv w w' L') :
    Calls Tryz.prog f args w fun e w' => R e ∧ Dd X w0 t mb L L' w' ∧ Fp (fun k => ¬ Kx X w0 k) w w' := by
  have h0 := h
  obtain ⟨⟨lv, M, lvm, tvm, h1, h2, h3, h4, h5⟩, hb, hx⟩ := h
  refine (hc lvm tvm h3).mono fun e w' ⟨hR, lv', tv', e1, e2, e3⟩ => ?_
  have hF' : Fp (fun k => ¬ Kx X w0 k) w w' := e2.mono fun k hk e => by
    rcases e with e | e
    · have := (h5 k hk).1; omega
    · exact (h5 k hk).2 e
  refine ⟨hR, ⟨⟨lv, M, lv', tv', h1, h2.fp e2 (fun k hk => (h4 k hk).1), e1, fun k hk => ⟨fun e => ?_, (h4 k hk).2⟩, fun k hk => ?_⟩, h0.bel' hF', fun k hk => Nat.lt_of_lt_of_le (hx k hk) hF'.size⟩, hF'⟩
  · rcases e3 k e with e | e
    · exact (h4 k hk).1 e
    · have := h2.lt hk; omega
  · rcases e3 k hk with e | e
    · exact h5 k e
    · refine ⟨Nat.le_trans hb.size e, fun hX => ?_⟩
      have := hx k hX; omega
end
/-- A call of a script, in block q. -/
def Oc (q : Nat) (o : Po) (bv : Value) (w : World) : Prop :=
  w.cell? ⟨q, 1, none⟩ = some (n64 o.ag) ∧ w.cell? ⟨q, 2, none⟩ = some (n64 o.nw) ∧ w.cell? ⟨q, 3, none⟩ = some (.string (bs o.pt)) ∧ w.cell? ⟨q, 4, none⟩ = some (fl o.wt) ∧ w.cell? ⟨q, 5, none⟩ = some bv
/-- Both, beside it. -/
structure De (X : Nat → Prop) (w0 : World) (q t mb : Nat) (o : Po) (bv : Value) (L Lm : List Rt) (w : World) : Prop where
  d : Dd X w0 t mb L Lm w
  c : Oc q o bv w
  xq : X q
theorem Oc.fp {q : Nat} {o : Po} {bv : Value} {w w' : World} {S : Nat → Prop} (h : Oc q o bv w) (hf : Fp S w w') (hq : q < w.heap.size) (hS : ¬ S q) : Oc q o bv w' := by
  have cc : ∀ i, w'.cell? ⟨q, i, none⟩ = w.cell? ⟨q, i, none⟩ := fun i => hf.cell (p := ⟨q, i, none⟩) hq hS
  obtain ⟨h1, h2, h3, h4, h5⟩ := h
  exact ⟨(cc 1).trans h1, (cc 2).trans h2, (cc 3).trans h3, (cc 4).trans h4, (cc 5).trans h5⟩
section
variable {X : Nat → Prop} {w0 w w' : World} {q t mb : Nat} {o : Po} {bv : Value} {L Lm L' : List Rt} {ads : Nat → Addr} {m : Int}
theorem De.below (h : De X w0 q t mb o bv L Lm w) (hb : Below w.heap.size w w') : De X w0 q t mb o bv L Lm w' :=
  ⟨h.d.below hb, h.c.fp (Fp.of_below (S := fun _ => False) hb) (h.d.xlt q h.xq) (fun e => e), h.xq⟩
theorem De.drewN (h : De X w0 q t mb o bv L Lm w) (n : Nat) : De X w0 q t mb o bv L Lm (w.drewN n) := h.below ⟨rfl, rfl, rfl, Nat.le_refl _, fun _ _ => rfl⟩
theorem De.drew (h : De X w0 q t mb o bv L Lm w) : De X w0 q t mb o bv L Lm w.drew := h.below ⟨rfl, rfl, rfl, Nat.le_refl _, fun _ _ => rfl⟩
theorem De.callT (h : De X w0 q t mb o bv L Lm w) (hg : Gw (fun k => k < w0.heap.size) w0 ads m) {f : FuncId} {args : Array Value} {R : Ending → Prop}
    (hc : ∀ K, Wk K t L w ads m → Calls Tryz.prog f args w fun e w' => R e ∧ Wk K t L' w' ads m ∧ Fp (fun k => ¬ K k) w w') :
    Calls Tryz.prog f args w fun e w' => R e ∧ De X w0 q t mb o bv L' Lm w' :=
  (h.d.callT hg hc).mono fun e w' ⟨h1, h2, h3⟩ => ⟨h1, h2, h.c.fp h3 (h.d.xlt q h.xq) (fun e => e (.inr h.xq)), h.xq⟩
theorem De.callM (h : De X w0 q t mb o bv L Lm w) {f : FuncId} {args : Array Value} {R : Ending → Prop}
    (hc : ∀ lv tv, Mr mb lv tv Lm w → Calls Tryz.prog f args w fun e w' => R e ∧ Nr mb lv tv w w' L') :
    Calls Tryz.prog f args w fun e w' => R e ∧ De X w0 q t mb o bv L L' w' :=
  (h.d.callM hc).mono fun e w' ⟨h1, h2, h3⟩ => ⟨h1, h2, h.c.fp h3 (h.d.xlt q h.xq) (fun e => e (.inr h.xq)), h.xq⟩
theorem De.b (h : De X w0 q t mb o bv L Lm w) {f : FuncId} {args : Array Value} {R : Ending → Prop}
    (hc : Calls Tryz.prog f args w fun e w' => R e ∧ Below w.heap.size w w') : Calls Tryz.prog f args w fun e w' => R e ∧ De X w0 q t mb o bv L Lm w' :=
  hc.mono fun e w' ⟨h1, h2⟩ => ⟨h1, h.below h2⟩
/-- The number of what is wrong. -/
theorem De.num (h : De X w0 q t mb o bv L Lm w) (hs : Sents w0 ads) {e : Option Nat} (he : ∀ i, e = some i → i < 18) :
    Calls Tryz.prog 6 #[ev ads e] w fun r w' => r = .returned (n64 (nE e)) ∧ De X w0 q t mb o bv L Lm w' := by
  cases e with
  | none => exact (num_nil w).mono fun r w' ⟨h1, h2⟩ => ⟨h1, by rw [← h2]; exact h⟩
  | some i => exact h.b ((num_at w ads (hs.below h.d.bel (Nat.le_refl _)) i (he i rfl)).mono fun r w' ⟨h1, h2⟩ => ⟨h1, h2⟩)
end
theorem drop_k {K : Nat → Prop} {t : Nat} {L : List Rt} {w : World} {ads : Nat → Addr} {m : Int} (h : Wk K t L w ads m) (hL : L.length ≤ 100000) (a : Int) :
    Calls Tryz.prog 17 #[pp t, n64 a] w fun e w' => e = .returned (ev ads (dropL a L).1) ∧ Wk K t (dropL a L).2 w' ads m ∧ Fp (fun k => ¬ K k) w w' := by
  obtain ⟨⟨lo, lv, M, rfl, hs, hK⟩, hg, _⟩ := h
  exact (drop_any hs hg (by simpa using hL) a).mono fun e w' ⟨h1, h2⟩ => ⟨h1, Wk.of lo hK hg h2⟩
section
variable (p : List UInt8) (a : Int) (L : List Rt)
theorem ask_e {i : Nat} (h : askE p a = some i) : i < 18 := by
  unfold askE at h
  split at h
  · split at h
    · cases h
    · injection h; omega
  · injection h; omega
theorem there_e {i : Nat} (h : (thereL p a L).2 = some i) : i < 18 := by
  unfold thereL at h
  split at h
  · rename_i e he
    injection h with h
    subst h
    exact ask_e p a he
  · split at h
    · cases h
    · injection h; omega
theorem reg_e (wt : Nat) : (∀ i, (regL p a wt L).1 = some i → i < 18) ∧ (regL p a wt L).2.length ≤ L.length + 1 := by
  unfold regL
  split
  · rename_i e he
    exact ⟨fun i h => by injection h with h; subst h; exact ask_e p a he, by simp⟩
  · split
    · exact ⟨fun i h => (by cases h), by simp⟩
    · split
      · exact ⟨fun i h => (by injection h; omega), by simp⟩
      · exact ⟨fun i h => (by cases h), by simp⟩
theorem drain_e : (∀ i, (drainL p a L).1 = some i → i < 18) ∧ (drainL p a L).2.length ≤ L.length + 1 := by
  unfold drainL
  split
  · rename_i e he
    exact ⟨fun i h => by injection h with h; subst h; exact there_e p a L (by rw [he]), by simp⟩
  · exact ⟨fun i h => (by cases h), by simp⟩
theorem leave_e : (∀ i, (leaveL p a L).1 = some i → i < 18) ∧ (leaveL p a L).2.length ≤ L.length + 1 := by
  unfold leaveL
  split
  · rename_i e he
    exact ⟨fun i h => by injection h with h; subst h; exact there_e p a L (by rw [he]), by simp⟩
  · exact ⟨fun i h => (by cases h), by simp only [List.length_eraseIdx]; split <;> omega⟩
theorem down_e (now : Int) : (∀ i, (downL a now L).1 = some i → i < 18) ∧ (downL a now L).2.length ≤ L.length + 1 := by
  unfold downL
  split
  · refine ⟨fun i h => ?_, ?_⟩
    · simp only at h
      split at h
      · cases h
      · injection h; omega
    · simp only
      split <;> simp
  · exact ⟨fun i h => (by injection h; omega), by simp⟩
theorem up_e : (∀ i, (upL a L).1 = some i → i < 18) ∧ (upL a L).2.length ≤ L.length + 1 := by
  unfold upL
  refine ⟨fun i h => ?_, ?_⟩
  · simp only at h
    split at h
    · cases h
    · injection h; omega
  · simp only
    split <;> simp
theorem drop_e : (∀ i, (dropL a L).1 = some i → i < 18) ∧ (dropL a L).2.length ≤ L.length + 1 := by
  unfold dropL
  refine ⟨fun i h => ?_, ?_⟩
  · simp only at h
    split at h
    · cases h
    · injection h; omega
  · simp only
    split
    · exact Nat.le_trans (List.length_filter_le _ _) (Nat.le_succ _)
    · simp
theorem exp_e : (∀ i, (expL a L).1.2 = some i → i < 18) ∧ (expL a L).2.length ≤ L.length + 1 := by
  unfold expL
  split
  · exact ⟨fun i h => (by cases h), Nat.le_trans (List.length_filter_le _ _) (Nat.le_succ _)⟩
  · exact ⟨fun i h => (by injection h; omega), by simp⟩
theorem setT_len (q : Rt → Bool) : ∀ (L : List Rt) (ts : List Nat), (setT q L ts).length = L.length
  | [], ts => rfl
  | r :: L, ts => by
    rw [setT]
    split
    · simp [setT_len q L]
    · simp [setT_len q L]
theorem pick_e (zs : List Int) : (∀ i, (pickL p zs L).1.2 = some i → i < 18) ∧ (pickL p zs L).2.length ≤ L.length + 1 := by
  unfold pickL
  split
  · split
    · exact ⟨fun i h => (by injection h; omega), by simp⟩
    · split
      · exact ⟨fun i h => (by injection h; omega), by simp⟩
      · exact ⟨fun i h => (by cases h), by rw [setT_len]; omega⟩
  · exact ⟨fun i h => (by injection h; omega), by simp⟩
end
end Go.Proofs.YtgimmdnmndbcpaaGreatDoor
