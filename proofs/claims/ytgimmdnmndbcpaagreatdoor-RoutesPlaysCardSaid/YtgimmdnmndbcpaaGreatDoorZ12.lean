/- RoutesPlays: what a round looks at. -/
import Derived.Test.YtgimmdnmndbcpaaGreatDoorZ10
set_option linter.unusedVariables false
set_option linter.unusedSimpArgs false
namespace Go.Proofs.YtgimmdnmndbcpaaGreatDoor
open Go.RowKit Jw Lab Go.Shelf

section
variable {X : Nat → Prop} {w0 w w' : World} {q t mb : Nat} {o : Po} {bv : Value} {L Lm L' : List Rt} {ads : Nat → Addr} {m : Int}
theorem Dd.wk (h : Dd X w0 t mb L Lm w) (hg : Gw (fun k => k < w0.heap.size) w0 ads m) : Wk (Kx X w0) t L w ads m := by
  obtain ⟨⟨lv, M, lvm, tvm, h1, h2, h3, h4, h5⟩, hb, hx⟩ := h
  have hlo : ∀ k, Kx X w0 k → k < w.heap.size := fun k hk => by
    rcases hk with e | e
    · exact Nat.lt_of_lt_of_le e hb.size
    · exact hx k e
  refine ⟨⟨hlo, lv, M, h1, h2, fun k hk e => ?_⟩, (hg.below hb).wide fun k e => .inl e, hlo⟩
  rcases e with e | e
  · have := (h4 k hk).2.1; omega
  · exact (h4 k hk).2.2 e
theorem Dd.all (h : Dd X w0 t mb L Lm w) (hg : Gw (fun k => k < w0.heap.size) w0 ads m) (hL : L.length ≤ 100000) :
    Calls Tryz.prog 26 #[pp t] w fun e w' => ∃ v, e = .returned v ∧ Rr w' v L ∧ Below w.heap.size w w' :=
  (all_k (h.wk hg) hL).mono fun e w' ⟨v, h1, h2, h3, _⟩ => ⟨v, h1, Rr.own h2, h3⟩
theorem Dd.list (h : Dd X w0 t mb L Lm w) (hg : Gw (fun k => k < w0.heap.size) w0 ads m) (hL : L.length ≤ 100000) (p : List UInt8) :
    Calls Tryz.prog 27 #[pp t, .string (bs p)] w fun e w' => ∃ v, e = .returned v ∧ Rr w' v (L.filter (nmR p)) ∧ Below w.heap.size w w' :=
  (list_k (h.wk hg) hL p).mono fun e w' ⟨v, h1, h2, h3, _⟩ => ⟨v, h1, Rr.own h2, h3⟩
theorem Dd.serve (h : Dd X w0 t mb L Lm w) (hL : L.length ≤ 100000) (p : List UInt8) :
    Calls Tryz.prog 28 #[pp t, .string (bs p)] w fun e w' => e = .returned (.bool ((L.filter (nmR p)).any svR)) ∧ Below w.heap.size w w' := by
  obtain ⟨⟨lv, M, lvm, tvm, rfl, h2, _⟩, _⟩ := h
  exact serve_any h2 (by simpa using hL) p
/-- The reference's list. -/
theorem Dd.mlist (h : Dd X w0 t mb L Lm w) : ∃ ao cap, w.cell? ⟨mb, 0, none⟩ = some (.slice ao Lm.length cap) ∧ (∀ w', Below w.heap.size w w' → w'.cell? ⟨mb, 0, none⟩ = some (.slice ao Lm.length cap) ∧ Rr w' (.slice ao Lm.length cap) Lm) ∧
    (Lm.length ≠ 0 → ∃ g, ao = some ⟨g, 0, none⟩ ∧ g < w.heap.size ∧ ∀ k, k < Lm.length * 5 → w.cell? ⟨g, k, none⟩ = (tL Lm)[k]?) := by
  obtain ⟨⟨lv, M, lvm, tvm, h1, h2, h3, _⟩, _⟩ := h
  obtain ⟨ao, cap, rfl⟩ := own_form h3.ol
  refine ⟨ao, cap, h3.blk.cell 0 _ rfl, fun w' hb => ⟨(h3.below hb).blk.cell 0 _ rfl, Rr.own (h3.below hb).ol⟩, fun hn => ?_⟩
  obtain ⟨g, cg, e, _, hlt, hc⟩ := own_cellN h3.ol (by omega)
  injection e with e _ _
  exact ⟨g, e, hlt, hc⟩
theorem De.callTF (h : De X w0 q t mb o bv L Lm w) (hg : Gw (fun k => k < w0.heap.size) w0 ads m) {f : FuncId} {args : Array Value} {R : Ending → Prop}
    (hc : ∀ K, Wk K t L w ads m → Calls Tryz.prog f args w fun e w' => R e ∧ Wk K t L' w' ads m ∧ Fp (fun k => ¬ K k) w w') :
    Calls Tryz.prog f args w fun e w' => R e ∧ De X w0 q t mb o bv L' Lm w' ∧ Fp (fun k => ¬ Kx X w0 k) w w' :=
  (h.d.callT hg hc).mono fun e w' ⟨h1, h2, h3⟩ => ⟨h1, ⟨h2, h.c.fp h3 (h.d.xlt q h.xq) (fun e => e (.inr h.xq)), h.xq⟩, h3⟩
theorem De.callMF (h : De X w0 q t mb o bv L Lm w) {f : FuncId} {args : Array Value} {R : Ending → Prop}
    (hc : ∀ lv tv, Mr mb lv tv Lm w → Calls Tryz.prog f args w fun e w' => R e ∧ Nr mb lv tv w w' L') :
    Calls Tryz.prog f args w fun e w' => R e ∧ De X w0 q t mb o bv L L' w' ∧ Fp (fun k => ¬ Kx X w0 k) w w' :=
  (h.d.callM hc).mono fun e w' ⟨h1, h2, h3⟩ => ⟨h1, ⟨h2, h.c.fp h3 (h.d.xlt q h.xq) (fun e => e (.inr h.xq)), h.xq⟩, h3⟩
theorem De.numF (h : De X w0 q t mb o bv L Lm w) (hs : Sents w0 ads) {e : Option Nat} (he : ∀ i, e = some i → i < 18) :
    Calls Tryz.prog 6 #[ev ads e] w fun r w' => r = .returned (n64 (nE e)) ∧ De X w0 q t mb o bv L Lm w' ∧ Fp (fun k => ¬ Kx X w0 k) w w' := by
  cases e with
  | none => exact (num_nil w).mono fun r w' ⟨h1, h2⟩ => ⟨h1, by rw [← h2]; exact h, by rw [← h2]; exact Fp.refl _ _⟩
  | some i => exact (num_at w ads (hs.below h.d.bel (Nat.le_refl _)) i (he i rfl)).mono fun r w' ⟨h1, h2⟩ => ⟨h1, h.below h2, Fp.of_below h2⟩
/-- A marked copy of a list, in block g. -/
def Gc (g : Nat) (zs : List Int) (w : World) : Prop := g < w.heap.size ∧ ∀ k, k < zs.length + 4 → w.cell? ⟨g, k, none⟩ = some (n64 ((zs ++ tl4).getD k 0))
theorem Gc.fp {g : Nat} {zs : List Int} {S : Nat → Prop} (h : Gc g zs w) (hf : Fp S w w') (hS : ¬ S g) : Gc g zs w' :=
  ⟨Nat.lt_of_lt_of_le h.1 hf.size, fun k hk => (hf.cell (p := ⟨g, k, none⟩) h.1 hS).trans (h.2 k hk)⟩
theorem Gc.own {g cp base : Nat} {zs : List Int} (h : w.ownsRow base 3 1 (.slice (some ⟨g, 0, none⟩) (zs.length + 4) cp) (zs.length + 4) ((zs ++ tl4).map n64)) : Gc g zs w := by
  obtain ⟨g', c', e, _, hlt, hc⟩ := own_cellN h (by omega)
  injection e with e _ _
  injection e with e
  injection e with e _ _
  subst e
  refine ⟨hlt, fun k hk => ?_⟩
  rw [hc k (by omega), List.getElem?_map, List.getD_eq_getElem?_getD, List.getElem?_eq_getElem (by simp [tl4]; omega)]
  rfl
theorem Gc.ri {g cp : Nat} {zs : List Int} (h : Gc g zs w) : Ri w (.slice (some ⟨g, 0, none⟩) zs.length cp) zs :=
  ⟨_, _, rfl, fun _ => ⟨g, 0, rfl, h.1, fun k hk => by
    rw [Nat.zero_add, h.2 k (by omega), List.getD_eq_getElem?_getD, List.getElem?_append_left hk, ← List.getD_eq_getElem?_getD]⟩⟩
/-- The copy is to stay too. -/
theorem De.ints (h : De (fun k => k = q) w0 q t mb o bv L Lm w) {g cp : Nat} (hB : Below w.heap.size w w') (hg : w.heap.size ≤ g) (hO : w'.ownsRow w.heap.size 3 1 (.slice (some ⟨g, 0, none⟩) (o.bz.length + 4) cp) (o.bz.length + 4) ((o.bz ++ tl4).map n64)) :
    De (fun k => k = q ∨ k = g) w0 q t mb o bv L Lm w' ∧ Gc g o.bz w' := by
  have hG := Gc.own hO
  refine ⟨⟨(h.d.add hB).mono fun k hk => ?_, (h.below hB).c, .inl rfl⟩, hG⟩
  rcases hk with e | e
  · exact .inl e
  · subst e
    exact .inr ⟨hg, hG.1⟩
theorem De.back {Y : Nat → Prop} (h : De Y w0 q t mb o bv L Lm w) (hY : Y q) : De (fun k => k = q) w0 q t mb o bv L Lm w := ⟨h.d.mono fun k hk => by subst hk; exact hY, h.c, rfl⟩
end
end Go.Proofs.YtgimmdnmndbcpaaGreatDoor
