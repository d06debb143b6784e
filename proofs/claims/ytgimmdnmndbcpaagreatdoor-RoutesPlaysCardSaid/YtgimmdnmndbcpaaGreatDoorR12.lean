/- Routes: the calls beside the blocks that are to stay; alive. -/
import Derived.Test.YtgimmdnmndbcpaaGreatDoorR11
set_option linter.unusedVariables false
set_option linter.unusedSimpArgs false
namespace Go.Proofs.YtgimmdnmndbcpaaGreatDoor
open Go.RowKit Jw Lab Go.Shelf

/-- What stays, and the routes. -/
structure Wk (K : Nat → Prop) (t : Nat) (L : List Rt) (w : World) (ads : Nat → Addr) (m : Int) : Prop where
  sk : Sk K t L w
  gw : Gw K w ads m
  lo : ∀ k, K k → k < w.heap.size
theorem Wk.of {K : Nat → Prop} {t : Nat} {lv : Value} {M : List (Nat × Rt)} {w w' : World} {L' : List Rt} {ads : Nat → Addr} {m : Int} (lo : ∀ k, K k → k < w.heap.size) (hK : ∀ k, Foot t lv M k → ¬ K k) (hg : Gw K w ads m) (h : Nx t lv M w w' L') : Wk K t L' w' ads m ∧ Fp (fun k => ¬ K k) w w' := by
  obtain ⟨h1, h2⟩ := Sk.nx lo hK h
  exact ⟨⟨h1, hg.fp h2 (fun k hk hn => hn hk), h1.lo⟩, h2⟩
theorem Wk.below {K : Nat → Prop} {t : Nat} {L : List Rt} {w w' : World} {ads : Nat → Addr} {m : Int} (h : Wk K t L w ads m) (hb : Below w.heap.size w w') : Wk K t L w' ads m ∧ Fp (fun k => ¬ K k) w w' :=
  ⟨⟨h.sk.below hb, h.gw.below hb, (h.sk.below hb).lo⟩, Fp.of_below hb⟩
section
variable {K : Nat → Prop} {t : Nat} {L : List Rt} {w : World} {ads : Nat → Addr} {m : Int}
theorem register_k (h : Wk K t L w ads m) (hL : L.length < 100000) (p : List UInt8) (hl : p.length < 4294967281) (a : Int) (wt : Nat) :
    Calls Tryz.prog 7 #[pp t, .string (bs p), n64 a, fl wt] w fun e w' => e = .returned (ev ads (regL p a wt L).1) ∧ Wk K t (regL p a wt L).2 w' ads m ∧ Fp (fun k => ¬ K k) w w' := by
  obtain ⟨⟨lo, lv, M, rfl, hs, hK⟩, hg, _⟩ := h
  exact (register_any hs hg (by simpa using hL) p hl a wt).mono fun e w' ⟨h1, h2⟩ => ⟨h1, Wk.of lo hK hg h2⟩
theorem drain_k (h : Wk K t L w ads m) (hL : L.length ≤ 100000) (p : List UInt8) (hl : p.length < 4294967281) (a : Int) :
    Calls Tryz.prog 9 #[pp t, .string (bs p), n64 a] w fun e w' => e = .returned (ev ads (drainL p a L).1) ∧ Wk K t (drainL p a L).2 w' ads m ∧ Fp (fun k => ¬ K k) w w' := by
  obtain ⟨⟨lo, lv, M, rfl, hs, hK⟩, hg, _⟩ := h
  exact (drain_any hs hg (by simpa using hL) p hl a).mono fun e w' ⟨h1, h2⟩ => ⟨h1, Wk.of lo hK hg h2⟩
theorem leave_k (h : Wk K t L w ads m) (hL : L.length ≤ 100000) (p : List UInt8) (hl : p.length < 4294967281) (a : Int) :
    Calls Tryz.prog 11 #[pp t, .string (bs p), n64 a] w fun e w' => e = .returned (ev ads (leaveL p a L).1) ∧ Wk K t (leaveL p a L).2 w' ads m ∧ Fp (fun k => ¬ K k) w w' := by
  obtain ⟨⟨lo, lv, M, rfl, hs, hK⟩, hg, _⟩ := h
  exact (leave_any hs hg (by simpa using hL) p hl a).mono fun e w' ⟨h1, h2⟩ => ⟨h1, Wk.of lo hK hg h2⟩
theorem down_k (h : Wk K t L w ads m) (hL : L.length ≤ 100000) (a now : Int) :
    Calls Tryz.prog 13 #[pp t, n64 a, n64 now] w fun e w' => e = .returned (ev ads (downL a now L).1) ∧ Wk K t (downL a now L).2 w' ads m ∧ Fp (fun k => ¬ K k) w w' := by
  obtain ⟨⟨lo, lv, M, rfl, hs, hK⟩, hg, _⟩ := h
  exact (down_any hs hg (by simpa using hL) a now).mono fun e w' ⟨h1, h2⟩ => ⟨h1, Wk.of lo hK hg h2⟩
theorem up_k (h : Wk K t L w ads m) (hL : L.length ≤ 100000) (a : Int) :
    Calls Tryz.prog 15 #[pp t, n64 a] w fun e w' => e = .returned (ev ads (upL a L).1) ∧ Wk K t (upL a L).2 w' ads m ∧ Fp (fun k => ¬ K k) w w' := by
  obtain ⟨⟨lo, lv, M, rfl, hs, hK⟩, hg, _⟩ := h
  exact (up_any hs hg (by simpa using hL) a).mono fun e w' ⟨h1, h2⟩ => ⟨h1, Wk.of lo hK hg h2⟩
theorem expire_k (h : Wk K t L w ads m) (hL : L.length ≤ 100000) (now : Int) :
    Calls Tryz.prog 19 #[pp t, n64 now] w fun e w' => e = .returned (.tuple #[n64 (expL now L).1.1, ev ads (expL now L).1.2]) ∧ Wk K t (expL now L).2 w' ads m ∧ Fp (fun k => ¬ K k) w w' := by
  obtain ⟨⟨lo, lv, M, rfl, hs, hK⟩, hg, _⟩ := h
  exact (expire_any hs hg (by simpa using hL) now).mono fun e w' ⟨h1, h2⟩ => ⟨h1, Wk.of lo hK hg h2⟩
theorem picks_k (h : Wk K t L w ads m) (hL : L.length ≤ 800) (p : List UInt8) (hl : p.length < 4294967281) (v : Value) (zs : List Int) (hv : Ri w v zs) (hz : zs.length ≤ 9223372036854775807) :
    Calls Tryz.prog 22 #[pp t, .string (bs p), v] w fun e w' => e = .returned (.tuple #[n64 (pickL p zs L).1.1, ev ads (pickL p zs L).1.2]) ∧ Wk K t (pickL p zs L).2 w' ads m ∧ Fp (fun k => ¬ K k) w w' := by
  obtain ⟨⟨lo, lv, M, rfl, hs, hK⟩, hg, _⟩ := h
  exact (picks_any hs hg (by simpa using hL) p hl v zs hv hz).mono fun e w' ⟨h1, h2⟩ => ⟨h1, Wk.of lo hK hg h2⟩
theorem serve_k (h : Wk K t L w ads m) (hL : L.length ≤ 100000) (p : List UInt8) :
    Calls Tryz.prog 28 #[pp t, .string (bs p)] w fun e w' => e = .returned (.bool ((L.filter (nmR p)).any svR)) ∧ Wk K t L w' ads m ∧ Fp (fun k => ¬ K k) w w' := by
  have h0 := h
  obtain ⟨⟨lo, lv, M, rfl, hs, hK⟩, hg, _⟩ := h
  exact (serve_any hs (by simpa using hL) p).mono fun e w' ⟨h1, h2⟩ => ⟨h1, h0.below h2⟩
/-- Routes as they are handed out. -/
def tL (L : List Rt) : List Value := L.flatMap tc
theorem tv_tL (M : List (Nat × Rt)) : tv M = tL (M.map Prod.snd) := by simp [tv, tL, List.flatMap_map]
theorem list_k (h : Wk K t L w ads m) (hL : L.length ≤ 100000) (p : List UInt8) :
    Calls Tryz.prog 27 #[pp t, .string (bs p)] w fun e w' => ∃ v, e = .returned v ∧ w'.ownsRow w.heap.size 57 5 v (L.filter (nmR p)).length (tL (L.filter (nmR p))) ∧ Below w.heap.size w w' ∧ Wk K t L w' ads m ∧ Fp (fun k => ¬ K k) w w' := by
  have h0 := h
  obtain ⟨⟨lo, lv, M, rfl, hs, hK⟩, hg, _⟩ := h
  refine (list_any hs (by simpa using hL) p).mono fun e w' ⟨v, h1, h2, h3⟩ => ⟨v, h1, ?_, h3, h0.below h3⟩
  have e : (M.map Prod.snd).filter (nmR p) = (M.filter fun x => nmR p x.2).map Prod.snd := by rw [List.filter_map]; rfl
  rw [e, List.length_map, ← tv_tL]
  exact h2
theorem all_k (h : Wk K t L w ads m) (hL : L.length ≤ 100000) :
    Calls Tryz.prog 26 #[pp t] w fun e w' => ∃ v, e = .returned v ∧ w'.ownsRow w.heap.size 57 5 v L.length (tL L) ∧ Below w.heap.size w w' ∧ Wk K t L w' ads m ∧ Fp (fun k => ¬ K k) w w' := by
  have h0 := h
  obtain ⟨⟨lo, lv, M, rfl, hs, hK⟩, hg, _⟩ := h
  refine (all_any hs (by simpa using hL)).mono fun e w' ⟨v, h1, h2, h3⟩ => ⟨v, h1, ?_, h3, h0.below h3⟩
  rw [List.length_map, ← tv_tL]
  exact h2
theorem new_k (hg : Gw K w ads m) (lo : ∀ k, K k → k < w.heap.size) :
    Calls Tryz.prog 5 #[] w fun e w' => e = .returned (pp w.heap.size) ∧ Wk K w.heap.size [] w' ads m ∧ Fp (fun k => ¬ K k) w w' := by
  have HG := Lib.hid hg
  have HL := Lib.hid lo
  clear hg lo
  go_enter Tryz.func5, Tryz.ntmps5
  go_wp2
  go_ret
  have hb : Below w.heap.size w (w.alloc (.cells #[.slice none 0 0] 63)) := (Below.refl _ _).alloc (Nat.le_refl _) _
  refine ⟨rfl, ⟨⟨fun k hk => Nat.lt_of_lt_of_le (HL.out k hk) hb.size, .slice none 0 0, [], rfl, ⟨blk_new _ _ _, World.ownsRow_nil _ _ _ _, fun x hx => by simp at hx, by simp⟩, fun k hk hkk => ?_⟩, HG.out.below hb, fun k hk => Nat.lt_of_lt_of_le (HL.out k hk) hb.size⟩, Fp.of_below hb⟩
  have := HL.out k hkk
  rcases hk with e | e | e
  · omega
  · simp [Value.ownBlock] at e
  · simp at e
end

def aL1 : List Rt := (regL [97] 0 4611686018427387904 []).2
def aL2 : List Rt := (regL [97] 1 4607182418800017408 aL1).2
def aL3 : List Rt := (pickL [97] [] aL2).2
def aL4 : List Rt := (pickL [97] [] aL3).2
def aL5 : List Rt := (pickL [97] [] aL4).2
def aL6 : List Rt := (downL 0 5 aL5).2
def aL7 : List Rt := (pickL [97] [] aL6).2
theorem ar1 : regL [97] 0 4611686018427387904 [] = (none, aL1) := Prod.ext (by decide +kernel) rfl
theorem ar2 : regL [97] 1 4607182418800017408 aL1 = (none, aL2) := Prod.ext (by decide +kernel) rfl
theorem ap1 : pickL [97] [] aL2 = ((0, none), aL3) := Prod.ext (by decide +kernel) rfl
theorem ap2 : pickL [97] [] aL3 = ((1, none), aL4) := Prod.ext (by decide +kernel) rfl
theorem ap3 : pickL [97] [] aL4 = ((0, none), aL5) := Prod.ext (by decide +kernel) rfl
theorem ad : downL 0 5 aL5 = (none, aL6) := Prod.ext (by decide +kernel) rfl
theorem ap4 : pickL [97] [] aL6 = ((1, none), aL7) := Prod.ext (by decide +kernel) rfl
theorem al_len : aL1.length = 1 ∧ aL2.length = 2 ∧ aL3.length = 2 ∧ aL4.length = 2 ∧ aL5.length = 2 ∧ aL6.length = 2 ∧ aL7.length = 2 ∧ (aL7.filter (nmR [97])).length = 2 ∧ ((aL7.filter (nmR [97])).headD default).un = 45 := by decide +kernel
end Go.Proofs.YtgimmdnmndbcpaaGreatDoor
