/- RoutesMany: the calls beside the map that the law keeps. -/
import Derived.Test.YtgimmdnmndbcpaaDoorM1
import Derived.Test.YtgimmdnmndbcpaaDoorM2
import Derived.Test.YtgimmdnmndbcpaaDoorL2
set_option linter.unusedVariables false
set_option linter.unusedSimpArgs false
namespace Go.Proofs.YtgimmdnmndbcpaaDoor
open Go.RowKit Jw Lab Go.Shelf

theorem Gw.write {K : Nat → Prop} {w w' : World} {ads : Nat → Addr} {m : Int} {b : Nat} (h : Gw K w ads m) (hf : Fp (fun k => k = b) w w') (h7 : 7 ≤ b) (ha : (ads 4).block ≠ b) : Gw K w' ads m := by
  have h' : Gw (fun k => k < 7 ∨ k = (ads 4).block) w ads m := ⟨h.gl, h.er, fun k hk => .inl hk, .inr rfl⟩
  have h2 := h'.fp hf (fun k hk e => by
    rcases hk with hk | hk
    · omega
    · exact ha (hk.symm.trans e))
  exact ⟨h2.gl, h2.er, h.k7, h.ka⟩
/-- A block of those that are to stay is written. -/
theorem Wk.write {K : Nat → Prop} {t : Nat} {L : List Rt} {w w' : World} {ads : Nat → Addr} {m : Int} {b : Nat} (h : Wk K t L w ads m) (hf : Fp (fun k => k = b) w w') (hb : K b) (h7 : 7 ≤ b) (ha : (ads 4).block ≠ b) : Wk K t L w' ads m := by
  obtain ⟨⟨lo, lv, M, e, hs, hK⟩, hg, _⟩ := h
  have lo' : ∀ k, K k → k < w'.heap.size := fun k hk => Nat.lt_of_lt_of_le (lo k hk) hf.size
  exact ⟨⟨lo', lv, M, e, hs.fp hf (fun k hk e => hK k hk (by rw [e]; exact hb)), hK⟩, hg.write hf h7 ha, lo'⟩
/-- A new block is one of those that are to stay. -/
theorem Wk.more {K : Nat → Prop} {t : Nat} {L : List Rt} {w : World} {ads : Nat → Addr} {m : Int} (h : Wk K t L w ads m) (o : Go.Obj) : Wk (fun k => K k ∨ k = w.heap.size) t L (w.alloc o) ads m := by
  have hb : Below w.heap.size w (w.alloc o) := (Below.refl _ _).alloc (Nat.le_refl _) _
  obtain ⟨⟨lo, lv, M, e, hs, hK⟩, hg, _⟩ := h
  have lo' : ∀ k, (K k ∨ k = w.heap.size) → k < (w.alloc o).heap.size := fun k hk => by
    have hz : (w.alloc o).heap.size = w.heap.size + 1 := by simp
    rcases hk with hk | hk
    · have := lo k hk; omega
    · omega
  have hg' := hg.below hb
  refine ⟨⟨lo', lv, M, e, hs.below hb, fun k hk hkk => ?_⟩, ⟨hg'.gl, hg'.er, fun k hk => .inl (hg'.k7 k hk), .inl hg'.ka⟩, lo'⟩
  rcases hkk with h1 | h1
  · exact hK k hk h1
  · have := hs.lt hk; omega

/-- Routes of the name "a", of these agents, beside what stays. -/
def Mw (K : Nat → Prop) (t : Nat) (A : List Int) (w : World) (ads : Nat → Addr) (m : Int) : Prop := ∃ L, Mi L A ∧ Wk K t L w ads m
section
variable {K : Nat → Prop} {t : Nat} {A : List Int} {w : World} {ads : Nat → Addr} {m : Int}
theorem reg_m (h : Mw K t A w ads m) (hA : A.length ≤ 4) (a : Int) (h0 : 0 ≤ a) (h2 : a < 16) (wt : Nat) :
    Calls Tryd.prog 9 #[pp t, .string ⟨#[97]⟩, n64 a, fl wt] w fun e w' => e = .returned (ev ads (if (A.contains a || decide (A.length < 4)) = true then none else some 1)) ∧ Mw K t (addA A a) w' ads m ∧ Fp (fun k => ¬ K k) w w' := by
  obtain ⟨L, hi, hW⟩ := h
  obtain ⟨L', e, hi'⟩ := many_reg hi a h0 h2 wt
  have := register_k hW (by rw [hi.len]; omega) [97] (by decide) a wt
  rw [e] at this
  exact Calls.mono this fun e w' ⟨h1, h2, h3⟩ => ⟨h1, ⟨L', hi', h2⟩, h3⟩
theorem list_a (h : Mw K t A w ads m) (hA : A.length ≤ 4) :
    Calls Tryd.prog 16 #[pp t, .string ⟨#[97]⟩] w fun e w' => ∃ ao c, e = .returned (.slice ao A.length c) ∧ Mw K t A w' ads m ∧ Fp (fun k => ¬ K k) w w' := by
  obtain ⟨L, hi, hW⟩ := h
  have := list_k hW (by rw [hi.len]; omega) [97]
  rw [hi.filt_a, hi.len] at this
  refine Calls.mono this fun e w' ⟨v, h1, h2, h3, h4, h5⟩ => ?_
  obtain ⟨ao, c, hv⟩ := own_form h2
  exact ⟨ao, c, by rw [h1, hv], ⟨L, hi, h4⟩, h5⟩
theorem list_b (h : Mw K t A w ads m) (hA : A.length ≤ 4) :
    Calls Tryd.prog 16 #[pp t, .string ⟨#[98]⟩] w fun e w' => ∃ ao c, e = .returned (.slice ao 0 c) ∧ Mw K t A w' ads m ∧ Fp (fun k => ¬ K k) w w' := by
  obtain ⟨L, hi, hW⟩ := h
  have := list_k hW (by rw [hi.len]; omega) [98]
  rw [hi.filt_b] at this
  refine Calls.mono this fun e w' ⟨v, h1, h2, h3, h4, h5⟩ => ?_
  obtain ⟨ao, c, hv⟩ := own_form h2
  exact ⟨ao, c, by rw [h1, hv]; rfl, ⟨L, hi, h4⟩, h5⟩
theorem all_m (h : Mw K t A w ads m) (hA : A.length ≤ 4) :
    Calls Tryd.prog 10 #[pp t] w fun e w' => ∃ ao c, e = .returned (.slice ao A.length c) ∧ Mw K t A w' ads m ∧ Fp (fun k => ¬ K k) w w' := by
  obtain ⟨L, hi, hW⟩ := h
  have := all_k hW (by rw [hi.len]; omega)
  rw [hi.len] at this
  refine Calls.mono this fun e w' ⟨v, h1, h2, h3, h4, h5⟩ => ?_
  obtain ⟨ao, c, hv⟩ := own_form h2
  exact ⟨ao, c, by rw [h1, hv], ⟨L, hi, h4⟩, h5⟩
theorem leave_m (h : Mw K t A w ads m) (hA : A.length ≤ 4) (hn : A.Nodup) (a : Int) (h0 : 0 ≤ a) (h2 : a < 16) :
    Calls Tryd.prog 17 #[pp t, .string ⟨#[97]⟩, n64 a] w fun e w' => e = .returned (ev ads (if A.contains a = true then none else some 0)) ∧ (∃ A', Mw K t A' w' ads m ∧ A'.Nodup ∧ A'.length ≤ A.length ∧ ∀ x, x ∈ A' ↔ x ∈ A ∧ x ≠ a) ∧ Fp (fun k => ¬ K k) w w' := by
  obtain ⟨L, hi, hW⟩ := h
  obtain ⟨L', A', e, hi', hn', hl', hm⟩ := many_leave hi hn a h0 h2
  have := leave_k hW (by rw [hi.len]; omega) [97] (by decide) a
  rw [e] at this
  exact Calls.mono this fun e w' ⟨h1, h2, h3⟩ => ⟨h1, ⟨A', ⟨L', hi', h2⟩, hn', hl', hm⟩, h3⟩
theorem leave_yes (h : Mw K t A w ads m) (hA : A.length ≤ 4) (hn : A.Nodup) (a : Int) (h0 : 0 ≤ a) (h2 : a < 16) (hc : A.contains a = true) :
    Calls Tryd.prog 17 #[pp t, .string ⟨#[97]⟩, n64 a] w fun e w' => e = .returned .nilIface ∧ (∃ A', Mw K t A' w' ads m ∧ A'.Nodup ∧ A'.length ≤ A.length ∧ ∀ x, x ∈ A' ↔ x ∈ A ∧ x ≠ a) ∧ Fp (fun k => ¬ K k) w w' := by
  have := leave_m h hA hn a h0 h2
  rw [hc] at this
  exact this
theorem leave_no (h : Mw K t A w ads m) (hA : A.length ≤ 4) (hn : A.Nodup) (a : Int) (h0 : 0 ≤ a) (h2 : a < 16) (hc : A.contains a = false) :
    Calls Tryd.prog 17 #[pp t, .string ⟨#[97]⟩, n64 a] w fun e w' => e = .returned (er (ads 0)) ∧ (∃ A', Mw K t A' w' ads m ∧ A'.Nodup ∧ A'.length ≤ A.length ∧ ∀ x, x ∈ A' ↔ x ∈ A ∧ x ≠ a) ∧ Fp (fun k => ¬ K k) w w' := by
  have := leave_m h hA hn a h0 h2
  rw [hc] at this
  exact this
end
end Go.Proofs.YtgimmdnmndbcpaaDoor
