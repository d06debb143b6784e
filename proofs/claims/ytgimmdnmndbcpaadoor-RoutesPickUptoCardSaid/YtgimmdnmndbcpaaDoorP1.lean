/- RoutesPick: what its calls come to. -/
import Derived.Test.YtgimmdnmndbcpaaDoorL2
set_option linter.unusedVariables false
set_option linter.unusedSimpArgs false
namespace Go.Proofs.YtgimmdnmndbcpaaDoor
open Go.RowKit Jw Lab Go.Shelf

/-- Every route's agent is a number that may be. -/
def Ag (L : List Rt) : Prop := ∀ r ∈ L, numOk r.ag = true
theorem Ag.set {L : List Rt} (h : Ag L) (k : Nat) {r : Rt} (hr : numOk r.ag = true) : Ag (L.set k r) := fun x hx => by
  rcases List.mem_or_eq_of_mem_set hx with h1 | h1
  · exact h x h1
  · rw [h1]; exact hr
theorem Ag.getD {L : List Rt} (h : Ag L) (k : Nat) : numOk (L.getD k default).ag = true := by
  rw [List.getD_eq_getElem?_getD]
  cases e : L[k]? with
  | none => decide
  | some r => exact h r (List.mem_of_getElem? e)
theorem Ag.map {L : List Rt} (h : Ag L) {f : Rt → Rt} (hf : ∀ r, (f r).ag = r.ag) : Ag (L.map f) := fun x hx => by
  obtain ⟨r, hr, rfl⟩ := List.mem_map.1 hx
  rw [hf]; exact h r hr
theorem ask_num {p : List UInt8} {a : Int} (h : askE p a = none) : numOk a = true := by
  unfold askE at h
  split at h
  · split at h
    · assumption
    · cases h
  · cases h
theorem reg_inv {L : List Rt} (h : Ag L) (p : List UInt8) (a : Int) (wt : Nat) : Ag (regL p a wt L).2 ∧ (regL p a wt L).2.length ≤ L.length + 1 := by
  unfold regL
  cases e : askE p a with
  | some x => exact ⟨h, Nat.le_succ _⟩
  | none =>
    simp only
    split
    · refine ⟨h.set _ ?_, by simp⟩
      exact h.getD _
    · split
      · exact ⟨h, Nat.le_succ _⟩
      · refine ⟨fun r hr => ?_, by simp⟩
        rcases List.mem_append.1 hr with h1 | h1
        · exact h r h1
        · rw [List.mem_singleton.1 h1]; exact ask_num e
theorem drain_inv {L : List Rt} (h : Ag L) (p : List UInt8) (a : Int) : Ag (drainL p a L).2 ∧ (drainL p a L).2.length ≤ L.length := by
  unfold drainL
  split
  · exact ⟨h, Nat.le_refl _⟩
  · refine ⟨h.set _ ?_, by simp⟩
    exact h.getD _
theorem leave_inv {L : List Rt} (h : Ag L) (p : List UInt8) (a : Int) : Ag (leaveL p a L).2 ∧ (leaveL p a L).2.length ≤ L.length := by
  unfold leaveL
  split
  · exact ⟨h, Nat.le_refl _⟩
  · exact ⟨fun r hr => h r (List.mem_of_mem_eraseIdx hr), (List.eraseIdx_sublist _ _).length_le⟩
theorem down_inv {L : List Rt} (h : Ag L) (a now : Int) : Ag (downL a now L).2 ∧ (downL a now L).2.length ≤ L.length := by
  unfold downL
  by_cases hn : numOk now = true
  · by_cases ha : numOk a = true
    · simp only [if_pos hn, if_pos ha]
      refine ⟨h.map fun r => ?_, by simp⟩
      unfold eachR dnH
      split
      · split <;> rfl
      · rfl
    · simp only [if_pos hn, if_neg ha]
      exact ⟨h, Nat.le_refl _⟩
  · simp only [if_neg hn]
    exact ⟨h, Nat.le_refl _⟩
theorem up_inv {L : List Rt} (h : Ag L) (a : Int) : Ag (upL a L).2 ∧ (upL a L).2.length ≤ L.length := by
  unfold upL
  by_cases ha : numOk a = true
  · simp only [if_pos ha]
    refine ⟨h.map fun r => ?_, by simp⟩
    unfold eachR upH
    split <;> rfl
  · simp only [if_neg ha]
    exact ⟨h, Nat.le_refl _⟩

/-- Routes, at most so many, beside what stays. -/
def Ws (K : Nat → Prop) (t k : Nat) (w : World) (ads : Nat → Addr) (m : Int) : Prop := ∃ L, L.length ≤ k ∧ Ag L ∧ Wk K t L w ads m
section
variable {K : Nat → Prop} {t k : Nat} {w : World} {ads : Nat → Addr} {m : Int}
theorem reg_s (h : Ws K t k w ads m) (hk : k < 1000) (p : List UInt8) (hl : p.length < 4294967281) (a : Int) (wt : Nat) :
    Calls Tryd.prog 9 #[pp t, .string (bs p), n64 a, fl wt] w fun e w' => ∃ v, e = .returned v ∧ Ws K t (k + 1) w' ads m ∧ Fp (fun k => ¬ K k) w w' := by
  obtain ⟨L, h1, h2, h3⟩ := h
  obtain ⟨i1, i2⟩ := reg_inv h2 p a wt
  exact (register_k h3 (by omega) p hl a wt).mono fun e w' ⟨r1, r2, r3⟩ => ⟨_, r1, ⟨_, by omega, i1, r2⟩, r3⟩
theorem drain_s (h : Ws K t k w ads m) (hk : k < 1000) (p : List UInt8) (hl : p.length < 4294967281) (a : Int) :
    Calls Tryd.prog 18 #[pp t, .string (bs p), n64 a] w fun e w' => ∃ v, e = .returned v ∧ Ws K t (k + 1) w' ads m ∧ Fp (fun k => ¬ K k) w w' := by
  obtain ⟨L, h1, h2, h3⟩ := h
  obtain ⟨i1, i2⟩ := drain_inv h2 p a
  exact (drain_k h3 (by omega) p hl a).mono fun e w' ⟨r1, r2, r3⟩ => ⟨_, r1, ⟨_, by omega, i1, r2⟩, r3⟩
theorem leave_s (h : Ws K t k w ads m) (hk : k < 1000) (p : List UInt8) (hl : p.length < 4294967281) (a : Int) :
    Calls Tryd.prog 17 #[pp t, .string (bs p), n64 a] w fun e w' => ∃ v, e = .returned v ∧ Ws K t (k + 1) w' ads m ∧ Fp (fun k => ¬ K k) w w' := by
  obtain ⟨L, h1, h2, h3⟩ := h
  obtain ⟨i1, i2⟩ := leave_inv h2 p a
  exact (leave_k h3 (by omega) p hl a).mono fun e w' ⟨r1, r2, r3⟩ => ⟨_, r1, ⟨_, by omega, i1, r2⟩, r3⟩
theorem down_s (h : Ws K t k w ads m) (hk : k < 1000) (a now : Int) :
    Calls Tryd.prog 12 #[pp t, n64 a, n64 now] w fun e w' => ∃ v, e = .returned v ∧ Ws K t (k + 1) w' ads m ∧ Fp (fun k => ¬ K k) w w' := by
  obtain ⟨L, h1, h2, h3⟩ := h
  obtain ⟨i1, i2⟩ := down_inv h2 a now
  exact (down_k h3 (by omega) a now).mono fun e w' ⟨r1, r2, r3⟩ => ⟨_, r1, ⟨_, by omega, i1, r2⟩, r3⟩
theorem up_s (h : Ws K t k w ads m) (hk : k < 1000) (a : Int) :
    Calls Tryd.prog 15 #[pp t, n64 a] w fun e w' => ∃ v, e = .returned v ∧ Ws K t (k + 1) w' ads m ∧ Fp (fun k => ¬ K k) w w' := by
  obtain ⟨L, h1, h2, h3⟩ := h
  obtain ⟨i1, i2⟩ := up_inv h2 a
  exact (up_k h3 (by omega) a).mono fun e w' ⟨r1, r2, r3⟩ => ⟨_, r1, ⟨_, by omega, i1, r2⟩, r3⟩
theorem Ws.below (h : Ws K t k w ads m) {w' : World} (hb : Below w.heap.size w w') : Ws K t k w' ads m := by
  obtain ⟨L, h1, h2, h3⟩ := h
  exact ⟨L, h1, h2, (h3.below hb).1⟩
theorem Ws.succ (h : Ws K t k w ads m) : Ws K t (k + 1) w ads m := by
  obtain ⟨L, h1, h2, h3⟩ := h
  exact ⟨L, by omega, h2, h3⟩
end

/-- Who is picked, of the routes of a name: N. -/
theorem pick_law (p : List UInt8) (zs : List Int) (L N : List Rt) (hp : patOk p = true) (hN : N = L.filter (nmR p)) (A : List Int) (hA : ∀ x, x ∈ A ↔ ∃ r ∈ N, (svR r && !busyR zs r) = true ∧ r.ag = x) :
    ((N.filter svR).length = 0 → (pickL p zs L).1.2 = some 0) ∧ ((N.filter svR).length ≠ 0 → A = [] → (pickL p zs L).1.2 = some 2) ∧ ((N.filter svR).length ≠ 0 → A ≠ [] → (pickL p zs L).1.2 = none ∧ (pickL p zs L).1.1 ∈ A) := by
  have e1 : L.filter (pickR p) = N.filter svR := by rw [hN, List.filter_filter]; congr 1; funext r; simp [pickR, nmR, svR, Bool.and_comm]
  have e2 : L.filter (freeR p zs) = N.filter fun r => svR r && !busyR zs r := by
    rw [hN, List.filter_filter]
    congr 1
    funext r
    simp only [freeR, pickR, nmR, svR]
    cases r.nm == p <;> simp
  rw [pickL, if_pos hp, e1, e2]
  generalize hF : (N.filter fun r => svR r && !busyR zs r) = F
  have hmem : ∀ x, x ∈ A ↔ ∃ r ∈ F, r.ag = x := fun x => by
    rw [hA x, ← hF]
    constructor
    · rintro ⟨r, h1, h2, h3⟩; exact ⟨r, List.mem_filter.2 ⟨h1, h2⟩, h3⟩
    · rintro ⟨r, h1, h3⟩; exact ⟨r, (List.mem_filter.1 h1).1, (List.mem_filter.1 h1).2, h3⟩
  refine ⟨fun h => by rw [if_pos h], fun h h2 => ?_, fun h h2 => ?_⟩
  · rw [if_neg h, if_pos ?_]
    cases F with
    | nil => rfl
    | cons r F =>
      have := (hmem r.ag).2 ⟨r, by simp, rfl⟩
      rw [h2] at this
      simp at this
  · have hF0 : F.length ≠ 0 := fun e => h2 (by
      have : F = [] := List.length_eq_zero_iff.1 e
      subst this
      cases A with
      | nil => rfl
      | cons x A =>
        obtain ⟨r, hr, _⟩ := (hmem x).1 (by simp)
        simp at hr)
    rw [if_neg h, if_neg hF0]
    refine ⟨rfl, ?_⟩
    simp only
    have h3 := (bestTo_range (trnW (shF F)) (shF F).length).2.2 (by simp [shF]; omega)
    have h4 := (bestTo_range (trnW (shF F)) (shF F).length).2.1
    have h5 : (pickW (shF F)).1 = bestTo (trnW (shF F)) (shF F).length := rfl
    have hlen : (shF F).length = F.length := by simp [shF]
    rw [h5]
    generalize bestTo (trnW (shF F)) (shF F).length = b at h3 h4
    rw [hlen] at h4
    obtain ⟨j, hj⟩ : ∃ j : Nat, b = j := ⟨b.toNat, by omega⟩
    subst hj
    have hjl : j < F.length := by omega
    refine (hmem _).2 ⟨F.getD j default, ?_, by simp⟩
    rw [List.getD_eq_getElem?_getD, List.getElem?_eq_getElem hjl]
    exact List.getElem_mem hjl
end Go.Proofs.YtgimmdnmndbcpaaDoor
