/- The pick of doubles that stand for numbers: a first greatest one; of turns that are nothing, one whose weight counts. -/
import Derived.Test.YtpnobanhffjmaaaF
set_option linter.unusedVariables false
set_option linter.unusedSimpArgs false
namespace Go.Proofs.Ytpnobanhffjmaaa
open Go.RowKit Jw Jf Ieee

theorem ord_gt {x y : Nat} {a b : Int} (hx : Fl x a) (hy : Fl y b) : (ord x y == some .gt) = decide (b < a) := by
  rw [ord_fl hx hy]
  have := cmp_gt a b
  rcases cmp_cases a b with ⟨h, _⟩ | ⟨h, _⟩ | ⟨h, _⟩ <;> rw [h] at this ⊢ <;> exact this

/-- The place that is picked holds a greatest one, and the first of these. -/
theorem best_fl {ts : List Nat} {c : Nat → Int} (n : Nat) (h : ∀ k, k < n → Fl (ts.getD k 0) (c k)) :
    ∀ k, k ≤ n → 1 ≤ k → ∃ b : Nat, bestTo ts k = (b : Int) ∧ b < k ∧ (∀ j, j < k → c j ≤ c b) ∧ ∀ j, j < b → c j < c b := by
  intro k
  induction k with
  | zero => intro _ h1; omega
  | succ k ih =>
    intro hk _
    rcases Nat.eq_zero_or_pos k with h0 | h0
    · subst h0
      exact ⟨0, rfl, by omega, fun j hj => by obtain rfl : j = 0 := by omega
                                              exact Int.le_refl _, fun j hj => by omega⟩
    · obtain ⟨b, e, hb, h1, h2⟩ := ih (by omega) h0
      simp only [bestTo]
      rw [e]
      have hd : decide ((b : Int) < 0) = false := by simp
      rw [hd, Bool.false_or, Int.toNat_natCast, ord_gt (h k (by omega)) (h b (by omega))]
      by_cases hgt : c b < c k
      · rw [if_pos (by simpa using hgt)]
        refine ⟨k, rfl, by omega, fun j hj => ?_, fun j hj => ?_⟩
        · by_cases hjk : j = k
          · subst hjk; exact Int.le_refl _
          · have := h1 j (by omega); omega
        · have := h1 j hj; omega
      · rw [if_neg (by simpa using hgt)]
        refine ⟨b, rfl, by omega, fun j hj => ?_, h2⟩
        by_cases hjk : j = k
        · subst hjk; omega
        · exact h1 j (by omega)

theorem fl_unique {x : Nat} {a b : Int} (h : Fl x a) (h' : Fl x b) : a = b := by
  obtain ⟨s, m, k, hr, rfl⟩ := h
  obtain ⟨s', m', k', hr', rfl⟩ := h'
  rw [hr] at hr'
  injection hr' with e1 e2 e3
  have e4 : k = k' := by omega
  subst e1 e2 e4
  rfl
theorem signed_pos (c e : Nat) (h : 0 < c) : 0 < signed false c e := by
  unfold signed
  simp only [Bool.false_eq_true, if_false]
  rw [Nat.shiftLeft_eq]
  exact Int.natCast_pos.2 (Nat.mul_pos h (Nat.two_pow_pos _))

theorem weightW_pos {x : Nat} (h : (ord x 0 == some .gt) = true) : ∀ v, Fl (weightW x) v → 0 < v := by
  intro v hv
  have hn : nanW x = false := by
    rcases read_cases x with ⟨u, hu⟩ | ⟨s, hs⟩ | ⟨s, f, hs⟩
    · exact nanW_fl hu
    · show (Ieee.double.order x x != some .eq) = false
      unfold Ieee.Format.order
      rw [hs]
      cases s <;> rfl
    · exfalso
      have : ord x 0 = none := by
        show Ieee.double.order x 0 = none
        unfold Ieee.Format.order
        rw [hs]; rfl
      rw [this] at h; cases h
  have hg : ord x 0 = some .gt := by simpa using h
  have h2 : (ord x 0 == some .lt || ord x 0 == some .eq) = false := by rw [hg]; rfl
  unfold weightW at hv
  rw [hn, h2] at hv
  simp only [Bool.false_eq_true, if_false] at hv
  split at hv
  · rw [fl_unique hv fl_mil]
    exact signed_pos _ _ (by decide)
  · have e := ord_gt hv fl_zero
    rw [h] at e
    simpa using e.symm

theorem weightW_gt {x : Nat} {v : Int} (hv : Fl (weightW x) v) (h : 0 < v) : (ord x 0 == some .gt) = true := by
  have hz : ∀ y, Fl (0 : Nat) y → y = 0 := fun y hy => fl_unique hy fl_zero
  unfold weightW at hv
  split at hv
  · have := hz v hv; omega
  · rename_i h1
    split at hv
    · have := hz v hv; omega
    · rename_i h2
      -- not NaN, not at most nothing: above it
      rcases read_cases x with ⟨u, hu⟩ | ⟨s, hs⟩ | ⟨s, f, hs⟩
      · rw [ord_fl hu fl_zero] at h2 ⊢
        rcases cmp_cases u 0 with ⟨e, _⟩ | ⟨e, _⟩ | ⟨e, _⟩
        · exfalso; apply h2; rw [e]; rfl
        · exfalso; apply h2; rw [e]; rfl
        · rw [e]; rfl
      · have : ord x 0 = some (if s then .lt else .gt) := by
          show Ieee.double.order x 0 = _
          unfold Ieee.Format.order
          rw [hs, show Ieee.double.read 0 = .number false 0 (-1074) from by decide]
          rfl
        rw [this] at h2 ⊢
        cases s with
        | true => exfalso; apply h2; rfl
        | false => rfl
      · exfalso; apply h1; exact nanW_nan hs

/-- Of turns that are nothing one is picked whose weight counts, if there is one. -/
theorem zeros_pick (ws : List Nat) (hn : ws.length ≤ 200) (hs : (ws.any fun x => ord x 0 == some .gt) = true) :
    ∃ b : Nat, (pickW (ws.map fun x => (x, 0))).1 = (b : Int) ∧ b < ws.length ∧ (ord (ws.getD b 0) 0 == some .gt) = true := by
  obtain ⟨l, hl⟩ : ∃ l, l = ws.map fun x => (x, (0 : Nat)) := ⟨_, rfl⟩
  rw [← hl]
  have hlen : l.length = ws.length := by rw [hl]; simp
  have hraw : rawW l = ws.map weightW := by rw [hl, rawW, List.map_map]; rfl
  rw [List.any_eq_true] at hs
  obtain ⟨x, hx, hxg⟩ := hs
  obtain ⟨i, hi, rfl⟩ := List.getElem_of_mem hx
  -- the total is above nothing
  have htot : noneW l = false := by
    obtain ⟨v, hv, h0, hp⟩ := sum_fl (rawW l) (rawW_fl l) (by rw [hraw]; simp; omega)
    have hpos := hp ⟨weightW ws[i], by rw [hraw]; exact List.mem_map_of_mem hx, weightW_pos hxg⟩
    unfold noneW
    rw [ord_fl hv fl_zero]
    rcases cmp_cases v 0 with ⟨e, _⟩ | ⟨e, _⟩ | ⟨e, _⟩
    · omega
    · omega
    · rw [e]; rfl
  have hw : wtsW l = ws.map weightW := by unfold wtsW; rw [htot, hraw]; rfl
  -- each turn: above nothing just if the weight counts
  have hval : ∀ k, ∃ c : Int, k < ws.length → Fl ((trnW l).getD k 0) c ∧ 0 ≤ c ∧ (0 < c ↔ (ord (ws.getD k 0) 0 == some .gt) = true) := by
    intro k
    by_cases hk : k < ws.length
    · have hat := (trnW_at l k (by omega)).1
      have e1 : (l.getD k (0, 0)).2 = 0 := by rw [hl, List.getD_eq_getElem?_getD, List.getElem?_map, List.getElem?_eq_getElem hk]; rfl
      have e2 : (wtsW l).getD k 0 = weightW (ws.getD k 0) := by rw [hw, List.getD_eq_getElem?_getD, List.getElem?_map, List.getElem?_eq_getElem hk, List.getD_eq_getElem?_getD, List.getElem?_eq_getElem hk]; rfl
      rw [e1, e2, turnW_fl fl_zero] at hat
      obtain ⟨v, hv, h0, hM⟩ := weightW_fl (ws.getD k 0)
      have hlt : (0 : Int) + v < 2 ^ Top := by
        have h1 : v < 2 ^ High := Int.lt_of_le_of_lt hM mil_lt
        have h3 : (2 : Int) ^ High ≤ 2 ^ Top := by
          have : (2 : Nat) ^ High ≤ 2 ^ Top := Nat.pow_le_pow_right (by decide) (by decide)
          revert this
          generalize High = p
          generalize Top = q
          intro this
          exact_mod_cast this
        rw [Int.zero_add]
        exact Int.lt_of_lt_of_le h1 h3
      obtain ⟨r, c, hr, hc, hc0, hcl, hcp⟩ := add_round fl_zero hv (Int.le_refl _) h0 hlt
      rw [hr] at hat
      obtain rfl := Option.some.inj hat
      refine ⟨c, fun _ => ⟨hc, hc0, ⟨fun h => weightW_gt hv (by omega), fun h => hcp (by have := weightW_pos h v hv; omega)⟩⟩⟩
    · exact ⟨0, fun h => absurd h hk⟩
  obtain ⟨c, hc⟩ : ∃ c : Nat → Int, ∀ k, k < ws.length → Fl ((trnW l).getD k 0) (c k) ∧ 0 ≤ c k ∧ (0 < c k ↔ (ord (ws.getD k 0) 0 == some .gt) = true) :=
    ⟨fun k => Classical.choose (hval k), fun k => Classical.choose_spec (hval k)⟩
  obtain ⟨b, hb, hbl, hmax, _⟩ := best_fl (ts := trnW l) (c := c) ws.length (fun k hk => (hc k hk).1) ws.length (Nat.le_refl _) (by omega)
  refine ⟨b, by show bestTo (trnW l) l.length = _; rw [hlen]; exact hb, hbl, ?_⟩
  refine (hc b hbl).2.2.1 ?_
  have h1 := hmax i hi
  have h2 := (hc i hi).2.2.2 (by rw [List.getD_eq_getElem?_getD, List.getElem?_eq_getElem hi]; exact hxg)
  omega
end Go.Proofs.Ytpnobanhffjmaaa
