/- ShareZeros: the walk. -/
import Derived.Test.YtpnobanhffjmaaaZ
set_option linter.unusedVariables false
set_option linter.unusedSimpArgs false
namespace Go.Proofs.Ytpnobanhffjmaaa
open Go.RowKit Jw Go.Deep
attribute [local go_sem] run_store_float max2_mx min2_mn max_mx min_mn

/-- A slice value reads as these doubles. -/
def RdF (w : World) (v : Value) (l : List Nat) : Prop :=
  ∃ (ao : Option Addr) (cap : Nat), v = .slice ao l.length cap ∧ (l.length ≠ 0 → ∃ b off, ao = some ⟨b, off, none⟩ ∧ b < w.heap.size ∧ ∀ k, k < l.length → w.cell? ⟨b, off + k, none⟩ = some (fl (l.getD k 0)))

theorem shs_append (l l' : List (Nat × Nat)) : shs (l ++ l') = shs l ++ shs l' := by
  induction l with
  | nil => rfl
  | cons s l ih => simp only [List.cons_append, shs, ih]

theorem own_empty (w : World) (base : Nat) (h : base ≤ w.heap.size) : (w.alloc (.cells #[] 27)).ownsRow base 27 2 (.slice (some ⟨w.heap.size, 0, none⟩) 0 0) 0 [] :=
  ⟨rfl, .inr ⟨w.heap.size, 0, #[], rfl, h, blk_new w #[] 27, Nat.le_refl _, Nat.zero_le _, rfl, rfl⟩⟩

theorem row_shape {w : World} {base : Nat} {v : Value} {n : Nat} {xs : List Value} {e : TypeId} {s : Nat} (h : w.ownsRow base e s v n xs) : ∃ ao cap, v = .slice ao n cap := by
  obtain ⟨_, ⟨rfl, rfl⟩ | ⟨g, cap, cur, rfl, _⟩⟩ := h
  · exact ⟨_, _, rfl⟩
  · exact ⟨_, _, rfl⟩

/-- The first k weights, with turns that are nothing; does one of them count? -/
def zl (ws : List Nat) (k : Nat) : List (Nat × Nat) := (ws.take k).map fun x => (x, 0)
def zany (ws : List Nat) (k : Nat) : Bool := (ws.take k).any fun x => ord x 0 == some .gt
theorem take_snoc (ws : List Nat) (k : Nat) (h : k < ws.length) : ws.take (k + 1) = ws.take k ++ [ws.getD k 0] := by
  rw [List.take_add_one, List.getD_eq_getElem?_getD, List.getElem?_eq_getElem h]; rfl
theorem zl_succ (ws : List Nat) (k : Nat) (h : k < ws.length) : zl ws (k + 1) = zl ws k ++ [(ws.getD k 0, 0)] := by
  unfold zl; rw [take_snoc ws k h, List.map_append]; rfl
theorem zany_succ (ws : List Nat) (k : Nat) (h : k < ws.length) : zany ws (k + 1) = (zany ws k || (ord (ws.getD k 0) 0 == some .gt)) := by
  unfold zany; rw [take_snoc ws k h, List.any_append]; simp
theorem zl_length (ws : List Nat) (k : Nat) (h : k ≤ ws.length) : (zl ws k).length = k := by
  unfold zl; rw [List.length_map, List.length_take]; omega

set_option maxRecDepth 100000 in
set_option maxHeartbeats 1000000 in
theorem zeros_walk (w : World) (ao : Option Addr) (ws : List Nat) (cap : Nat) (hp : RdF w (.slice ao ws.length cap) ws) (hlen : ws.length ≤ 9223372036854775807) :
    Calls Try.prog 3 #[.slice ao ws.length cap] w fun e w' => e = .returned (.bool true) ∧ Below w.heap.size w w' := by
  have HR := Lib.hid hp
  clear hp
  obtain ⟨i0, hi, hz0, hz1, hz2⟩ := info_parts info27
  go_enter Try.func3, Try.ntmps3
  go_wp2_with fail
  refine (alive_yes w).mono ?_
  rintro e w1 ⟨rfl, hB⟩
  by_cases hlong : 200 < ws.length
  · go_wp2
    go_ret
    exact ⟨rfl, hB⟩
  have hlb : decide ((200 : Int) < (ws.length : Int)) = false := by simp; omega
  have hO := own_empty w1 w.heap.size hB.size
  have hB1 := hB.alloc hB.size (.cells #[] 27)
  have HO := Lib.hid hO
  clear hO
  go_wp2_with fail
  go_loopw [3, 4, 17] (fun l so i wr => ∃ (k : Nat), k ≤ ws.length ∧ i = n64 k ∧ so = .bool (zany ws k) ∧ wr.ownsRow w.heap.size 27 2 l k (shs (zl ws k)) ∧ Below w.heap.size w wr) (fun _ _ i _ => ws.length - (intOf i).toNat)
  case atStart => exact ⟨0, Nat.zero_le _, rfl, rfl, HO.out, hB1⟩
  case round =>
    clear hB1
    obtain ⟨k, hk, rfl, rfl, hO, hB1⟩ := hrel
    by_cases hlt : k < ws.length
    · obtain ⟨ao', cap', e1, hrd⟩ := HR.out
      obtain ⟨b', off, e2, hb', hc⟩ := hrd (by omega)
      obtain ⟨rfl, rfl⟩ : ao = ao' ∧ cap = cap' := by injection e1 with e1 e3 e4; exact ⟨e1, e4⟩
      clear e1 hrd
      subst e2
      have hck := (hB1.cell (p := ⟨b', off + k, none⟩) hb').trans (hc k hlt)
      clear hc
      have hs1 := zl_succ ws k hlt
      have hs2 := zany_succ ws k hlt
      obtain ⟨x, ex⟩ : ∃ x, x = ws.getD k 0 := ⟨_, rfl⟩
      rw [← ex] at hck hs1 hs2
      have HS1 := Lib.hid hs1
      have HS2 := Lib.hid hs2
      have HP := Lib.hid hO
      clear ex hs1 hs2 hO
      obtain ⟨so, es⟩ : ∃ so, so = zany ws k := ⟨_, rfl⟩
      rw [← es]
      have ES := Lib.hid es
      clear es
      go_wp2_with (at_builtin; refine wpList_append_own _ rfl (.tmp 21) (.tmp 24) 24 rfl w.heap.size 27 i0 _ 2 16 Try.underlying24 hi hz0 hz1 hz2 rfl (by decide) _ _ _ rfl (HP.out.alloc _) ⟨wr.heap.size, 0, none⟩ 1 1 [fl x, fl 0] rfl rfl ?c1 ?c2 ?c3 ?c4 ?c5 ?_)
      case c1 =>
        intro j u hj
        match j, hj with
        | 0, hj => simp at hj; subst hj; simp [Addr.add]
        | 1, hj => simp at hj; subst hj; simp [Addr.add]
      case c2 => intro u hu; simp at hu; rcases hu with rfl | rfl <;> rfl
      case c3 => unfold maxLen; omega
      case c4 => omega
      case c5 => have := hB1.size; simp; omega
      · intro v' w3 hown' hgrow _
        have hB4 := (hB1.alloc hB1.size (.cells #[fl x, fl 0] 27)).grown hgrow (by have := hB1.size; simp; omega) (by
          intro q hq
          obtain ⟨_, ⟨rfl, _⟩ | ⟨g, c, cur, rfl, hg, _⟩⟩ := HP.out
          · simp [Value.ownBlock] at hq
          · simp [Value.ownBlock] at hq; omega)
        have hown2 : w3.ownsRow w.heap.size 27 2 v' (k + 1) (shs (zl ws (k + 1))) := by
          rw [HS1.out, shs_append]; exact hown'
        have HW := Lib.hid hown2
        clear hown' hgrow hown2
        cases so with
        | true =>
          go_wp2
          go_roundw
          case rel => exact ⟨k + 1, by omega, by go_num, by rw [HS2.out, ← ES.out]; rfl, HW.out, hB4⟩
          case measure => simp [intOf]; omega
        | false =>
          obtain ⟨g, eg⟩ : ∃ g, g = (ord x 0 == some .gt) := ⟨_, rfl⟩
          have eg' := eg.symm
          have EG := Lib.hid eg
          clear eg
          go_wp2
          go_roundw
          case rel => exact ⟨k + 1, by omega, by go_num, by rw [HS2.out, ← ES.out, EG.out]; rfl, HW.out, hB4⟩
          case measure => simp [intOf]; omega
    · obtain rfl : k = ws.length := by omega
      obtain ⟨l, el⟩ : ∃ l, l = zl ws ws.length := ⟨_, rfl⟩
      have hll : l.length = ws.length := by rw [el, zl_length ws _ (Nat.le_refl _)]
      obtain ⟨ao2, cap2, hv2⟩ := row_shape hO
      have hread : RdS wr u3 l := (OwnS.of_row (l := l) (by rw [hll, el]; exact hO)).read
      have hz := zeros_pick ws (by omega)
      have elm : l = ws.map fun x => (x, 0) := by rw [el]; unfold zl; rw [List.take_length]
      rw [← elm] at hz
      have hzl : ∀ k, k < ws.length → (l.getD k (0, 0)).1 = ws.getD k 0 := by
        intro k hk
        rw [elm, List.getD_eq_getElem?_getD, List.getElem?_map, List.getElem?_eq_getElem hk, List.getD_eq_getElem?_getD, List.getElem?_eq_getElem hk]; rfl
      have hany : zany ws ws.length = ws.any fun x => ord x 0 == some .gt := by unfold zany; rw [List.take_length]
      rw [← hany] at hz
      obtain ⟨so, es⟩ : ∃ so, so = zany ws ws.length := ⟨_, rfl⟩
      rw [← es] at hz ⊢
      have HL := Lib.hid hll
      have HZ := Lib.hid hz
      have HZL := Lib.hid hzl
      have HRD := Lib.hid hread
      subst hv2
      clear el elm hany hz hzl es hO hll hread HR HO
      go_wp2_with fail
      refine (pick_any _ l _ HRD.out (by rw [HL.out]; omega)).mono ?_
      rintro e w4 ⟨v4, rfl, hO4, hB4⟩
      have hB5 := hB1.trans (hB4.mono hB1.size)
      have hR4 := HRD.out.below hB4 (Nat.le_refl _)
      have hsh4 : ∃ ao4 cap4, v4 = .slice ao4 ws.length cap4 := by
        obtain ⟨a, c, h, _⟩ := hO4.read
        exact ⟨a, c, by rw [h, pickW_length, HL.out]⟩
      obtain ⟨ao4, cap4, rfl⟩ := hsh4
      obtain ⟨b, eb⟩ : ∃ b, b = (pickW l).1 := ⟨_, rfl⟩
      have hb1 := bestTo_range (trnW l) l.length
      have hbe : b = bestTo (trnW l) l.length := eb
      rw [← hbe, HL.out] at hb1
      rw [← eb]
      have EB := Lib.hid eb
      clear eb hbe hB4 hO4
      obtain ⟨hq1, hq2, hq3⟩ := hb1
      by_cases hn0 : ws.length = 0
      · obtain rfl : b = -1 := by omega
        have hnb : ((ws.length : Int) == 0) = true := beq_iff_eq.2 (by omega)
        clear hq1 hq2 hq3
        go_wp2
        go_ret
        exact ⟨rfl, hB5⟩
      · have hnb : ((ws.length : Int) == 0) = false := beq_eq_false_iff_ne.2 (by omega)
        have hb0 : 0 ≤ b := hq3 (by omega)
        clear hq3
        cases so with
        | false =>
          go_wp2
          go_ret
          exact ⟨rfl, hB5⟩
        | true =>
          obtain ⟨bn, hbn, hbl', hg⟩ := HZ.out rfl
          rw [← EB.out] at hbn
          subst hbn
          obtain ⟨a5, c5, e5, _, hrd5⟩ := hR4
          obtain ⟨b5, o5, e6, _, hc5⟩ := hrd5 (by rw [HL.out]; omega)
          injection e5 with e7 e8 e9
          subst e7 e9
          subst e6
          have hcb := (hc5 bn (by rw [HL.out]; exact hbl')).1
          rw [HZL.out bn hbl'] at hcb
          obtain ⟨x, ex⟩ : ∃ x, x = ws.getD bn 0 := ⟨_, rfl⟩
          rw [← ex] at hcb hg
          clear ex hc5 hrd5 e8
          go_wp2
          go_ret
          exact ⟨rfl, hB5⟩
end Go.Proofs.Ytpnobanhffjmaaa
