/- The reference's Share: the passes themselves. -/
import Derived.Test.YtfklkkckfikfoaaDoorF
set_option linter.unusedVariables false
set_option linter.unusedSimpArgs false
namespace Go.Proofs.YtfklkkckfikfoaaDoor
open Go.RowKit Jw Jf Go.Deep
attribute [local go_sem] max2_mx min2_mn max_mx min_mn

theorem getD_set0 (l : List Int) (i j : Nat) (v : Int) : (l.set i v).getD j 0 = if i = j ∧ j < l.length then v else l.getD j 0 := by
  rw [List.getD_eq_getElem?_getD, List.getElem?_set, List.getD_eq_getElem?_getD]
  by_cases e : i = j
  · subst e
    by_cases h : i < l.length
    · simp [h]
    · simp [h]
  · simp [e]
theorem stepI_nonneg {ls : List Int} {s : List Int × Int} (h : ∀ j, 0 ≤ s.1.getD j 0) (k : Nat) : ∀ j, 0 ≤ (stepI 1 ls s k).1.getD j 0 := by
  intro j
  unfold stepI
  split
  · rename_i hh
    rw [getD_set0]
    split
    · have := h k; omega
    · exact h j
  · exact h j
theorem runI_nonneg {ls : List Int} {s : List Int × Int} (h : ∀ j, 0 ≤ s.1.getD j 0) (k : Nat) : ∀ j, 0 ≤ (runI 1 ls s k).1.getD j 0 := by
  induction k with
  | zero => exact h
  | succ k ih => simp only [runI]; exact stepI_nonneg ih k

/-- A state of the passes. -/
structure Ps (ls : List Int) (total : Int) (os : List Int) (t : Int) : Prop where
  len : os.length = ls.length
  from0 : ∃ j, it ls j (List.replicate ls.length 0, total) = (os, t)
  low : ∀ j, 0 ≤ os.getD j 0
  top : t ≤ total
  bot : min total 0 ≤ t

theorem it_snoc (ls : List Int) (n : Nat) (s : List Int × Int) : it ls (n + 1) s = pass ls (it ls n s) := by
  rw [it_add]; rfl
theorem stepI_bot {ls : List Int} {s : List Int × Int} {c : Int} (hc : c ≤ 0) (h : c ≤ s.2) (k : Nat) : c ≤ (stepI 1 ls s k).2 := by
  unfold stepI
  split
  · rename_i hh
    show c ≤ s.2 - min 1 s.2
    omega
  · exact h
theorem runI_bot {ls : List Int} {s : List Int × Int} {c : Int} (hc : c ≤ 0) (h : c ≤ s.2) (k : Nat) : c ≤ (runI 1 ls s k).2 := by
  induction k with
  | zero => exact h
  | succ k ih => simp only [runI]; exact stepI_bot hc ih k
theorem Ps.pass {ls os : List Int} {total t : Int} (h : Ps ls total os t) : Ps ls total (Jf.pass ls (os, t)).1 (Jf.pass ls (os, t)).2 := by
  obtain ⟨j, hj⟩ := h.from0
  refine ⟨by rw [pass_length]; exact h.len, ⟨j + 1, by rw [it_snoc, hj]⟩, runI_nonneg h.low _, Int.le_trans (runI_le ls (os, t) ls.length).1 h.top, runI_bot (by omega) h.bot _⟩

/-- The outer loop's measure. -/
def mz (mv : Value) (t : Nat) : Nat := match mv with
  | .bool true => t + 1
  | _ => 0
theorem pass_next {ls os : List Int} {t : Int} {k : Nat} {O : List Int} {T : Int} (h : runI 1 ls (os, t) k = (O, T)) : runI 1 ls (os, t) (k + 1) = stepI 1 ls (O, T) k := by simp only [runI, h]
theorem step_yes {ls O : List Int} {T : Int} {k : Nat} (h1 : O.getD k 0 < ls.getD k 0) (h2 : 0 < T) : stepI 1 ls (O, T) k = (O.set k (O.getD k 0 + 1), T - 1) := by
  unfold stepI
  rw [if_pos ⟨h1, h2⟩, show min 1 (O, T).2 = 1 from by show min 1 T = 1; omega]
theorem step_no {ls O : List Int} {T : Int} {k : Nat} (h : ¬ (O.getD k 0 < ls.getD k 0 ∧ 0 < T)) : stepI 1 ls (O, T) k = (O, T) := by
  unfold stepI
  rw [if_neg h]

set_option maxRecDepth 100000 in
set_option maxHeartbeats 1000000 in
theorem refshare_any (v : Value) (ls : List Int) (total : Int) (w : World) (hr : Rd w v ls) (hlen : ls.length * 8 ≤ 140737488351232)
    (hl : ∀ k, -9223372036854775808 ≤ ls.getD k 0 ∧ ls.getD k 0 ≤ 9223372036854775807) (ht : -9223372036854775808 ≤ total ∧ total ≤ 9223372036854775807) :
    Calls Tryd.prog 11 #[v, n64 total] w fun e w' => e = .returned (.slice (some ⟨w.heap.size, 0, none⟩) ls.length ls.length) ∧ ∃ os t, Blk w' w.heap.size (ints os) 3 ∧ Below w.heap.size w w' ∧ Ps ls total os t ∧ pass ls (os, t) = (os, t) := by
  have hmk := run_make_row' (P := Tryd.prog) 22 3 (.int .i64 0) 8 Tryd.underlying22 info3 rfl .i64 .i64 ls.length (by omega) (by omega)
  obtain ⟨ao, cap, rfl, hc⟩ := hr
  have HC := Lib.hid hc
  have HL := Lib.hid hl
  have HT := Lib.hid ht
  clear hc hl ht
  go_enter Tryd.func11, Tryd.ntmps11
  go_wp2_with fail
  rw [made_zero]
  have hb0 := blk_new w (ints (List.replicate ls.length 0)) 3
  have hB0 : Below w.heap.size w (w.alloc (.cells (ints (List.replicate ls.length 0)) 3)) := (Below.refl _ _).alloc (Nat.le_refl _) _
  go_loopw [1, 6] (fun tv mv wr => ∃ (os : List Int) (t : Int) (more : Bool), tv = n64 t ∧ mv = .bool more ∧ Ps ls total os t ∧ (more = false → pass ls (os, t) = (os, t)) ∧ Blk wr w.heap.size (ints os) 3 ∧ Below w.heap.size w wr)
    (fun tv mv _ => mz mv (intOf tv).toNat)
  case atStart =>
    exact ⟨_, total, true, rfl, rfl, ⟨List.length_replicate, ⟨0, rfl⟩, fun j => (by rw [List.getD_eq_getElem?_getD, List.getElem?_replicate]; split <;> exact Int.le_refl _), Int.le_refl _, (by omega)⟩, fun h => (by cases h), hb0, hB0⟩
  case round =>
    clear hb0 hB0
    obtain ⟨os, t, more, rfl, rfl, hS, hM, hO, hB⟩ := hrel
    cases more with
    | false =>
      have hP := Lib.hid (hM rfl)
      have HS := Lib.hid hS
      clear hM hS
      go_wp2
      go_ret
      exact ⟨rfl, os, t, hO, hB, HS.out, hP.out⟩
    | true =>
      clear hM
      have HS := Lib.hid hS
      have hbr : -9223372036854775808 ≤ t ∧ t ≤ 9223372036854775807 := by have := hS.top; have := hS.bot; have := HT.out; omega
      clear hS
      obtain ⟨hbr1, hbr2⟩ := hbr
      go_wp2_with fail
      go_loopw [1, 6, 15] (fun tv mv i wx => ∃ (k : Nat) (O : List Int) (T : Int), k ≤ ls.length ∧ i = n64 k ∧ runI 1 ls (os, t) k = (O, T) ∧ tv = n64 T ∧ mv = .bool (decide (T < t)) ∧ Blk wx w.heap.size (ints O) 3 ∧ Below w.heap.size w wx) (fun _ _ i _ => ls.length - (intOf i).toNat)
      case atStart => exact ⟨0, os, t, Nat.zero_le _, rfl, rfl, rfl, by simp, hO, hB⟩
      case round =>
        clear hO hB
        obtain ⟨k, O, T, hk, rfl, hrun, rfl, rfl, hO, hB⟩ := hrel
        have hOl : O.length = ls.length := by
          have := runI_length 1 ls (os, t) k
          rw [hrun] at this
          rw [this]; exact HS.out.len
        have hT1 := (runI_le ls (os, t) k).1
        rw [hrun] at hT1
        have hT0 := runI_bot (ls := ls) (s := (os, t)) (c := min total 0) (by omega) HS.out.bot k
        rw [hrun] at hT0
        have hnn := runI_nonneg (ls := ls) (s := (os, t)) HS.out.low k
        rw [hrun] at hnn
        have hTb : -9223372036854775808 ≤ T ∧ T ≤ t := by have := HT.out; simp only at hT0 hT1; omega
        clear hT0 hT1
        by_cases hlt : k < ls.length
        · obtain ⟨b1, off, rfl, hb1, hcc⟩ := HC.out (by omega)
          have c1 := (hB.cell (p := ⟨b1, off + k, none⟩) hb1).trans (hcc k hlt)
          have c2 := hO.cell k _ (ints_at _ k (by rw [hOl]; exact hlt))
          have hf := hO.free k
          have hn := pass_next hrun
          have hyes := @step_yes ls O T k
          have hno := @step_no ls O T k
          have hLk := HL.out k
          have hx0 := hnn k
          have hset := hO.set k (n64 (O.getD k 0 + 1))
          rw [ints_set] at hset
          have hB2 := hB.setCell (p := ⟨w.heap.size, k, none⟩) (Nat.le_refl _) (n64 (O.getD k 0 + 1))
          obtain ⟨y, ey⟩ : ∃ y, y = ls.getD k 0 := ⟨_, rfl⟩
          obtain ⟨x, ex⟩ : ∃ x, x = O.getD k 0 := ⟨_, rfl⟩
          rw [← ey] at c1 hyes hno hLk
          rw [← ex] at c2 hyes hno hx0 hset hB2
          obtain ⟨hL1, hL2⟩ := hLk
          obtain ⟨hTb1, hTb2⟩ := hTb
          have HN := Lib.hid hn
          have HY := Lib.hid hyes
          have HNO := Lib.hid hno
          clear hcc hrun hOl hnn hn hyes hno ey ex
          by_cases hxy : x < y
          · by_cases htp : 0 < T
            · have d1 : decide (x < y) = true := by simpa using hxy
              have d2 : decide (0 < T) = true := by simpa using htp
              have HO2 := Lib.hid hset
              have HB2 := Lib.hid hB2
              have d3 : decide (T - 1 < t) = true := by simp; omega
              clear hset hB2 hO hB
              go_wp2
              go_roundw
              case rel => exact ⟨k + 1, O.set k (x + 1), T - 1, by omega, by go_num, by rw [HN.out, HY.out hxy htp], rfl, by rw [d3], HO2.out, HB2.out⟩
              case measure => simp [intOf]; omega
            · have d1 : decide (x < y) = true := by simpa using hxy
              have d2 : decide (0 < T) = false := by simpa using htp
              clear hset hB2
              go_wp2
              go_roundw
              case rel => exact ⟨k + 1, O, T, by omega, by go_num, by rw [HN.out, HNO.out (fun h => htp h.2)], rfl, rfl, hO, hB⟩
              case measure => simp [intOf]; omega
          · have d1 : decide (x < y) = false := by simpa using hxy
            clear hset hB2
            go_wp2
            go_roundw
            case rel => exact ⟨k + 1, O, T, by omega, by go_num, by rw [HN.out, HNO.out (fun h => hxy h.1)], rfl, rfl, hO, hB⟩
            case measure => simp [intOf]; omega
        · obtain rfl : k = ls.length := by omega
          have hps : pass ls (os, t) = (O, T) := hrun
          have hP := HS.out.pass
          rw [hps] at hP
          have hsame : ¬ T < t → pass ls (O, T) = (O, T) := by
            intro hn
            have hTt : T = t := by omega
            have := (runI_le ls (os, t) ls.length).2 (by rw [hrun]; exact hTt)
            rw [hrun] at this
            rw [this]
            rw [show pass ls (os, t) = runI 1 ls (os, t) ls.length from rfl, hrun, this]
          have hTge : T < t → 0 < t := by
            intro hn
            rcases Int.lt_or_le 0 t with h | h
            · exact h
            · have := pass_nothing (ls := ls) (os := os) (t := t) (.inl h)
              rw [hps] at this
              have := (Prod.mk.inj this).2
              omega
          have HP := Lib.hid hP
          have HSM := Lib.hid hsame
          clear hP hsame hps hrun hnn hOl
          cases hd : decide (T < t) with
          | true =>
            have hTt : T < t := by simpa using hd
            have ht0 := hTge hTt
            clear hTge
            go_wp2
            go_roundw
            case rel => exact ⟨O, T, true, rfl, rfl, HP.out, fun h => (by cases h), hO, hB⟩
            case measure => simp [mz, intOf]; omega
          | false =>
            have hTt : ¬ T < t := by simpa using hd
            clear hTge
            go_wp2
            go_roundw
            case rel => exact ⟨O, T, false, rfl, rfl, HP.out, fun _ => HSM.out hTt, hO, hB⟩
            case measure => simp [mz, intOf]
end Go.Proofs.YtfklkkckfikfoaaDoor
