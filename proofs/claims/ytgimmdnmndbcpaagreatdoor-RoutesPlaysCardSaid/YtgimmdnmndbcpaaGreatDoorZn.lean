/- The laws' numbers: what an error's number, a marked copy of a list and the look whether it was kept come to. -/
import Derived.Test.YtgimmdnmndbcpaaGreatDoorZ7
import Derived.Laws.AppendOwnNone
import Derived.Maps.AppendAt
import Derived.OwnWalk
import Derived.Deep.DeepCutAuto
import Derived.Deep.CutBlock
set_option linter.unusedVariables false
set_option linter.unusedSimpArgs false
namespace Go.Proofs.YtgimmdnmndbcpaaGreatDoor
open Go.RowKit Jw Lab Go.Shelf Go.Deep
attribute [local go_sem] max2_mx min2_mn max_mx min_mn

abbrev er (a : Addr) : Value := .iface 126 (.pointer (some a))
set_option maxHeartbeats 400000 in
theorem same_yes (w : World) (v v' : Value) (l : List Int) (h : Ri w v l) (h' : Ri w v' l) (hl : l.length ≤ 9223372036854775807) :
    Calls Tryz.prog 56 #[v, v'] w fun e w' => e = .returned (.bool true) ∧ ∃ k, w' = w.drewN k := by
  obtain ⟨ao, cap, rfl, h⟩ := h
  obtain ⟨ao', cap', rfl, h'⟩ := h'
  by_cases hn : l.length = 0
  · rw [hn]
    clear h h' hn hl
    go_enter Tryz.func56, Tryz.ntmps56
    go_wp2_with fail
    refine wp_loop_rounds 1 ?_
    rw [rounds_succ]
    go_wp2
    go_ret
    exact ⟨rfl, 0, rfl⟩
  · obtain ⟨b, off, rfl, _, hc⟩ := h hn
    obtain ⟨b', off', rfl, _, hc'⟩ := h' hn
    clear h h'
    have HC := Lib.hid hc
    have HC' := Lib.hid hc'
    have HN := Lib.hid hn
    clear hc hc' hn
    go_enter Tryz.func56, Tryz.ntmps56
    go_wp2_with fail
    go_loopw [13] (fun i wr => ∃ (k n : Nat), k ≤ l.length ∧ i = n64 k ∧ wr = w.drewN n) (fun i _ => l.length - (intOf i).toNat)
    case atStart => exact ⟨0, 0, Nat.zero_le _, rfl, rfl⟩
    case round =>
      obtain ⟨k, n, hk, rfl, rfl⟩ := hrel
      by_cases hlt : k < l.length
      · have c1 := HC.out k hlt
        have c2 := HC'.out k hlt
        obtain ⟨x, ex⟩ : ∃ x, x = l.getD k 0 := ⟨_, rfl⟩
        rw [← ex] at c1 c2
        clear ex
        go_wp2_with fail
        go_quiet (fail)
        go_wp2
        go_roundw
        case rel => exact ⟨k + 1, _, by omega, by go_num, rfl⟩
        case measure => simp [intOf]; omega
      · obtain rfl : k = l.length := by omega
        go_wp2
        go_ret
        exact ⟨rfl, _, rfl⟩

theorem make_cap4 (i0 : TypeInfo) (hi : Tryz.prog.info? 3 = some i0) (hz0 : i0.zero = some (.int .i64 0)) (hz1 : i0.size = 1) (hz2 : i0.bytes = 8) (n : Nat) (hn : n ≤ 1000) (wx : World) :
    (Instr.makeSlice 32 (.int .i64 0) (.int .i64 ((n : Int) + 4))).run Tryz.prog wx = .ok (.slice (some ⟨wx.heap.size, 0, none⟩) 0 (n + 4)) (wx.alloc (.cells (madeCells #[n64 0] (n + 4)) 3)) := by
  have h := run_make (P := Tryz.prog) wx 32 3 i0 _ Tryz.underlying32 hi hz0 .i64 .i64 0 ((n : Int) + 4) (by omega) (by omega) (by rw [hz2]; omega) (by omega)
  rw [hz1, show ((n : Int) + 4).toNat = n + 4 from by omega, Nat.mul_one] at h
  exact h
theorem made_own4 (w : World) (base n : Nat) (h : base ≤ w.heap.size) (hn : n ≤ 1000) : (w.alloc (.cells (madeCells #[n64 0] (n + 4)) 3)).ownsRow base 3 1 (.slice (some ⟨w.heap.size, 0, none⟩) 0 (n + 4)) 0 [] :=
  ⟨rfl, .inr ⟨w.heap.size, n + 4, _, rfl, h, blk_new w _ 3, Nat.zero_le _, by unfold maxLen; omega, by rw [size_madeCells, Nat.mul_one], by simp⟩⟩
theorem news4 {w : World} {a b c d : Value} {t : TypeId} : ∀ j u, [a, b, c, d][j]? = some u → (w.alloc (.cells #[a, b, c, d] t)).cell? ((⟨w.heap.size, 0, none⟩ : Addr).add j) = some u := by
  intro j u hj
  rw [addr_add, Nat.zero_add]
  exact (blk_new w #[a, b, c, d] t).cell j u (by simpa using hj)
def tl4 : List Int := [-91, -92, -93, -94]
theorem one_ints (l : List Int) : ∀ u ∈ l.map n64, u.oneCell' = true := by
  intro u hu
  rw [List.mem_map] at hu
  obtain ⟨x, _, rfl⟩ := hu
  rfl

set_option maxRecDepth 20000 in
set_option maxHeartbeats 1000000 in
theorem ints_any (ao : Option Addr) (cap : Nat) (ls : List Int) (w : World) (hr : Ri w (.slice ao ls.length cap) ls) (h0 : ao = none → ls.length = 0 ∧ cap = 0) (hlen : ls.length ≤ 1000) :
    Calls Tryz.prog 21 #[.slice ao ls.length cap] w fun e w' => ∃ g cp, e = .returned (.slice (some ⟨g, 0, none⟩) ls.length cp) ∧ ls.length + 4 ≤ cp ∧ w.heap.size ≤ g ∧ w'.ownsRow w.heap.size 3 1 (.slice (some ⟨g, 0, none⟩) (ls.length + 4) cp) (ls.length + 4) ((ls ++ tl4).map n64) ∧ Below w.heap.size w w' := by
  obtain ⟨i0, hi, hz0, hz1, hz2⟩ := info_parts' info3z
  have HRD := Lib.hid hr
  have H0 := Lib.hid h0
  clear hr h0
  go_enter Tryz.func21, Tryz.ntmps21
  go_upto_region 1 with fail
  go_cut [3] (fun s wx => wx.ownsRow w.heap.size 3 1 s (ls.length + 4) ((ls ++ tl4).map n64) ∧ Below w.heap.size w wx)
  case first =>
    obtain ⟨n, hn⟩ : ∃ n, n = ls.length := ⟨_, rfl⟩
    have hmk := make_cap4 i0 hi hz0 hz1 hz2 n (by omega)
    have hO := made_own4 w w.heap.size n (Nat.le_refl _) (by omega)
    have hB1 : Below w.heap.size w (w.alloc (.cells (madeCells #[n64 0] (n + 4)) 3)) := (Below.refl _ _).alloc (Nat.le_refl _) _
    obtain ⟨cs, ecs⟩ : ∃ cs, cs = madeCells #[n64 0] (n + 4) := ⟨_, rfl⟩
    rw [← ecs] at hmk hO hB1
    rw [hn] at hmk hO
    have HO := Lib.hid hO
    clear ecs hn hO
    cases ao with
    | none =>
      obtain ⟨hl0, rfl⟩ := H0.out rfl
      have hnil := List.eq_nil_of_length_eq_zero hl0
      have hO2 : (w.alloc (.cells cs 3)).ownsRow w.heap.size 3 1 (.slice (some ⟨w.heap.size, 0, none⟩) 0 (ls.length + 4)) ls.length (ls.map n64) := by
        rw [hl0, hnil]
        have := HO.out
        rw [hl0] at this
        exact this
      have HO2 := Lib.hid hO2
      have HL0 := Lib.hid hl0
      clear hO2 hnil H0 HRD hl0
      go_wp2_with (at_builtin; first
        | refine wpList_append_own_none rfl (.tmp 7) (.tmp 8) 32 rfl w.heap.size 3 i0 1 Tryz.underlying32 hi _ ls.length _ rfl HO2.out (by show Value.slice none ls.length 0 = _; rw [HL0.out]) ?_
        | refine wpList_append_own _ rfl (.tmp 9) (.tmp 10) 32 rfl w.heap.size 3 i0 _ 1 8 Tryz.underlying32 hi hz0 hz1 hz2 rfl (by decide) _ ls.length _ rfl (HO2.out.alloc _) ⟨w.heap.size + 1, 0, none⟩ 4 4 [n64 (-91), n64 (-92), n64 (-93), n64 (-94)] rfl rfl ?c1 ?c2 ?c3 ?c4 ?c5 ?_)
      case c1 =>
        intro j u hj
        have h := news4 (w := w.alloc (.cells cs 3)) (t := 3) j u hj
        rw [show (w.alloc (.cells cs 3)).heap.size = w.heap.size + 1 from by simp] at h
        exact h
      case c2 => intro u hu; simp at hu; rcases hu with rfl | rfl | rfl | rfl <;> rfl
      case c3 => unfold maxLen; omega
      case c4 => omega
      case c5 => simp; omega
      · intro v' w3 hown' hgrow _
        have hB4 := (hB1.alloc hB1.size (.cells #[n64 (-91), n64 (-92), n64 (-93), n64 (-94)] 3)).grown hgrow (by simp; omega) (by intro g hg; simp [Value.ownBlock] at hg; omega)
        have HW := Lib.hid hown'
        clear hown' hgrow
        go_wp2_with fail
        go_meet
        exact ⟨by rw [List.map_append]; exact HW.out, hB4⟩
    | some a =>
      clear H0
      go_wp2_with (at_builtin; refine wpList_append_own _ rfl (.tmp 7) (.tmp 8) 32 rfl w.heap.size 3 i0 _ 1 8 Tryz.underlying32 hi hz0 hz1 hz2 rfl (by decide) _ 0 [] rfl HO.out a ls.length cap (ls.map n64) rfl (by simp) ?c1 (one_ints ls) ?c2 ?c3 ?c4 ?_)
      case c1 =>
        intro j u hj
        have hj' : j < ls.length := by
          rcases Nat.lt_or_ge j ls.length with h | h
          · exact h
          · rw [List.getElem?_eq_none (by simpa using h)] at hj; cases hj
        obtain ⟨ao', cap', e1, hrd⟩ := HRD.out
        obtain ⟨b, off, e, hlt, hc⟩ := hrd (by omega)
        injection e1 with e2 _ _
        rw [← e2] at e
        injection e with e
        subst e
        rw [addr_add, ((Below.refl w.heap.size w).alloc (Nat.le_refl _) _).cell (p := ⟨b, off + j, none⟩) hlt, hc j hj']
        rw [List.getElem?_map, List.getElem?_eq_getElem hj'] at hj
        rw [List.getD_eq_getElem?_getD, List.getElem?_eq_getElem hj']
        exact hj
      case c2 => unfold maxLen; omega
      case c3 => omega
      case c4 => simp
      · intro va w2 howna hgrow _
        have hB3 := hB1.grown hgrow (by simp) (by intro g hg; simp [Value.ownBlock] at hg; omega)
        have HO2 := Lib.hid howna
        have hsz2 := hB3.size
        clear howna hgrow
        go_wp2_with (at_builtin; refine wpList_append_own _ rfl (.tmp 9) (.tmp 10) 32 rfl w.heap.size 3 i0 _ 1 8 Tryz.underlying32 hi hz0 hz1 hz2 rfl (by decide) _ ls.length _ rfl (HO2.out.alloc _) ⟨w2.heap.size, 0, none⟩ 4 4 [n64 (-91), n64 (-92), n64 (-93), n64 (-94)] rfl rfl ?d1 ?d2 ?d3 ?d4 ?d5 ?_)
        case d1 => exact news4
        case d2 => intro u hu; simp at hu; rcases hu with rfl | rfl | rfl | rfl <;> rfl
        case d3 => unfold maxLen; omega
        case d4 => omega
        case d5 => simp; omega
        · intro v' w3 hown' hgrow _
          have hB4 := (hB3.alloc hB3.size (.cells #[n64 (-91), n64 (-92), n64 (-93), n64 (-94)] 3)).grown hgrow (by simp; omega) (by intro g hg; have := own_lt HO2.out hg; omega)
          have HW := Lib.hid hown'
          clear hown' hgrow
          go_wp2_with fail
          go_meet
          exact ⟨by rw [List.map_append]; exact HW.out, hB4⟩
  case rest =>
    obtain ⟨hO, hB⟩ := hcut
    obtain ⟨h1, ⟨_, h2⟩ | ⟨g, cp, cur, rfl, hg, hh, hcp, r⟩⟩ := hO
    · omega
    · have HO := Lib.hid (show wc.ownsRow w.heap.size 3 1 (.slice (some ⟨g, 0, none⟩) (ls.length + 4) cp) (ls.length + 4) ((ls ++ tl4).map n64) from ⟨h1, .inr ⟨g, cp, cur, rfl, hg, hh, hcp, r⟩⟩)
      clear h1 hh r
      go_wp2
      go_ret
      exact ⟨g, cp, rfl, hcp, hg, HO.out, hB⟩

theorem tl4_at (ls : List Int) (i : Nat) (h : i < 4) : (ls ++ tl4).getD (ls.length + i) 0 = -91 - (i : Int) := by
  rw [List.getD_eq_getElem?_getD, List.getElem?_append_right (by omega), show ls.length + i - ls.length = i from by omega]
  match i, h with
  | 0, _ => rfl
  | 1, _ => rfl
  | 2, _ => rfl
  | 3, _ => rfl

set_option maxHeartbeats 1000000 in
theorem kept_yes (g cp : Nat) (v : Value) (ls : List Int) (w : World) (hr : Ri w v ls) (hlen : ls.length ≤ 1000) (hcp : ls.length + 4 ≤ cp) (hg : g < w.heap.size)
    (hc : ∀ k, k < ls.length + 4 → w.cell? ⟨g, k, none⟩ = some (n64 ((ls ++ tl4).getD k 0))) :
    Calls Tryz.prog 24 #[.slice (some ⟨g, 0, none⟩) ls.length cp, v] w fun e w' => e = .returned (.bool true) ∧ ∃ k, w' = w.drewN k := by
  have hin : Ri w (.slice (some ⟨g, 0, none⟩) ls.length cp) ls := ⟨_, _, rfl, fun _ => ⟨g, 0, rfl, hg, fun k hk => by
    rw [Nat.zero_add, hc k (by omega), List.getD_eq_getElem?_getD, List.getElem?_append_left hk, ← List.getD_eq_getElem?_getD]⟩⟩
  have hv : ∃ ao cap, v = .slice ao ls.length cap := by
    obtain ⟨ao, cap, h, _⟩ := hr
    exact ⟨ao, cap, h⟩
  obtain ⟨ao, cap, rfl⟩ := hv
  have HIN := Lib.hid hin
  have HR := Lib.hid hr
  have HC := Lib.hid hc
  have hlt : decide ((cp : Int) < (ls.length : Int) + 4) = false := by simp; omega
  clear hin hr hc
  go_enter Tryz.func24, Tryz.ntmps24
  go_wp2_with fail
  refine (same_yes _ _ _ ls HIN.out HR.out (by omega)).mono ?_
  rintro e w1 ⟨rfl, c1, rfl⟩
  go_wp2_with fail
  go_loopw [6] (fun i wr => ∃ (k : Nat), k ≤ 4 ∧ i = n64 k ∧ wr = w.drewN c1) (fun i _ => 4 - (intOf i).toNat)
  case atStart => exact ⟨0, Nat.zero_le _, rfl, rfl⟩
  case round =>
    obtain ⟨k, hk, rfl, rfl⟩ := hrel
    by_cases hk4 : k < 4
    · have c2 : (w.drewN c1).cell? ⟨g, ls.length + k, none⟩ = some (n64 ((ls ++ tl4).getD (ls.length + k) 0)) := HC.out _ (by omega)
      rw [tl4_at ls k hk4] at c2
      have c3 : w.cell? ⟨g, ls.length + k, none⟩ = some (n64 (-91 - (k : Int))) := c2
      go_wp2_with fail
      go_roundw
      case rel => exact ⟨k + 1, by omega, by go_num, trivial⟩
      case measure => simp [intOf]; omega
    · obtain rfl : k = 4 := by omega
      go_wp2
      go_ret
      exact ⟨rfl, c1, rfl⟩
/-- The errors' variables hold pointers to blocks of their own. -/
structure Sents (w : World) (A : Nat → Addr) : Prop where
  cell : ∀ i, i < 18 → w.cell? ⟨i, 0, none⟩ = some (er (A i))
  blk : ∀ i, i < 18 → ∃ c t, w.heap[(A i).block]? = some (.cells c t (0, 0))
  ne : ∀ i j, i < j → j < 18 → A i ≠ A j
  low : 18 ≤ w.heap.size
theorem Sents.below {w w' : World} {A : Nat → Addr} {B : Nat} (h : Sents w A) (hb : Below B w w') (hB : w.heap.size ≤ B) : Sents w' A := by
  refine ⟨fun i hi => ?_, fun i hi => ?_, h.ne, Nat.le_trans h.low hb.size⟩
  · have := h.low
    exact (hb.cell (p := ⟨i, 0, none⟩) (by show i < B; omega)).trans (h.cell i hi)
  · obtain ⟨c, t, e⟩ := h.blk i hi
    have hlt : (A i).block < w.heap.size := Blk.lt (cs := c) (t := t) e
    exact ⟨c, t, by rw [hb.block _ (by omega)]; exact e⟩
theorem Sents.apart {w : World} {A : Nat → Addr} (h : Sents w A) {i j : Nat} (hi : i < 18) (hj : j < 18) (hne : i ≠ j) : A i ≠ A j := by
  rcases Nat.lt_or_ge i j with hl | hl
  · exact h.ne i j hl hj
  · exact fun e => h.ne j i (by omega) hi e.symm

theorem num_nil (w : World) : Calls Tryz.prog 6 #[.nilIface] w fun e w' => e = .returned (n64 0) ∧ w = w' := by
  go_enter Tryz.func6, Tryz.ntmps6
  go_wp2
  go_ret
  exact ⟨rfl, rfl⟩

/-- The list that Num lays. -/
def erl (A : Nat → Addr) : Array Value := #[er (A 0), er (A 1), er (A 2), er (A 3), er (A 4), er (A 5), er (A 6), er (A 7), er (A 8), er (A 9), er (A 10), er (A 11), er (A 12), er (A 13), er (A 14), er (A 15), er (A 16), er (A 17)]
theorem erl_at (A : Nat → Addr) (k : Nat) (h : k < 18) : (erl A)[k]? = some (er (A k)) := by
  match k, h with
  | 0, _ => rfl | 1, _ => rfl | 2, _ => rfl | 3, _ => rfl | 4, _ => rfl | 5, _ => rfl | 6, _ => rfl | 7, _ => rfl | 8, _ => rfl
  | 9, _ => rfl | 10, _ => rfl | 11, _ => rfl | 12, _ => rfl | 13, _ => rfl | 14, _ => rfl | 15, _ => rfl | 16, _ => rfl | 17, _ => rfl
  | k + 18, h => exact absurd h (by omega)

theorem info126 : ∃ i j, Tryz.prog.info? 126 = some i ∧ i.comparable = true ∧ Tryz.prog.info? 143 = some j ∧ j.size ≠ 0 := by
  have h1 : (Tryz.prog.info? 126).map (fun i => i.comparable) = some true := by kernel_rfl
  have h2 : (Tryz.prog.info? 143).map (fun i => i.size) = some 1 := by kernel_rfl
  obtain ⟨i, hi, e1⟩ := Option.map_eq_some_iff.1 h1
  obtain ⟨j, hj, e2⟩ := Option.map_eq_some_iff.1 h2
  exact ⟨i, j, hi, e1, hj, by rw [e2]; decide⟩

set_option maxRecDepth 100000 in
set_option maxHeartbeats 1000000 in
theorem num_at (w : World) (A : Nat → Addr) (h : Sents w A) (j : Nat) (hj : j < 18) :
    Calls Tryz.prog 6 #[er (A j)] w fun e w' => e = .returned (n64 ((j : Int) + 1)) ∧ Below w.heap.size w w' := by
  obtain ⟨i0, j0, hi0, hcm, hj0, hsz⟩ := info126
  have g0 := h.cell 0 (by decide)
  have g1 := h.cell 1 (by decide)
  have g2 := h.cell 2 (by decide)
  have g3 := h.cell 3 (by decide)
  have g4 := h.cell 4 (by decide)
  have g5 := h.cell 5 (by decide)
  have g6 := h.cell 6 (by decide)
  have g7 := h.cell 7 (by decide)
  have g8 := h.cell 8 (by decide)
  have g9 := h.cell 9 (by decide)
  have g10 := h.cell 10 (by decide)
  have g11 := h.cell 11 (by decide)
  have g12 := h.cell 12 (by decide)
  have g13 := h.cell 13 (by decide)
  have g14 := h.cell 14 (by decide)
  have g15 := h.cell 15 (by decide)
  have g16 := h.cell 16 (by decide)
  have g17 := h.cell 17 (by decide)
  have HS := Lib.hid h
  clear h
  go_enter Tryz.func6, Tryz.ntmps6
  go_wp2_with fail
  have hb := blk_new w (erl A) 37
  have HB := Lib.hid hb
  have hBB : Below w.heap.size w (w.alloc (.cells (erl A) 37)) := (Below.refl _ _).alloc (Nat.le_refl _) _
  clear g0 g1 g2 g3 g4 g5 g6 g7 g8 g9 g10 g11 g12 g13 g14 g15 g16 g17 hb
  go_loopw [29] (fun i wr => ∃ (k : Nat), k ≤ j ∧ i = n64 k ∧ wr = w.alloc (.cells (erl A) 37)) (fun i _ => 18 - (intOf i).toNat)
  case atStart => exact ⟨0, Nat.zero_le _, rfl, rfl⟩
  case round =>
    obtain ⟨k, hk, rfl, rfl⟩ := hrel
    have ck := HB.out.cell k _ (erl_at A k (by omega))
    have hS2 := HS.out.below hBB (Nat.le_refl _)
    by_cases hlt : k < j
    · obtain ⟨ca, ta, ha⟩ := hS2.blk j hj
      obtain ⟨cb, tb, hb⟩ := hS2.blk k (by omega)
      have heq := run_eql_iface_ptr_other (P := Tryz.prog) (w := w.alloc (.cells (erl A) 37)) Tryz.underlying37 Tryz.underlying126 hi0 hcm hj0 hsz (hS2.apart hj (show k < 18 by omega) (by omega)) ha hb
      clear ha hb hS2
      go_wp2
      go_roundw
      case rel => exact ⟨k + 1, by omega, by go_num, trivial⟩
      case measure => simp [intOf]; omega
    · obtain rfl : k = j := by omega
      have heq := run_eql_iface_ptr_same (P := Tryz.prog) (w := w.alloc (.cells (erl A) 37)) (A k) Tryz.underlying37 Tryz.underlying126 hi0 hcm hj0
      clear hS2
      go_wp2
      go_ret
      exact ⟨rfl, hBB⟩
end Go.Proofs.YtgimmdnmndbcpaaGreatDoor
