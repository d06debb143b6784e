/- A copy of bytes with marked room behind. -/
import Derived.Test.YtjjaghiihkdclaaDoorK
import Derived.Deep.CutBlock
set_option linter.unusedVariables false
set_option linter.unusedSimpArgs false
namespace Go.Proofs.YtjjaghiihkdclaaDoor
open Go.RowKit Jw

def tl6 : List Int := [201, 202, 203, 204, 205, 206]
abbrev tl6v : List Value := [.int .u8 201, .int .u8 202, .int .u8 203, .int .u8 204, .int .u8 205, .int .u8 206]
theorem make_cap6 (n : Nat) (hn : n ≤ 262400) (w : World) :
    (Instr.makeSlice 40 (.int .i64 0) (.int .i64 ((n : Int) + 6))).run Tryd.prog w = .ok (.slice (some ⟨w.heap.size, 0, none⟩) 0 (n + 6)) (w.alloc (.cells (madeCells #[.int .u8 0] (n + 6)) 5)) := make_cap (n + 6) (by omega) w
theorem news6 {w : World} {t : TypeId} : ∀ j u, tl6v[j]? = some u → (w.alloc (.cells tl6v.toArray t)).cell? ((⟨w.heap.size, 0, none⟩ : Addr).add j) = some u := by
  intro j u hj
  rw [addr_add, Nat.zero_add]
  exact (blk_new w tl6v.toArray t).cell j u (by simpa using hj)

set_option maxHeartbeats 1000000 in
theorem bytes_any (ao : Option Addr) (cap : Nat) (ls : List Int) (w : World) (hr : Rb w (.slice ao ls.length cap) ls) (h0 : ao = none → ls.length = 0 ∧ cap = 0) (hlen : ls.length ≤ 262400) :
    Calls Tryd.prog 19 #[.slice ao ls.length cap] w fun e w' => ∃ g cp, e = .returned (.slice (some ⟨g, 0, none⟩) ls.length cp) ∧ ls.length + 6 ≤ cp ∧ w.heap.size ≤ g ∧ w'.ownsRow w.heap.size 5 1 (.slice (some ⟨g, 0, none⟩) (ls.length + 6) cp) (ls.length + 6) ((ls ++ tl6).map (Value.int .u8)) ∧ Below w.heap.size w w' := by
  obtain ⟨i0, hi, hz0, hz1, hz2⟩ := info_parts' info5
  have HRD := Lib.hid hr
  have H0 := Lib.hid h0
  clear hr h0
  go_enter Tryd.func19, Tryd.ntmps19
  go_upto_region 1 with fail
  go_cut [3] (fun s wx => wx.ownsRow w.heap.size 5 1 s (ls.length + 6) ((ls ++ tl6).map (Value.int .u8)) ∧ Below w.heap.size w wx)
  case first =>
    obtain ⟨n, hn⟩ : ∃ n, n = ls.length := ⟨_, rfl⟩
    have hmk := make_cap6 n (by omega) w
    have hO := made_own w w.heap.size (n + 6) (Nat.le_refl _) (by omega)
    have hB1 : Below w.heap.size w (w.alloc (.cells (madeCells #[.int .u8 0] (n + 6)) 5)) := (Below.refl _ _).alloc (Nat.le_refl _) _
    obtain ⟨cs, ecs⟩ : ∃ cs, cs = madeCells #[.int .u8 0] (n + 6) := ⟨_, rfl⟩
    rw [← ecs] at hmk hO hB1
    rw [hn] at hmk hO
    have HO := Lib.hid hO
    clear ecs hn hO
    cases ao with
    | none =>
      obtain ⟨hl0, rfl⟩ := H0.out rfl
      have hnil := List.eq_nil_of_length_eq_zero hl0
      have hO2 : (w.alloc (.cells cs 5)).ownsRow w.heap.size 5 1 (.slice (some ⟨w.heap.size, 0, none⟩) 0 (ls.length + 6)) ls.length (ls.map (Value.int .u8)) := by
        rw [hl0, hnil]
        have := HO.out
        rw [hl0] at this
        exact this
      have HO2 := Lib.hid hO2
      have HL0 := Lib.hid hl0
      clear hO2 hnil H0 HRD hl0
      go_wp2_with (at_builtin; first
        | refine wpList_append_own_none rfl (.tmp 7) (.tmp 8) 40 rfl w.heap.size 5 i0 1 Tryd.underlying40 hi _ ls.length _ rfl HO2.out (by show Value.slice none ls.length 0 = _; rw [HL0.out]) ?_
        | refine wpList_append_own _ rfl (.tmp 9) (.tmp 10) 40 rfl w.heap.size 5 i0 _ 1 1 Tryd.underlying40 hi hz0 hz1 hz2 rfl (by decide) _ ls.length _ rfl (HO2.out.alloc _) ⟨w.heap.size + 1, 0, none⟩ 6 6 tl6v rfl rfl ?c1 ?c2 ?c3 ?c4 ?c5 ?_)
      case c1 =>
        intro j u hj
        have h := news6 (w := w.alloc (.cells cs 5)) (t := 5) j u hj
        rw [show (w.alloc (.cells cs 5)).heap.size = w.heap.size + 1 from by simp] at h
        exact h
      case c2 => intro u hu; simp [tl6v, tl6] at hu; rcases hu with rfl | rfl | rfl | rfl | rfl | rfl <;> rfl
      case c3 => unfold maxLen; omega
      case c4 => omega
      case c5 => simp; omega
      · intro v' w3 hown' hgrow _
        have hB4 := (hB1.alloc hB1.size (.cells tl6v.toArray 5)).grown hgrow (by simp; omega) (by intro g hg; simp [Value.ownBlock] at hg; omega)
        have HW := Lib.hid hown'
        clear hown' hgrow
        go_wp2_with fail
        go_meet
        exact ⟨by rw [List.map_append]; exact HW.out, hB4⟩
    | some a =>
      clear H0
      go_wp2_with (at_builtin; refine wpList_append_own _ rfl (.tmp 7) (.tmp 8) 40 rfl w.heap.size 5 i0 _ 1 1 Tryd.underlying40 hi hz0 hz1 hz2 rfl (by decide) _ 0 [] rfl HO.out a ls.length cap (ls.map (Value.int .u8)) rfl (by simp) ?c1 (one_bytes ls) ?c2 ?c3 ?c4 ?_)
      case c1 =>
        intro j u hj
        have hj' : j < ls.length := by
          rcases Nat.lt_or_ge j ls.length with h | h
          · exact h
          · rw [List.getElem?_eq_none (by simpa using h)] at hj; cases hj
        obtain ⟨ao', cap', e1, hrd⟩ := HRD.out
        obtain ⟨b, off, e, hlt, hc⟩ := hrd (by omega)
        injection e1 with e2 _ _
        rw [← e2] at e
        injection e with e
        subst e
        rw [addr_add, ((Below.refl w.heap.size w).alloc (Nat.le_refl _) _).cell (p := ⟨b, off + j, none⟩) hlt, hc j hj']
        rw [List.getElem?_map, List.getElem?_eq_getElem hj'] at hj
        rw [List.getD_eq_getElem?_getD, List.getElem?_eq_getElem hj']
        exact hj
      case c2 => unfold maxLen; omega
      case c3 => omega
      case c4 => simp
      · intro va w2 howna hgrow _
        have hB3 := hB1.grown hgrow (by simp) (by intro g hg; simp [Value.ownBlock] at hg; omega)
        have HO2 := Lib.hid howna
        have hsz2 := hB3.size
        clear howna hgrow
        go_wp2_with (at_builtin; refine wpList_append_own _ rfl (.tmp 9) (.tmp 10) 40 rfl w.heap.size 5 i0 _ 1 1 Tryd.underlying40 hi hz0 hz1 hz2 rfl (by decide) _ ls.length _ rfl (HO2.out.alloc _) ⟨w2.heap.size, 0, none⟩ 6 6 tl6v rfl rfl ?d1 ?d2 ?d3 ?d4 ?d5 ?_)
        case d1 => exact news6
        case d2 => intro u hu; simp [tl6v, tl6] at hu; rcases hu with rfl | rfl | rfl | rfl | rfl | rfl <;> rfl
        case d3 => unfold maxLen; omega
        case d4 => omega
        case d5 => simp; omega
        · intro v' w3 hown' hgrow _
          have hB4 := (hB3.alloc hB3.size (.cells tl6v.toArray 5)).grown hgrow (by simp; omega) (by intro g hg; have := own_lt HO2.out hg; omega)
          have HW := Lib.hid hown'
          clear hown' hgrow
          go_wp2_with fail
          go_meet
          exact ⟨by rw [List.map_append]; exact HW.out, hB4⟩
  case rest =>
    obtain ⟨hO, hB⟩ := hcut
    obtain ⟨h1, ⟨_, h2⟩ | ⟨g, cp, cur, rfl, hg, hh, hcp, r⟩⟩ := hO
    · omega
    · have HO := Lib.hid (show wc.ownsRow w.heap.size 5 1 (.slice (some ⟨g, 0, none⟩) (ls.length + 6) cp) (ls.length + 6) ((ls ++ tl6).map (Value.int .u8)) from ⟨h1, .inr ⟨g, cp, cur, rfl, hg, hh, hcp, r⟩⟩)
      clear h1 hh r
      go_wp2
      go_ret
      exact ⟨g, cp, rfl, hcp, hg, HO.out, hB⟩


theorem bytes_rb (ao : Option Addr) (cap : Nat) (ls : List Int) (w : World) (hr : Rb w (.slice ao ls.length cap) ls) (h0 : ao = none → ls.length = 0 ∧ cap = 0) (hlen : ls.length ≤ 262400) :
    Calls Tryd.prog 19 #[.slice ao ls.length cap] w fun e w' => ∃ g cp, e = .returned (.slice (some ⟨g, 0, none⟩) ls.length cp) ∧ ls.length ≤ cp ∧ cp ≤ 9223372036854775807 ∧ Rb w' (.slice (some ⟨g, 0, none⟩) ls.length cp) ls ∧ Below w.heap.size w w' := by
  refine (bytes_any ao cap ls w hr h0 hlen).mono fun e w' ⟨g, cp, he, hc, hg, hO, hB⟩ => ⟨g, cp, he, by omega, ?_, ?_, hB⟩
  · obtain ⟨_, ⟨h, _⟩ | ⟨_, _, _, h, _, _, _, hm, _⟩⟩ := hO
    · cases h
    · injection h with _ _ h; unfold maxLen at hm; omega
  · obtain ⟨h1, ⟨h, _⟩ | ⟨g', cap', cur, h, _, hh, hcp, hm, hs, ht⟩⟩ := hO
    · cases h
    · injection h with h2 _ h3
      injection h2 with h2
      injection h2 with h2 _ _
      subst h2 h3
      have hb : Blk w' g cur 5 := hh
      refine ⟨_, _, rfl, fun _ => ⟨g, 0, rfl, hb.lt, fun k hk => ?_⟩⟩
      rw [Nat.zero_add]
      refine hb.cell k _ ?_
      have e : (cur.toList.take ((ls.length + 6) * 1))[k]? = ((ls ++ tl6).map (Value.int .u8))[k]? := by rw [ht]
      rw [List.getElem?_take_of_lt (by omega)] at e
      rw [← Array.getElem?_toList, e, List.getElem?_map, List.getElem?_append_left hk, List.getElem?_eq_getElem hk, List.getD_eq_getElem?_getD, List.getElem?_eq_getElem hk]
      rfl
end Go.Proofs.YtjjaghiihkdclaaDoor
