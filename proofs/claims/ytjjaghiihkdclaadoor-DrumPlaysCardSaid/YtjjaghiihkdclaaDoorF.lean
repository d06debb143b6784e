/- Image of a drum: what the call comes to. -/
import Derived.Test.YtjjaghiihkdclaaDoorE
import Derived.Laws.AppendOwnNone
import Derived.Maps.AppendAt
import Derived.OwnWalk
import Derived.Laws.BytesArg
import Derived.Test.YtjjaghiihkdclaaDoorRow
set_option linter.unusedVariables false
set_option linter.unusedSimpArgs false
namespace Go.Proofs.YtjjaghiihkdclaaDoor
open Go.RowKit Jw

/-- A slice value that reads as these bytes. -/
def Rb (w : World) (v : Value) (l : List Int) : Prop :=
  ∃ (ao : Option Addr) (cap : Nat), v = .slice ao l.length cap ∧ (l.length ≠ 0 → ∃ b off, ao = some ⟨b, off, none⟩ ∧ b < w.heap.size ∧ ∀ k, k < l.length → w.cell? ⟨b, off + k, none⟩ = some (.int .u8 (l.getD k 0)))
theorem Rb.below {w w' : World} {v : Value} {l : List Int} {B : Nat} (h : Rb w v l) (hb : Below B w w') (hB : w.heap.size ≤ B) : Rb w' v l := by
  obtain ⟨ao, cap, rfl, h⟩ := h
  refine ⟨ao, cap, rfl, fun hn => ?_⟩
  obtain ⟨b, off, rfl, hlt, hc⟩ := h hn
  exact ⟨b, off, rfl, Nat.lt_of_lt_of_le hlt hb.size, fun k hk => (hb.cell (by show b < B; omega)).trans (hc k hk)⟩
theorem Rb.of_row {w : World} {base : Nat} {v : Value} {l : List Int} (h : w.ownsRow base 5 1 v l.length (l.map (Value.int .u8))) : Rb w v l := by
  obtain ⟨h1, ⟨rfl, h2⟩ | ⟨g, cap, cur, rfl, hg, hh, hc, hm, hs, ht⟩⟩ := h
  · exact ⟨none, 0, by rw [h2], fun h => absurd h2 h⟩
  · have hb : Blk w g cur 5 := hh
    refine ⟨some ⟨g, 0, none⟩, cap, rfl, fun _ => ⟨g, 0, rfl, hb.lt, fun k hk => ?_⟩⟩
    rw [Nat.zero_add]
    refine hb.cell k _ ?_
    have e : (cur.toList.take (l.length * 1))[k]? = (l.map (Value.int .u8))[k]? := by rw [ht]
    rw [List.getElem?_take_of_lt (by omega)] at e
    rw [← Array.getElem?_toList, e, List.getElem?_map, List.getElem?_eq_getElem hk, List.getD_eq_getElem?_getD, List.getElem?_eq_getElem hk]
    rfl
theorem one_bytes (l : List Int) : ∀ u ∈ l.map (Value.int .u8), u.oneCell' = true := by
  intro u hu
  rw [List.mem_map] at hu
  obtain ⟨x, _, rfl⟩ := hu
  rfl
theorem own_lt {w : World} {base : Nat} {e : TypeId} {s n : Nat} {v : Value} {xs : List Value} (h : w.ownsRow base e s v n xs) {g : Nat} (hg : v.ownBlock = some g) : base ≤ g ∧ g < w.heap.size := by
  obtain ⟨_, ⟨rfl, _⟩ | ⟨g', c, cur, rfl, hb, hh, _⟩⟩ := h
  · simp [Value.ownBlock] at hg
  · simp only [Value.ownBlock, Option.some.injEq] at hg
    subst hg
    exact ⟨hb, Blk.lt (cs := cur) (t := e) hh⟩
theorem info5 : (Tryd.prog.info? 5).map (fun i => (i.zero, i.size, i.bytes)) = some (some (.int .u8 0), 1, 1) := by kernel_rfl
theorem info_parts' {i : TypeId} {z : Value} {s b : Nat} (h : (Tryd.prog.info? i).map (fun i => (i.zero, i.size, i.bytes)) = some (some z, s, b)) : ∃ i0, Tryd.prog.info? i = some i0 ∧ i0.zero = some z ∧ i0.size = s ∧ i0.bytes = b := by
  obtain ⟨i0, hi, hz⟩ := Option.map_eq_some_iff.1 h
  simp only [Prod.mk.injEq] at hz
  exact ⟨i0, hi, hz.1, hz.2.1, hz.2.2⟩
/-- make([]byte, 0, c). -/
theorem make_cap (c : Nat) (hc : c ≤ 1000000) (w : World) :
    (Instr.makeSlice 40 (.int .i64 0) (.int .i64 (c : Int))).run Tryd.prog w = .ok (.slice (some ⟨w.heap.size, 0, none⟩) 0 c) (w.alloc (.cells (madeCells #[.int .u8 0] c) 5)) := by
  obtain ⟨i0, hi, hz0, hz1, hz2⟩ := info_parts' info5
  have h := run_make (P := Tryd.prog) w 40 5 i0 _ Tryd.underlying40 hi hz0 .i64 .i64 0 (c : Int) (by omega) (by omega) (by rw [hz2]; omega) (by omega)
  rw [hz1, Int.toNat_natCast, Nat.mul_one] at h
  exact h
theorem made_own (w : World) (base c : Nat) (h : base ≤ w.heap.size) (hc : c ≤ 1000000) : (w.alloc (.cells (madeCells #[.int .u8 0] c) 5)).ownsRow base 5 1 (.slice (some ⟨w.heap.size, 0, none⟩) 0 c) 0 [] :=
  ⟨rfl, .inr ⟨w.heap.size, c, _, rfl, h, blk_new w _ 5, Nat.zero_le _, by unfold maxLen; omega, by rw [size_madeCells, Nat.mul_one], by simp⟩⟩
theorem take_blk (L : List Int) (k : Nat) : L.take (k * 64 + 64) = L.take (k * 64) ++ get L k := by
  rw [get, List.take_add]
theorem row_cells (L : List Int) (k n : Nat) (hl : L.length = n * 64) (hk : k < n) (j : Nat) (u : Value) (hj : ((get L k).map (Value.int .u8))[j]? = some u) : (row L)[k * 64 + j]? = some u := by
  rw [row, List.getElem?_toArray, List.getElem?_map, ← hj, List.getElem?_map, get, List.getElem?_take]
  have : j < 64 := by
    rcases Nat.lt_or_ge j 64 with h | h
    · exact h
    · rw [List.getElem?_eq_none (by simp [get]; omega)] at hj; cases hj
  rw [if_pos this, List.getElem?_drop]

section
variable {w : World} {b g n : Nat} {off ar : Bool} {l wr : Int} {L : List Int}
set_option maxRecDepth 100000 in
set_option maxHeartbeats 1000000 in
theorem image_own (h : Dr w b g off ar l n wr L) (hn : 1 ≤ n) (hn2 : n ≤ 5000) :
    Calls Tryd.prog 16 #[pt b] w fun e w' => ∃ v, e = .returned v ∧ w'.ownsRow w.heap.size 5 1 v L.length (L.map (Value.int .u8)) ∧ Below w.heap.size w w' := by
  obtain ⟨i0, hi, hz0, hz1, hz2⟩ := info_parts' info5
  have c3 := h.d.cell 3 _ rfl
  have hmk := make_cap (n * 64) (by omega) w
  rw [show ((n * 64 : Nat) : Int) = (n : Int) * 64 by omega] at hmk
  have hO := made_own w w.heap.size (n * 64) (Nat.le_refl _) (by omega)
  have hB1 : Below w.heap.size w (w.alloc (.cells (madeCells #[.int .u8 0] (n * 64)) 5)) := (Below.refl _ _).alloc (Nat.le_refl _) _
  have hd1 := h.alloc (.cells (madeCells #[.int .u8 0] (n * 64)) 5)
  have HL := Lib.hid h.len
  have HH := Lib.hid h
  have hlb := h.d.lt
  have hlg := h.k.lt
  obtain ⟨cs, ecs⟩ : ∃ cs, cs = madeCells #[.int .u8 0] (n * 64) := ⟨_, rfl⟩
  rw [← ecs] at hmk hO hB1 hd1
  have HO := Lib.hid hO
  have HD := Lib.hid hd1
  have hc31 := hd1.d.cell 3 _ rfl
  clear ecs hO h hd1
  go_enter Tryd.func16, Tryd.ntmps16
  go_wp2_with fail
  go_loopw [3, 17] (fun v i wr' => ∃ (k : Nat), k ≤ n ∧ i = n64 k ∧ wr'.ownsRow w.heap.size 5 1 v (k * 64) ((L.take (k * 64)).map (Value.int .u8)) ∧ Below w.heap.size w wr') (fun _ i _ => n - (intOf i).toNat)
  case atStart => exact ⟨0, Nat.zero_le _, rfl, by simpa using HO.out, hB1⟩
  case round =>
    clear HO hB1 hmk hc31 HD c3
    obtain ⟨k, hk, rfl, hown, hB⟩ := hrel
    have hd := HH.out.below hB hlb hlg
    by_cases hlt : k < n
    · have c3 := hd.d.cell 3 _ rfl
      have HK := Lib.hid hd.k
      have hlw := hB.size
      have HO := Lib.hid hown
      clear hd hown
      go_wp2_with (at_builtin; refine wpList_append_own _ rfl (.tmp 20) (.tmp 27) 40 rfl w.heap.size 5 i0 _ 1 1 Tryd.underlying40 hi hz0 hz1 hz2 rfl (by decide) _ (k * 64) _ rfl HO.out ⟨g, k * 64, none⟩ 64 64 ((get L k).map (Value.int .u8)) rfl (by rw [List.length_map, get_length L k n HL.out hlt]) ?c1 (one_bytes _) ?c2 ?c3 ?c4 ?_)
      case c1 =>
        intro j u hj
        rw [addr_add, cell_of_row _ _ _ _ _ _ HK.out]
        exact row_cells L k n HL.out hlt j u hj
      case c2 => unfold maxLen; omega
      case c3 => omega
      case c4 => exact hlw
      intro v' w2 hown' hgrow _
      have hB2 := hB.grown hgrow hlw (by intro g' hg'; exact (own_lt HO.out hg').1)
      rw [← List.map_take, ← List.map_append, ← take_blk, show k * 64 + 64 = (k + 1) * 64 by omega] at hown'
      have HO2 := Lib.hid hown'
      have HB2 := Lib.hid hB2
      clear hown' hgrow hB2 hB c3
      go_wp2
      go_roundw
      case rel => exact ⟨k + 1, by omega, by go_num, HO2.out, HB2.out⟩
      case measure => simp [intOf]; omega
    · obtain rfl : k = n := by omega
      have hR : wr.ownsRow w.heap.size 5 1 u3 L.length (L.map (Value.int .u8)) := by rw [HL.out]; have := hown; rw [List.take_of_length_le (by rw [HL.out]; exact Nat.le_refl _)] at this; exact this
      have HR := Lib.hid (And.intro hR hB)
      have c3 := hd.d.cell 3 _ rfl
      clear hR hown hB hd
      go_wp2
      go_ret
      exact ⟨_, rfl, HR.out.1, HR.out.2⟩
theorem image_any (h : Dr w b g off ar l n wr L) (hn : 1 ≤ n) (hn2 : n ≤ 5000) :
    Calls Tryd.prog 16 #[pt b] w fun e w' => ∃ v, e = .returned v ∧ Rb w' v L ∧ Below w.heap.size w w' :=
  (image_own h hn hn2).mono fun e w' ⟨v, he, hr, hb⟩ => ⟨v, he, Rb.of_row hr, hb⟩
/-- The image, its shape told. -/
theorem image_cap (h : Dr w b g off ar l n wr L) (hn : 1 ≤ n) (hn2 : n ≤ 5000) :
    Calls Tryd.prog 16 #[pt b] w fun e w' => ∃ ao cap, e = .returned (.slice ao L.length cap) ∧ L.length ≤ cap ∧ cap ≤ 9223372036854775807 ∧ Rb w' (.slice ao L.length cap) L ∧ Below w.heap.size w w' :=
  (image_own h hn hn2).mono fun e w' ⟨v, he, hr, hb⟩ => by
    have hR := Rb.of_row hr
    obtain ⟨h1, ⟨rfl, h2⟩ | ⟨g, cap, cur, rfl, hg, hh, hc, hm, hs, ht⟩⟩ := hr
    · exact absurd h2 (by rw [h.len]; omega)
    · exact ⟨_, _, he, hc, by unfold maxLen at hm; omega, hR, hb⟩
end
end Go.Proofs.YtjjaghiihkdclaaDoor
