/- A copy of bytes with marked room behind; whether it stands as it stood; are pieces few. -/
import Derived.Test.YtfphfljndhideaaDoorAo
set_option linter.unusedVariables false
set_option linter.unusedSimpArgs false
namespace Go.Proofs.YtfphfljndhideaaDoor
open Go Go.RowKit Jw Lab

def tl6 : List UInt8 := [201, 202, 203, 204, 205, 206]
theorem make_run (c : Nat) (hc : c ≤ 1000000) (w : World) :
    (Instr.makeSlice 37 (.int .i64 0) (.int .i64 (c : Int))).run Tryd.prog w = .ok (.slice (some ⟨w.heap.size, 0, none⟩) 0 c) (w.alloc (.cells (madeCells #[.int .u8 0] c) 5)) := by
  obtain ⟨i0, hi, hz0, hz1, hz2⟩ := info_parts' info5
  have h := run_make (P := Tryd.prog) w 37 5 i0 _ Tryd.underlying37 hi hz0 .i64 .i64 0 (c : Int) (by omega) (by omega) (by rw [hz2]; omega) (by omega)
  rw [hz1, Int.toNat_natCast, Nat.mul_one] at h
  exact h
theorem made_own (w : World) (base c : Nat) (h : base ≤ w.heap.size) (hc : c ≤ 1000000) : (w.alloc (.cells (madeCells #[.int .u8 0] c) 5)).ownsRow base 5 1 (.slice (some ⟨w.heap.size, 0, none⟩) 0 c) ([] : List UInt8).length (bv []) :=
  ⟨rfl, .inr ⟨w.heap.size, c, _, rfl, h, blk_new w _ 5, Nat.zero_le _, by unfold maxLen; omega, by rw [size_madeCells, Nat.mul_one], by simp [bv]⟩⟩

set_option maxHeartbeats 1000000 in
theorem bytes_any (l : List UInt8) (v : Value) (w : World) (hr : Rb w v l) (hno : ∀ n c, v = .slice none n c → n = 0 ∧ c = 0) (hlen : l.length ≤ 262400) :
    Calls Tryd.prog 33 #[v] w fun e w' => ∃ g cp, e = .returned (.slice (some ⟨g, 0, none⟩) l.length cp) ∧ l.length + 6 ≤ cp ∧ w'.ownsRow w.heap.size 5 1 (.slice (some ⟨g, 0, none⟩) (l ++ tl6).length cp) (l ++ tl6).length (bv (l ++ tl6)) ∧ Below w.heap.size w w' := by
  have HR := Lib.hid hr
  obtain ⟨ao, cap, rfl, hx⟩ := hr
  have HNO := Lib.hid hno
  have hmk := make_run (l.length + 6) (by omega) w
  rw [show ((l.length + 6 : Nat) : Int) = (l.length : Int) + 6 by omega] at hmk
  have hO := made_own w w.heap.size (l.length + 6) (Nat.le_refl _) (by omega)
  have hB1 : Below w.heap.size w (w.alloc (.cells (madeCells #[.int .u8 0] (l.length + 6)) 5)) := (Below.refl _ _).alloc (Nat.le_refl _) _
  obtain ⟨w1, hw1⟩ : ∃ w1, w1 = w.alloc (.cells (madeCells #[.int .u8 0] (l.length + 6)) 5) := ⟨_, rfl⟩
  rw [← hw1] at hmk hO hB1
  have HO := Lib.hid hO
  have HR1 := Lib.hid (HR.out.below hB1 (Nat.le_refl _))
  have HB1 := Lib.hid hB1
  have wk : IntKind.i64.wrap ((l.length : Int) + 6) = (l.length : Int) + 6 := IntWalk.i64_in _ (by omega)
  have HL := Lib.hid hlen
  clear hw1 hO hB1 hno hx hlen
  go_enter Tryd.func33, Tryd.ntmps33
  go_wp2_with (at_builtin; refine wp_app_rb rfl (.tmp 7) (.tmp 8) rfl w1 w.heap.size [] l _ HO.out rfl _ rfl HR1.out HNO.out ?c1 ?c2 ?_)
  case c1 => have := HL.out; simp; omega
  case c2 => exact HB1.out.size
  intro v2 w2 o2 g2
  have hB2 := HB1.out.trans (grown_below g2 (fun g hg => (own_lo HO.out g hg).1) HB1.out.size)
  have HO2 := Lib.hid o2
  have HB2 := Lib.hid hB2
  have r3 : Rb (w2.alloc (.cells (bv tl6).toArray 5)) (.slice (some ⟨w2.heap.size, 0, none⟩) 6 6) tl6 := rb_mark w2 tl6 (0, 0) 6 _ (fun k hk => bv_arr tl6 k hk)
  have HR3 := Lib.hid r3
  clear o2 g2 hB2 r3 HO HR1 HB1
  go_wp2_with (at_builtin; refine wp_app_rb rfl (.tmp 9) (.tmp 10) rfl _ w.heap.size l tl6 _ (HO2.out.alloc _) rfl _ rfl HR3.out ?c0 ?c1 ?c2 ?_)
  case c0 => intro n c e; cases e
  case c1 => have := HL.out; simp [tl6]; omega
  case c2 => have := HB2.out.size; simp; omega
  intro v3 w3 o3 g3
  have hB3 := (HB2.out.alloc HB2.out.size (.cells (bv tl6).toArray 5)).trans (grown_below g3 (fun g hg => (own_lo HO2.out g hg).1) (by have := HB2.out.size; simp; omega))
  have o3' : w3.ownsRow w.heap.size 5 1 v3 (l ++ tl6).length (bv (l ++ tl6)) := by rw [List.length_append]; exact o3
  obtain ⟨g, cp, rfl, hg1, hg2⟩ := o3'.form (by simp [tl6])
  have hcp : l.length + 6 ≤ cp := by
    obtain ⟨_, ⟨e, _⟩ | ⟨g', cap', cur, e, _, _, hcp, _⟩⟩ := o3'
    · cases e
    · injection e with _ _ e3
      simp [tl6] at hcp
      omega
  have HO3 := Lib.hid o3'
  have HB3 := Lib.hid hB3
  have f1 : l.length ≤ cp := by omega
  have f2 : (l.length : Int) ≤ (cp : Int) := by omega
  clear o3 o3' g3 hB3 HO2 HB2 HR3 hg1 hg2
  go_wp2
  go_ret
  exact ⟨g, cp, rfl, hcp, HO3.out, HB3.out⟩

theorem tl6_at (k : Nat) (hk : k < 6) : ((tl6.getD k 0).toNat : Int) = 201 + (k : Int) := by
  rcases (show k = 0 ∨ k = 1 ∨ k = 2 ∨ k = 3 ∨ k = 4 ∨ k = 5 by omega) with rfl | rfl | rfl | rfl | rfl | rfl <;> rfl

set_option maxHeartbeats 1000000 in
theorem kept_any (l : List UInt8) (v : Value) (w : World) (hr : Rb w v l) (base g cp : Nat) (ho : w.ownsRow base 5 1 (.slice (some ⟨g, 0, none⟩) (l ++ tl6).length cp) (l ++ tl6).length (bv (l ++ tl6))) (hlen : l.length ≤ 262400) :
    Calls Tryd.prog 34 #[.slice (some ⟨g, 0, none⟩) l.length cp, v] w fun e w' => e = .returned (.bool true) ∧ Below w.heap.size w w' := by
  have hcp : l.length + 6 ≤ cp ∧ cp ≤ 9223372036854775807 := by
    obtain ⟨_, ⟨e, _⟩ | ⟨g', cap', cur, e, _, _, hcp, hm, _⟩⟩ := ho
    · cases e
    · injection e with _ _ e3
      simp [tl6] at hcp
      unfold maxLen at hm
      omega
  have hll : (l ++ tl6).length = l.length + 6 := by simp [tl6]
  have hglt : g < w.heap.size := (own_cell5 ho 0 (by omega)).2.2.1
  have hcell : ∀ k, k < l.length + 6 → w.cell? ⟨g, k, none⟩ = some (.int .u8 (((l ++ tl6).getD k 0).toNat : Int)) := fun k hk => (own_cell5 ho k (by omega)).1.trans (bv_at (l ++ tl6) k (by omega))
  have hrb : ∀ n, Rb (w.drewN n) (.slice (some ⟨g, 0, none⟩) l.length cp) l := fun n => ⟨_, _, rfl, fun _ => ⟨g, 0, rfl, hglt, fun k hk => by
    have := hcell k (by omega)
    rw [List.getD_eq_getElem?_getD, List.getElem?_append_left hk, ← List.getD_eq_getElem?_getD] at this
    rw [Nat.zero_add]
    exact this⟩⟩
  have hcv := fun n => rb_conv (hrb n)
  have hcv2 : ∀ n, (convert 37 9 v).run Tryd.prog (w.drewN n) = .ok (.string (bs l)) (w.drewN n) := fun n => rb_conv (hr.below (B := w.heap.size) ⟨rfl, rfl, rfl, Nat.le_refl _, fun _ _ => rfl⟩ (Nat.le_refl _))
  have htl : ∀ k, k < 6 → w.cell? ⟨g, l.length + k, none⟩ = some (.int .u8 (201 + (k : Int))) := fun k hk => by
    have := hcell (l.length + k) (by omega)
    rw [List.getD_eq_getElem?_getD, List.getElem?_append_right (by omega), show l.length + k - l.length = k by omega, ← List.getD_eq_getElem?_getD, tl6_at k hk] at this
    exact this
  have HTL := Lib.hid htl
  obtain ⟨ao, cap, rfl, hx⟩ := hr
  have wk : IntKind.i64.wrap ((l.length : Int) + 6) = (l.length : Int) + 6 := IntWalk.i64_in _ (by omega)
  have f1 : l.length ≤ cp := by omega
  have f2 : (l.length : Int) ≤ (cp : Int) := by omega
  have f3 : decide ((cp : Int) < (l.length : Int) + 6) = false := by simp; omega
  have t1 : (bs l).toList = l := ByteArray.toList_mk l
  have qn : (l != l) = false := by simp
  have qe : (l == l) = true := by simp
  have HCP := Lib.hid hcp
  have HLE := Lib.hid hlen
  clear ho hcell hrb htl hx hcp hll hlen hglt
  go_enter Tryd.func34, Tryd.ntmps34
  go_upto_region 2 with fail
  go_quiet (fail)
  clear hcv hcv2
  go_upto_region 5 with fail
  go_loopw [6] (fun i wr => ∃ (k : Nat), k ≤ 6 ∧ i = n64 k ∧ wr = w.drewN nq) (fun i _ => 6 - (intOf i).toNat)
  case atStart => exact ⟨0, by omega, rfl, rfl⟩
  case round =>
    obtain ⟨k, hk, rfl, rfl⟩ := hrel
    by_cases hlk : k < 6
    · have hx := HTL.out k hlk
      have q1 : decide ((k : Int) < 6) = true := by simp; omega
      obtain ⟨i, hi⟩ : ∃ i : Nat, i = l.length + k := ⟨_, rfl⟩
      have e1 : (l.length : Int) + (k : Int) = (i : Int) := by omega
      have w1 : IntKind.i64.wrap (i : Int) = (i : Int) := IntWalk.i64_in _ (by have := HLE.out; omega)
      have f4 : (0 : Int) ≤ (i : Int) ∧ (i : Int) < (cp : Int) := by have := HCP.out.1; omega
      have f5 : i < cp := by omega
      have w2 : IntKind.i64.wrap (201 + (k : Int)) = 201 + (k : Int) := IntWalk.i64_in _ (by omega)
      have w3 : IntKind.u8.wrap (201 + (k : Int)) = 201 + (k : Int) := by
        rcases (show k = 0 ∨ k = 1 ∨ k = 2 ∨ k = 3 ∨ k = 4 ∨ k = 5 by omega) with rfl | rfl | rfl | rfl | rfl | rfl <;> rfl
      have q2 : ((201 + (k : Int)) != 201 + (k : Int)) = false := by simp
      have ck : ((k : Int) + 1) ≤ 4294967290 := by omega
      rw [← hi] at hx
      clear hi
      go_wp2
      go_roundw
      case rel => exact ⟨k + 1, by omega, by go_num, trivial⟩
      case measure => simp [intOf]; omega
    · obtain rfl : k = 6 := by omega
      go_wp2
      go_ret
      exact ⟨rfl, ⟨rfl, rfl, rfl, Nat.le_refl _, fun _ _ => rfl⟩⟩
end Go.Proofs.YtfphfljndhideaaDoor
