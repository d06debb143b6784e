/- The chapter's examples of first lines; Line and the reference's Line. -/
import Derived.Test.YtfphfljndhideaaDoorS6
import Derived.Lib.SlBytesConst
set_option linter.unusedVariables false
set_option linter.unusedSimpArgs false
namespace Go.Proofs.YtfphfljndhideaaDoor
open Go.RowKit Jw Lab

theorem bv_arr (l : List UInt8) (k : Nat) (h : k < l.length) : (bv l).toArray[k]? = some (.int .u8 ((l.getD k 0).toNat : Int)) := by
  rw [List.getElem?_toArray]
  exact bv_at l k h
/-- A row of bytes that a conversion has laid. -/
theorem rb_mark (w : World) (l : List UInt8) (fr : Nat × Nat) (cap : Nat) (xs : Array Value) (hx : ∀ k, k < l.length → xs[k]? = some (.int .u8 ((l.getD k 0).toNat : Int))) : Rb (w.alloc (.cells xs 5 fr)) (.slice (some ⟨w.heap.size, 0, none⟩) l.length cap) l :=
  ⟨_, cap, rfl, fun _ => ⟨w.heap.size, 0, rfl, by simp, fun k hk => by rw [Nat.zero_add, World.cell?_alloc_mark]; exact hx k hk⟩⟩
def lit1 : List UInt8 := [116, 111, 32, 97, 46, 98, 10, 120, 121, 122]
def lit2 : List UInt8 := [116, 120]
theorem fd_lit1 : fd [] lit1 = (7, 1, [116, 111, 32, 97, 46, 98, 10]) := by decide
theorem fd_lit2 : fd [] lit2 = (2, 2, []) := by decide

set_option maxHeartbeats 1000000 in
theorem alive17_any (w : World) (a : Addr) (m : Int) (hg : Gl w a m) : Calls Tryd.prog 25 #[] w fun e w' => e = .returned (.bool true) ∧ Below w.heap.size w w' := by
  have HQ := Lib.hid (fun wx => eq_same a wx)
  have HG := Lib.hid hg.gb
  obtain ⟨o, ho⟩ : ∃ o, o = Obj.cells #[n64 0, .slice none 0 0] 63 := ⟨_, rfl⟩
  obtain ⟨w2, hw2⟩ : ∃ w2, w2 = (w.alloc o).alloc o := ⟨_, rfl⟩
  have e2 : w2.heap.size = w.heap.size + 2 := by rw [hw2]; simp
  have b2 : Below w.heap.size w w2 := by rw [hw2]; exact ((Below.refl _ _).alloc (Nat.le_refl _) _).alloc (by simp) _
  have sa : Sn w.heap.size w.heap.size 0 [] (.slice none 0 0) w2 := by
    rw [hw2, ho]
    exact (new_sn _ w (Nat.le_refl _)).below ((Below.refl _ _).alloc (Nat.le_refl _) _) (Nat.le_refl _)
  have sb : Sn w.heap.size (w.heap.size + 1) 0 [] (.slice none 0 0) w2 := by
    have := new_sn w.heap.size (w.alloc o) (by simp)
    rw [hw2, ho]
    rw [ho] at this
    simpa using this
  have HSA := Lib.hid sa
  have HSB := Lib.hid sb
  have HB2 := Lib.hid b2
  have HW2 := Lib.hid hw2
  have HE2 := Lib.hid e2
  clear hg sa sb b2 hw2 e2
  go_enter Tryd.func25, Tryd.ntmps25
  go_upto_region 4 with (go_at_call 27; refine (new_any _).mono ?_; rintro e w' ⟨rfl, rfl⟩)
  have hgoal := HW2.out
  rw [ho] at hgoal
  rw [← hgoal]
  clear hgoal
  have kc := fun (w : World) (C : Array Value) (n c : Nat) => Lib.run_convert_bytes_const (P := Tryd.prog) w 37 5 C n c Tryd.underlying37 Tryd.underlying5
  have hg2 : Gb w.heap.size w2 a m := HG.out.below HB2.out
  obtain ⟨w3, hw3⟩ : ∃ w3, w3 = w2.alloc (.cells (bv lit1).toArray 5 (10, 11)) := ⟨_, rfl⟩
  have b3 : Below w2.heap.size w2 w3 := by rw [hw3]; exact (Below.refl _ _).alloc (Nat.le_refl _) _
  have r3 : Rb w3 (.slice (some ⟨w2.heap.size, 0, none⟩) 10 10) lit1 := by rw [hw3]; exact rb_mark w2 lit1 _ 10 _ (fun k hk => bv_arr lit1 k hk)
  have hg3 : Gb w.heap.size w3 a m := hg2.below (b3.mono HB2.out.size)
  have hf1 := feed_any w.heap.size w.heap.size [] lit1 (.slice none 0 0) (.slice (some ⟨w2.heap.size, 0, none⟩) 10 10) w3 (HSA.out.below b3 (Nat.le_refl _)) a m hg3 (by decide) r3 (fun ad n c e => by
    injection e with e1
    injection e1 with e1
    subst e1
    exact ⟨by show w2.heap.size ≠ w.heap.size; have := HE2.out; omega, (fun e => by cases e)⟩)
  rw [fd_lit1] at hf1
  have HF1 := Lib.hid (show Calls Tryd.prog 28 #[.pointer (some ⟨w.heap.size, 0, none⟩), .slice (some ⟨w2.heap.size, 0, none⟩) 10 10] (w2.alloc (.cells (bv lit1).toArray 5 (10, 11))) _ from hw3 ▸ hf1)
  clear hf1 r3 hg2
  go_upto_region 5 with (go_at_call 28; refine HF1.out.mono ?_; rintro e w4 ⟨rfl, lv4, hs4, hf4, ho4⟩)
  have e3 : w3.heap.size = w2.heap.size + 1 := by rw [hw3]; simp
  have b4 : Below w.heap.size w3 w4 := by
    rw [hw3]
    exact hf4.below (Nat.le_refl _) (fun k e => by cases e) (by rw [← hw3]; exact hg3.sz)
  have hg4 := hg3.below b4
  rw [← hw3] at hf4 ho4
  have sb4 : Sn w.heap.size (w.heap.size + 1) 0 [] (.slice none 0 0) w4 := (HSB.out.below b3 (Nat.le_refl _)).same (hf4.other _ (by have := HE2.out; omega) (by omega) (fun e => by cases e)) (fun g e => by simp [Value.ownBlock] at e)
  obtain ⟨w5, hw5⟩ : ∃ w5, w5 = w4.alloc (.cells (bv lit2).toArray 5 (2, 3)) := ⟨_, rfl⟩
  have b5 : Below w4.heap.size w4 w5 := by rw [hw5]; exact (Below.refl _ _).alloc (Nat.le_refl _) _
  have r5 : Rb w5 (.slice (some ⟨w4.heap.size, 0, none⟩) 2 2) lit2 := by rw [hw5]; exact rb_mark w4 lit2 _ 2 _ (fun k hk => bv_arr lit2 k hk)
  have hg5 : Gb w.heap.size w5 a m := hg4.below (b5.mono hg4.sz)
  have h34 := hf4.size
  have hf2 := feed_any w.heap.size (w.heap.size + 1) [] lit2 (.slice none 0 0) (.slice (some ⟨w4.heap.size, 0, none⟩) 2 2) w5 (sb4.below b5 (Nat.le_refl _)) a m hg5 (by decide) r5 (fun ad n c e => by
    injection e with e1
    injection e1 with e1
    subst e1
    exact ⟨by show w4.heap.size ≠ w.heap.size + 1; have := HE2.out; omega, (fun e => by cases e)⟩)
  rw [fd_lit2] at hf2
  have HF2 := Lib.hid (show Calls Tryd.prog 28 #[.pointer (some ⟨w.heap.size + 1, 0, none⟩), .slice (some ⟨w4.heap.size, 0, none⟩) 2 2] (w4.alloc (.cells (bv lit2).toArray 5 (2, 3))) _ from hw5 ▸ hf2)
  have HS4 := Lib.hid hs4
  clear hf2 r5 sb4 hs4 HF1
  go_upto_region 6 with (go_at_call 28; refine HF2.out.mono ?_; rintro e w6 ⟨rfl, lv6, hs6, hf6, ho6⟩)
  rw [← hw5] at hf6 ho6
  have b6 : Below w.heap.size w5 w6 := hf6.below (by omega) (fun k e => by cases e) hg5.sz
  have hg6 := hg5.below b6
  have sa6 : Sn w.heap.size w.heap.size 1 [116, 111, 32, 97, 46, 98, 10] lv4 w6 := (HS4.out.below b5 (Nat.le_refl _)).same (hf6.other _ (by have := HE2.out; have := b5.size; omega) (by omega) (fun e => by cases e)) (fun g e => by
    have h1 := ho4 g e
    have h2 := (own_lo HS4.out.own g e).2
    rcases h1 with h1 | h1
    · cases h1
    · exact hf6.other g (Nat.lt_of_lt_of_le h2 b5.size) (by have := HE2.out; omega) (fun e => by cases e))
  have hn6 := name_yes sa6 (by decide) (by decide)
  have HN6 := Lib.hid (show Calls Tryd.prog 29 #[.pointer (some ⟨w.heap.size, 0, none⟩)] w6 fun e w' => e = .returned (.tuple #[.string ⟨#[97, 46, 98]⟩, .bool true]) ∧ Below w6.heap.size w6 w' from hn6)
  have HS6 := Lib.hid hs6
  have hBB := ((HB2.out.trans (b3.mono HB2.out.size)).trans b4).trans ((b5.mono hg4.sz).trans b6)
  have hq := fun wx => HQ.out wx
  have hk1 := show errv a 1 = .nilIface from rfl
  have hk2 := show errv a 2 = er a from rfl
  clear hn6 sa6 hs6 HF2 b3 b4 b5 b6 hf4 hf6 ho4 ho6 HS4 hw3 hw5 hg3 hg4 hg5 HSA HSB e3 h34
  go_wp2_with (first
    | (go_at_call 29; refine HN6.out.mono ?_; rintro e w7 ⟨rfl, hB7⟩; have hn7 := (hg6.below (hB7.mono hg6.sz)).gl.name; have hs7 := HS6.out.below hB7 (Nat.le_refl _); have HBD := Lib.hid (bad_any hs7 (.inr (.inr rfl))); clear hs7)
    | (go_at_call 30; refine HBD.out.mono ?_; rintro e w8 ⟨rfl, rfl⟩))
  go_ret
  exact ⟨rfl, hBB.trans (hB7.mono hBB.size)⟩
end Go.Proofs.YtfphfljndhideaaDoor
