/- The walk of Feed, of New, Name, Bad and Held. -/
import Derived.Test.YtfphfljndhideaaDoorS4
set_option linter.unusedVariables false
set_option linter.unusedSimpArgs false
namespace Go.Proofs.YtfphfljndhideaaDoor
open Go.RowKit Jw Lab

/-- What bytes make of a line: how many are taken, the state, the line. -/
def fd : List UInt8 → List UInt8 → Nat × Int × List UInt8
  | pre, [] => (0, 0, pre)
  | pre, c :: r => if tkS pre c = 0 then ((fd (tkL pre c) r).1 + 1, (fd (tkL pre c) r).2) else (1, tkS pre c, tkL pre c)
def errv (a : Addr) (st : Int) : Value := if st = 2 then er a else .nilIface
theorem tkS_cases (pre : List UInt8) (c : UInt8) : tkS pre c = 2 ∨ tkS pre c = 1 ∨ (tkS pre c = 0 ∧ tkL pre c = pre ++ [c]) := by
  unfold tkS tkL
  cases canB (pre ++ [c])
  · exact .inl rfl
  · by_cases h : c = 10
    · rw [if_pos h]; exact .inr (.inl rfl)
    · rw [if_neg h]; exact .inr (.inr ⟨rfl, rfl⟩)

theorem new_any (w : World) : Calls Tryd.prog 27 #[] w fun e w' => e = .returned (.pointer (some ⟨w.heap.size, 0, none⟩)) ∧ w' = w.alloc (.cells #[n64 0, .slice none 0 0] 63) := by
  go_enter Tryd.func27, Tryd.ntmps27
  go_wp2
  go_ret
  exact ⟨rfl, rfl⟩
theorem new_sn (base : Nat) (w : World) (hb : base ≤ w.heap.size) : Sn base w.heap.size 0 [] (.slice none 0 0) (w.alloc (.cells #[n64 0, .slice none 0 0] 63)) :=
  ⟨blk_new _ _ _, World.ownsRow_nil _ _ _ _, (fun e => by simp [Value.ownBlock] at e), hb⟩
theorem bad_any {base p : Nat} {st : Int} {l : List UInt8} {lv : Value} {w : World} (h : Sn base p st l lv w) (hst : st = 0 ∨ st = 1 ∨ st = 2) : Calls Tryd.prog 30 #[.pointer (some ⟨p, 0, none⟩)] w fun e w' => e = .returned (.bool (decide (st = 2))) ∧ w' = w := by
  have hc : w.cell? ⟨p, 0, none⟩ = some (n64 st) := h.blk.cell 0 _ rfl
  clear h
  rcases hst with rfl | rfl | rfl
  all_goals
    go_enter Tryd.func30, Tryd.ntmps30
    go_wp2
    go_ret
    exact ⟨rfl, rfl⟩
theorem held_any {base p : Nat} {st : Int} {l : List UInt8} {lv : Value} {w : World} (h : Sn base p st l lv w) (hst : st = 0 ∨ st = 1 ∨ st = 2) : Calls Tryd.prog 35 #[.pointer (some ⟨p, 0, none⟩)] w fun e w' => e = .returned (n64 (if st = 0 then (l.length : Int) else 0)) ∧ w' = w := by
  have hc : w.cell? ⟨p, 0, none⟩ = some (n64 st) := h.blk.cell 0 _ rfl
  have hc1 : w.cell? ⟨p, 1, none⟩ = some lv := h.blk.cell 1 _ rfl
  obtain ⟨ao, cap, rfl, _⟩ := Rb.own h.own
  clear h
  rcases hst with rfl | rfl | rfl
  all_goals
    go_enter Tryd.func35, Tryd.ntmps35
    go_wp2
    go_ret
    exact ⟨rfl, rfl⟩

set_option maxHeartbeats 1000000 in
theorem feed_any (base p : Nat) (pre b : List UInt8) (lv v : Value) (w : World) (hs : Sn base p 0 pre lv w) (a : Addr) (m : Int) (hg : Gb base w a m) (hl : pre.length + b.length < 4294967281) (hr : Rb w v b)
    (hsep : ∀ ad n c, v = .slice (some ad) n c → ad.block ≠ p ∧ lv.ownBlock ≠ some ad.block) :
    Calls Tryd.prog 28 #[.pointer (some ⟨p, 0, none⟩), v] w fun e w' => e = .returned (.tuple #[n64 (fd pre b).1, errv a (fd pre b).2.1]) ∧ ∃ lv', Sn base p (fd pre b).2.1 (fd pre b).2.2 lv' w' ∧ Fs p lv.ownBlock w w' ∧ (∀ k, lv'.ownBlock = some k → lv.ownBlock = some k ∨ w.heap.size ≤ k) := by
  have hc0 : w.cell? ⟨p, 0, none⟩ = some (n64 0) := hs.blk.cell 0 _ rfl
  have HS := Lib.hid hs
  have HG := Lib.hid hg
  obtain ⟨ao, cap, rfl, hao⟩ := hr
  have HA := Lib.hid hao
  have HSep := Lib.hid hsep
  have HL := Lib.hid hl
  have hsz := hg.sz
  clear hs hg hao hsep hl
  go_enter Tryd.func28, Tryd.ntmps28
  go_upto_region 4 with fail
  clear hc0
  go_loopw [6, 7, 16] (fun _ _ i wr => ∃ (k : Nat) (lv1 : Value), k ≤ b.length ∧ i = n64 k ∧ Sn base p 0 (pre ++ b.take k) lv1 wr ∧ Fs p lv.ownBlock w wr ∧ (∀ k, lv1.ownBlock = some k → lv.ownBlock = some k ∨ w.heap.size ≤ k) ∧ fd pre b = ((fd (pre ++ b.take k) (b.drop k)).1 + k, (fd (pre ++ b.take k) (b.drop k)).2)) (fun _ _ i _ => b.length - (intOf i).toNat)
  case atStart => exact ⟨0, lv, by omega, rfl, by simpa using HS.out, Fs.refl _ _ _, fun _ e => .inl e, by simp⟩
  case round =>
    obtain ⟨k, lv1, hk, rfl, hsn, hfs, hob, hfd⟩ := hrel
    by_cases hlk : k < b.length
    · obtain ⟨bb, off, rfl, hbb, hc⟩ := HA.out (by omega)
      obtain ⟨hp1, hp2⟩ := HSep.out _ _ _ rfl
      have hx : wr.cell? ⟨bb, off + k, none⟩ = some (.int .u8 ((b.getD k 0).toNat : Int)) := (World.cell?_of_block (w := w) (hfs.other bb hbb hp1 hp2)).trans (hc k hlk)
      obtain ⟨c, hcd⟩ : ∃ c, c = b.getD k 0 := ⟨_, rfl⟩
      rw [← hcd] at hx
      have htk : b.take (k + 1) = b.take k ++ [c] := by
        rw [List.take_add_one, List.getElem?_eq_getElem hlk, hcd, List.getD_eq_getElem?_getD, List.getElem?_eq_getElem hlk]
        rfl
      have hdk : b.drop k = c :: b.drop (k + 1) := by
        rw [List.drop_eq_getElem_cons hlk, hcd, List.getD_eq_getElem?_getD, List.getElem?_eq_getElem hlk]
        rfl
      rw [hdk, fd] at hfd
      have hgr : Gb base wr a m := HG.out.below (hfs.below HS.out.low (fun k hk => (own_lo HS.out.own k hk).1) hsz)
      have hln : (pre ++ b.take k).length + 1 < 4294967281 := by have := HL.out; simp; omega
      obtain ⟨pk, hpk⟩ : ∃ x, x = pre ++ b.take k := ⟨_, rfl⟩
      rw [← hpk] at hfd hsn hln
      have HT := Lib.hid (take_any base p pk c lv1 wr hsn a m hgr hln)
      have hcases := tkS_cases pk c
      have ck : ((k : Int) + 1) ≤ 4294967290 := by have := HL.out; omega
      obtain ⟨st, hst⟩ : ∃ s, s = tkS pk c := ⟨_, rfl⟩
      rw [← hst] at HT hcases hfd
      have HFD := Lib.hid hfd
      have HOB := Lib.hid hob
      have HFS := Lib.hid hfs
      have HPK := Lib.hid hpk
      have HTK := Lib.hid htk
      have HGR := Lib.hid hgr
      have HC := Lib.hid hc
      clear hfd hob hfs hpk hdk hgr hcd hc hst hln hsn hp1 hp2 htk
      have fin : ∀ (w6 : World) (lv2 : Value), Fs p lv1.ownBlock wr w6 → (∀ k, lv2.ownBlock = some k → lv1.ownBlock = some k ∨ wr.heap.size ≤ k) → Fs p lv.ownBlock w w6 ∧ ∀ k, lv2.ownBlock = some k → lv.ownBlock = some k ∨ w.heap.size ≤ k := fun w6 lv2 h1 h2 =>
        ⟨HFS.out.trans h1 HOB.out, fun k hk => by
          rcases h2 k hk with h | h
          · exact HOB.out k h
          · exact .inr (Nat.le_trans HFS.out.size h)⟩
      have FIN := Lib.hid fin
      clear fin
      rcases hcases with rfl | rfl | ⟨rfl, htl⟩
      · have hz : fd pre b = (k + 1, 2, tkL pk c) := by rw [HFD.out, if_neg (by decide)]; exact Prod.ext (Nat.add_comm 1 k) rfl
        have HZ := Lib.hid hz
        clear hz
        go_upto_region 9 with (go_at_call 50; refine HT.out.mono ?_; rintro e w5 ⟨rfl, lv2, hs5, hf5, ho5⟩; have hc5 : w5.cell? ⟨p, 0, none⟩ = some (n64 2) := hs5.blk.cell 0 _ rfl; have HS5 := Lib.hid hs5; clear hs5)
        have hn5 : w5.cell? ⟨0, 0, none⟩ = some (er a) := (HG.out.below (((FIN.out w5 lv2 hf5 ho5).1).below HS.out.low (fun k hk => (own_lo HS.out.own k hk).1) hsz)).gl.name
        go_quiet (fail)
        go_wp2
        go_ret2
        obtain ⟨f1, f2⟩ := FIN.out w5 lv2 hf5 ho5
        rw [HZ.out]
        refine ⟨rfl, lv2, HS5.out.below (B := w5.heap.size) ⟨rfl, rfl, rfl, Nat.le_refl _, fun _ _ => rfl⟩ (Nat.le_refl _), ⟨f1.os, f1.tape, f1.output, f1.size, f1.other⟩, f2⟩
      · have hz : fd pre b = (k + 1, 1, tkL pk c) := by rw [HFD.out, if_neg (by decide)]; exact Prod.ext (Nat.add_comm 1 k) rfl
        have HZ := Lib.hid hz
        clear hz
        go_wp2_with (go_at_call 50; refine HT.out.mono ?_; rintro e w5 ⟨rfl, lv2, hs5, hf5, ho5⟩; have hc5 : w5.cell? ⟨p, 0, none⟩ = some (n64 1) := hs5.blk.cell 0 _ rfl; have HS5 := Lib.hid hs5; clear hs5)
        go_ret2
        obtain ⟨f1, f2⟩ := FIN.out w5 lv2 hf5 ho5
        rw [HZ.out]
        exact ⟨rfl, lv2, HS5.out, f1, f2⟩
      · have hz : fd pre b = ((fd (tkL pk c) (b.drop (k + 1))).1 + 1 + k, (fd (tkL pk c) (b.drop (k + 1))).2) := by rw [HFD.out, if_pos rfl]
        have HZ := Lib.hid hz
        have HTL := Lib.hid htl
        clear hz htl
        go_wp2_with (go_at_call 50; refine HT.out.mono ?_; rintro e w5 ⟨rfl, lv2, hs5, hf5, ho5⟩; have hc5 : w5.cell? ⟨p, 0, none⟩ = some (n64 0) := hs5.blk.cell 0 _ rfl; have HS5 := Lib.hid hs5; clear hs5)
        go_roundw
        case rel =>
          obtain ⟨f1, f2⟩ := FIN.out w5 lv2 hf5 ho5
          have hs5 := HS5.out
          have hz := HZ.out
          rw [HTL.out, HPK.out, List.append_assoc, ← HTK.out] at hs5 hz
          exact ⟨k + 1, lv2, by omega, by go_num, hs5, f1, f2, by rw [hz]; congr 1; omega⟩
        case measure => simp [intOf]; omega
    · obtain rfl : k = b.length := by omega
      have hz : fd pre b = (b.length, 0, pre ++ b) := by rw [hfd, List.drop_length, List.take_length, fd]; simp
      have HZ := Lib.hid hz
      rw [List.take_length] at hsn
      clear hz hfd
      go_wp2
      go_ret2
      rw [HZ.out]
      exact ⟨by go_num, lv1, hsn, hfs, hob⟩
end Go.Proofs.YtfphfljndhideaaDoor
