/- WindowShares: the walk. -/
import Derived.Test.YtfklkkckfikfoaaDoorKept
set_option linter.unusedVariables false
set_option linter.unusedSimpArgs false
namespace Go.Proofs.YtfklkkckfikfoaaDoor
open Go.RowKit Jw Jf Go.Deep
attribute [local go_sem] max2_mx min2_mn max_mx min_mn

set_option maxRecDepth 100000 in
set_option maxHeartbeats 1000000 in
theorem shares_walk (w : World) (ao : Option Addr) (ls : List Int) (cap : Nat) (hp : Rd w (.slice ao ls.length cap) ls) (h0 : ao = none → ls.length = 0 ∧ cap = 0) (hlen : ls.length ≤ 9223372036854775807)
    (hl : ∀ k, -9223372036854775808 ≤ ls.getD k 0 ∧ ls.getD k 0 ≤ 9223372036854775807) (total : Int) (ht : -9223372036854775808 ≤ total ∧ total ≤ 9223372036854775807) :
    Calls Tryd.prog 3 #[.slice ao ls.length cap, n64 total] w fun e w' => e = .returned (.bool true) ∧ Below w.heap.size w w' := by
  have HR := Lib.hid hp
  have HL := Lib.hid hl
  have HT := Lib.hid ht
  have H0 := Lib.hid h0
  clear hp hl ht h0
  go_enter Tryd.func3, Tryd.ntmps3
  go_wp2_with fail
  refine (alive_yes w).mono ?_
  rintro e w1 ⟨rfl, hB⟩
  by_cases hlong : 60 < ls.length
  · have hlb : decide ((60 : Int) < (ls.length : Int)) = true := by simp; omega
    go_wp2
    go_ret
    exact ⟨rfl, hB⟩
  have hlb : decide ((60 : Int) < (ls.length : Int)) = false := by simp; omega
  by_cases htt : 5000 < total
  · have htb : decide ((5000 : Int) < total) = true := by simpa using htt
    go_wp2
    go_ret
    exact ⟨rfl, hB⟩
  have htb : decide ((5000 : Int) < total) = false := by simpa using htt
  have hl60 : ls.length ≤ 60 := by omega
  clear hlong htt
  go_wp2_with fail
  refine (ints_any ao cap ls _ (HR.out.below hB (Nat.le_refl _)) H0.out (by omega)).mono ?_
  rintro e w2 ⟨g, cp, rfl, hcp, hg, hO, hB2⟩
  have hB3 := hB.trans (hB2.mono hB.size)
  have hcells : g < w2.heap.size ∧ ∀ k, k < ls.length + 4 → w2.cell? ⟨g, k, none⟩ = some (n64 ((ls ++ tl4).getD k 0)) := by
    obtain ⟨_, ⟨e, _⟩ | ⟨g', cap', cur, e, _, hh, _, _, hs, htk⟩⟩ := hO
    · cases e
    · injection e with e _ _
      injection e with e
      injection e with e _ _
      subst e
      have hb : Blk w2 g cur 3 := hh
      refine ⟨hb.lt, fun k hk => hb.cell k _ ?_⟩
      have h1 : (cur.toList.take ((ls.length + 4) * 1))[k]? = ((ls ++ tl4).map n64)[k]? := by rw [htk]
      have hlk : k < (ls ++ tl4).length := by simp [tl4]; omega
      rw [List.getElem?_take_of_lt (by omega), List.getElem?_map, List.getElem?_eq_getElem hlk] at h1
      rw [← Array.getElem?_toList, h1, List.getD_eq_getElem?_getD, List.getElem?_eq_getElem hlk]
      rfl
  obtain ⟨hgl, hcells⟩ := hcells
  have hin : ∀ k, k < ls.length → w2.cell? ⟨g, 0 + k, none⟩ = some (n64 (ls.getD k 0)) := fun k hk => by
    rw [Nat.zero_add, hcells k (by omega), List.getD_eq_getElem?_getD, List.getElem?_append_left hk, ← List.getD_eq_getElem?_getD]
  have HCE := Lib.hid hcells
  have HIN := Lib.hid hin
  have HR2 := Lib.hid (HR.out.below hB3 (Nat.le_refl _))
  clear hO hB2 hB hcells hin HR H0
  go_wp2_with fail
  refine (share_any ls total w2 g 0 cp hgl (by omega) HIN.out HL.out HT.out).mono ?_
  rintro e w3 ⟨rfl, os, t, hb3, hB4, hS, hP⟩
  have hB5 := hB3.trans (hB4.mono hB3.size)
  have hsz3 := hB4.size
  have HR3 := Lib.hid (HR2.out.below hB4 (Nat.le_refl _))
  have hb3l := hb3.lt
  have HB3 := Lib.hid hb3
  have HS := Lib.hid (And.intro hS hP)
  have HC3 := Lib.hid (fun k (hk : k < ls.length + 4) => (hB4.cell (p := ⟨g, k, none⟩) hgl).trans (HCE.out k hk))
  clear hb3 hB4 hS hP HR2 HCE HIN hB3
  go_wp2_with fail
  refine (refshare_any _ ls total _ HR3.out (by omega) HL.out HT.out).mono ?_
  rintro e w4 ⟨rfl, os', t', hb4, hB6, hS', hP'⟩
  have hB7 := hB5.trans (hB6.mono hB5.size)
  have hsz4 := hB6.size
  have HR4 := Lib.hid (HR3.out.below hB6 (Nat.le_refl _))
  have HC4 := Lib.hid (fun k (hk : k < ls.length + 4) => (hB6.cell (p := ⟨g, k, none⟩) (by show g < _; omega)).trans (HC3.out k hk))
  have HB4 := Lib.hid (HB3.out.below hB6 hb3l)
  have HB4' := Lib.hid hb4
  have hos : os = os' := by
    obtain ⟨j, hj⟩ := HS.out.1.from0
    obtain ⟨j', hj'⟩ := hS'.from0
    have h2 := HS.out.2
    have := it_unique (ls := ls) (s := (List.replicate ls.length 0, total)) (a := j) (b := j') (by rw [hj]; exact h2) (by rw [hj']; exact hP')
    rw [hj, hj'] at this
    exact (Prod.mk.inj this).1
  have hol : os.length = ls.length := HS.out.1.len
  have HOS := Lib.hid hos
  have HOL := Lib.hid hol
  clear hb4 hB6 hS' hP' HR3 HC3 HB3 hB5 hos hol HS
  go_wp2_with fail
  refine (same_yes _ _ _ os (by have := Rd.of_blk (cap := ls.length) HB4.out; rw [HOL.out] at this; exact this) (by have := Rd.of_blk (cap := ls.length) HB4'.out; rw [← HOS.out, HOL.out] at this; exact this) (by rw [HOL.out]; omega)).mono ?_
  rintro e w5 ⟨rfl, c5, rfl⟩
  go_wp2_with fail
  refine (kept_yes g cp _ ls _ (HR4.out.drewN c5) (by omega) hcp (by show g < w4.heap.size; omega) HC4.out).mono ?_
  rintro e w6 ⟨rfl, c6, rfl⟩
  go_wp2
  go_ret
  exact ⟨rfl, hB7.trans ⟨rfl, rfl, rfl, Nat.le_refl _, fun _ _ => rfl⟩⟩
end Go.Proofs.YtfklkkckfikfoaaDoor
