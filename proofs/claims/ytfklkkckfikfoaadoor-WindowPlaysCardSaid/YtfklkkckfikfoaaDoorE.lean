/- window.Share: what it makes are the passes' lists. -/
import Derived.Test.YtfklkkckfikfoaaDoorD
import Derived.Test.YtfklkkckfikfoaaDoorPass
import Derived.Deep.OwnRows
import Derived.Deep.LoopGhost
import Derived.Outline
namespace Go.Proofs.YtfklkkckfikfoaaDoor
open Go.RowKit Jw Jf Go.Deep
attribute [local go_sem] max2_mx min2_mn max_mx min_mn

theorem info3 : (Tryd.prog.info? 3).map (fun i => (i.zero, i.size, i.bytes)) = some (some (.int .i64 0), 1, 8) := by kernel_rfl

/-- A list of ints as cells. -/
abbrev ints (l : List Int) : Array Value := (l.map n64).toArray

theorem ints_at (l : List Int) (k : Nat) (h : k < l.length) : (ints l)[k]? = some (n64 (l.getD k 0)) := by
  simp [ints, h]
theorem ints_set (l : List Int) (k : Nat) (v : Int) : (ints l).setIfInBounds k (n64 v) = ints (l.set k v) := by
  simp [ints, List.map_set]
theorem made_zero (n : Nat) : madeCells #[Value.int .i64 0] n = ints (List.replicate n 0) := by
  apply Array.ext
  · simp [size_madeCells, ints]
  · intro i h1 h2
    simp [madeCells, ints, Nat.mod_one]

/-- What a state of the sharing keeps to. -/
structure Sh (ls : List Int) (total : Int) (os : List Int) (t : Int) : Prop where
  len : os.length = ls.length
  from0 : ∃ j, it ls j (List.replicate ls.length 0, total) = (os, t)
  low : ∀ i, i < ls.length → 0 ≤ os.getD i 0 ∧ (os.getD i 0 = 0 ∨ os.getD i 0 ≤ ls.getD i 0)
  top : t ≤ max total 0

/-- L is at most what each of the first k that want more wants; where one does, it is 1 at least. -/
structure Least (ls os : List Int) (k : Nat) (L : Int) : Prop where
  le : ∀ j, j < k → os.getD j 0 < ls.getD j 0 → os.getD j 0 + L ≤ ls.getD j 0
  one : 0 < wantN ls os k → 1 ≤ L
  zero : wantN ls os k = 0 → L = 0
  top : L ≤ 9223372036854775807

theorem Least.start (ls os : List Int) : Least ls os 0 0 := ⟨fun j hj => by omega, fun h => by simp [wantN] at h, fun _ => rfl, by decide⟩
theorem Least.step {ls os : List Int} {k : Nat} {L : Int} (h : Least ls os k L) (_hk : k < ls.length) :
    (¬ os.getD k 0 < ls.getD k 0 → Least ls os (k + 1) L) ∧
    (os.getD k 0 < ls.getD k 0 → (wantN ls os k = 0 ∨ ls.getD k 0 - os.getD k 0 < L) → ls.getD k 0 - os.getD k 0 ≤ 9223372036854775807 → Least ls os (k + 1) (ls.getD k 0 - os.getD k 0)) ∧
    (os.getD k 0 < ls.getD k 0 → wantN ls os k ≠ 0 → ¬ ls.getD k 0 - os.getD k 0 < L → Least ls os (k + 1) L) := by
  refine ⟨fun hn => ⟨fun j hj hw => ?_, fun h1 => ?_, fun h1 => ?_, h.top⟩, fun hy hc ht => ⟨fun j hj hw => ?_, fun _ => by omega, fun h1 => ?_, ht⟩, fun hy hw0 hc => ⟨fun j hj hw => ?_, fun _ => h.one (by omega), fun h1 => ?_, h.top⟩⟩
  · by_cases e : j = k
    · subst e; exact absurd hw hn
    · exact h.le j (by omega) hw
  · simp only [wantN, if_neg hn] at h1; exact h.one h1
  · simp only [wantN, if_neg hn] at h1; exact h.zero h1
  · by_cases e : j = k
    · subst e; omega
    · rcases hc with hc | hc
      · exact absurd hw (wantN_zero hc j (by omega))
      · have := h.le j (by omega) hw; omega
  · simp only [wantN, if_pos hy] at h1; omega
  · by_cases e : j = k
    · subst e; omega
    · exact h.le j (by omega) hw
  · simp only [wantN, if_pos hy] at h1; omega

/-- What Share leaves: a block of its own, with what the passes give. -/
def ShareOut (ls : List Int) (total : Int) (w w' : World) : Prop :=
  ∃ (os : List Int) (t : Int), Blk w' w.heap.size (ints os) 3 ∧ Below w.heap.size w w' ∧ Sh ls total os t ∧ pass ls (os, t) = (os, t)

theorem Sh.round {ls os : List Int} {total t e L : Int} (h : Sh ls total os t) (ht : 0 < t) (hw : 0 < wantN ls os ls.length) (hL : Least ls os ls.length L)
    (he : e = mx (mn L (t / (wantN ls os ls.length : Int))) 1) : Sh ls total (runI e ls (os, t) ls.length).1 (runI e ls (os, t) ls.length).2 ∧ (runI e ls (os, t) ls.length).2 < t := by
  have he1 : 1 ≤ e := by rw [he]; unfold mx; omega
  have heL : e ≤ L ∨ e = 1 := by rw [he]; unfold mx mn; omega
  have hone := hL.one hw
  obtain ⟨r1, r2, r3⟩ := runI_range he1 (Int.le_of_lt ht) h.len.symm ls.length (Nat.le_refl _)
  refine ⟨⟨by rw [runI_length]; exact h.len, ?_, fun i hi => ?_, ?_⟩, round_less ht hw he1⟩
  · obtain ⟨j, hj⟩ := h.from0
    obtain ⟨j', hj'⟩ := round_is (t := t) (e := e) h.len.symm hw hL.le hone (by rw [he]; rfl)
    exact ⟨j + j', by rw [it_add, hj, ← hj']⟩
  · obtain ⟨k1, k2, k3, k4⟩ := r3 i
    obtain ⟨l1, l2⟩ := h.low i hi
    by_cases hlt : os.getD i 0 < ls.getD i 0
    · have := hL.le i hi hlt
      omega
    · have := k4 hlt
      omega
  · have := h.top; omega

set_option maxRecDepth 100000 in
set_option maxHeartbeats 1000000 in
theorem share_any (ls : List Int) (total : Int) (w : World) (b off cap : Nat) (hb : b < w.heap.size) (hlen : ls.length * 8 ≤ 140737488351232)
    (hc : ∀ k, k < ls.length → w.cell? ⟨b, off + k, none⟩ = some (n64 (ls.getD k 0))) (hl : ∀ k, -9223372036854775808 ≤ ls.getD k 0 ∧ ls.getD k 0 ≤ 9223372036854775807)
    (ht : -9223372036854775808 ≤ total ∧ total ≤ 9223372036854775807) :
    Calls Tryd.prog 9 #[.slice (some ⟨b, off, none⟩) ls.length cap, n64 total] w fun e w' => e = .returned (.slice (some ⟨w.heap.size, 0, none⟩) ls.length ls.length) ∧ ShareOut ls total w w' := by
  have hmk := run_make_row' (P := Tryd.prog) 22 3 (.int .i64 0) 8 Tryd.underlying22 info3 rfl .i64 .i64 ls.length (by omega) (by omega)
  have HC := Lib.hid hc
  have HL := Lib.hid hl
  clear hc hl
  go_enter Tryd.func9, Tryd.ntmps9
  go_wp2
  rw [made_zero]
  go_loopw [1] (fun t wr => ∃ (os : List Int) (tt : Int), t = n64 tt ∧ Blk wr w.heap.size (ints os) 3 ∧ Below w.heap.size w wr ∧ Sh ls total os tt) (fun t _ => (intOf t).toNat)
  case atStart =>
    exact ⟨List.replicate ls.length 0, total, rfl, blk_new _ _ _, (Below.refl _ _).alloc (Nat.le_refl _) _, by simp, ⟨0, rfl⟩, fun i hi => by rw [List.getD_eq_getElem?_getD, List.getElem?_replicate, if_pos hi]; simp, by omega⟩
  case round =>
    obtain ⟨os, tt, rfl, hO, hB, hS⟩ := hrel
    obtain ⟨wo, rfl⟩ : ∃ wo : World, wo = wr := ⟨_, rfl⟩
    have hcw : ∀ k, k < ls.length → wo.cell? ⟨b, off + k, none⟩ = some (n64 (ls.getD k 0)) := fun k hk => (hB.cell (by exact hb)).trans (HC.out k hk)
    have HW := Lib.hid hcw
    clear hcw
    have htop := hS.top
    by_cases htt : 0 < tt
    · go_wp2_with fail
      go_loop [6, 7, 22] (fun wa le i => ∃ (k : Nat) (L : Int), k ≤ ls.length ∧ i = n64 k ∧ wa = n64 (wantN ls os k) ∧ le = n64 L ∧ Least ls os k L) (fun _ _ i => ls.length - (intOf i).toNat)
      case atStart => exact ⟨0, 0, Nat.zero_le _, rfl, rfl, rfl, Least.start ls os⟩
      case round =>
        obtain ⟨k, L, hk, rfl, rfl, rfl, hL⟩ := hrel
        by_cases hlt : k < ls.length
        · have hcl := HW.out k hlt
          have hco := hO.cell k _ (ints_at os k (by rw [hS.len]; exact hlt))
          have hlk := HL.out k
          obtain ⟨hlo, hup⟩ := hS.low k hlt
          have hwn := wantN_le ls os k
          have hsc : wantN ls os (k + 1) = wantN ls os k + if os.getD k 0 < ls.getD k 0 then 1 else 0 := rfl
          have hst := hL.step hlt
          obtain ⟨l, el⟩ : ∃ l, l = ls.getD k 0 := ⟨_, rfl⟩
          obtain ⟨o, eo⟩ : ∃ o, o = os.getD k 0 := ⟨_, rfl⟩
          obtain ⟨wn, ew⟩ : ∃ wn, wn = wantN ls os k := ⟨_, rfl⟩
          rw [← el, ← eo] at hsc hst hup
          rw [← el] at hcl hlk
          rw [← eo] at hco hlo
          rw [← ew] at hsc hst hwn ⊢
          have E := Lib.hid (And.intro el (And.intro eo ew))
          clear el eo ew
          by_cases hol : o < l
          · rw [if_pos hol] at hsc
            have Hsc := Lib.hid hsc
            have Hst := Lib.hid hst
            clear hsc hst
            by_cases hw0 : wn = 0
            · subst hw0
              go_wp2
              go_round
              case rel => exact ⟨k + 1, l - o, by omega, by go_num, by rw [Hsc.out]; rfl, rfl, Hst.out.2.1 hol (.inl rfl) (by omega)⟩
              case measure => simp [intOf]; omega
            · have hwb : ((wn : Int) == 0) = false := by simp; omega
              by_cases hm : l - o < L
              · go_wp2
                go_round
                case rel => exact ⟨k + 1, l - o, by omega, by go_num, by rw [Hsc.out]; go_num, rfl, Hst.out.2.1 hol (.inr hm) (by omega)⟩
                case measure => simp [intOf]; omega
              · go_wp2
                go_round
                case rel => exact ⟨k + 1, L, by omega, by go_num, by rw [Hsc.out]; go_num, rfl, Hst.out.2.2 hol hw0 hm⟩
                case measure => simp [intOf]; omega
          · rw [if_neg hol] at hsc
            have Hsc := Lib.hid hsc
            have Hst := Lib.hid hst
            clear hsc hst
            go_wp2
            go_round
            case rel => exact ⟨k + 1, L, by omega, by go_num, by rw [Hsc.out]; rfl, rfl, Hst.out.1 hol⟩
            case measure => simp [intOf]; omega
        · obtain rfl : k = ls.length := by omega
          by_cases hw0 : wantN ls os ls.length = 0
          · have Hw := Lib.hid hw0
            rw [hw0]
            clear hw0
            go_wp2
            go_ret
            exact ⟨rfl, os, tt, hO, hB, hS, pass_nothing (.inr Hw.out)⟩
          · have hL1 := hL.one (by omega)
            have hL2 := hL.top
            have HLL := Lib.hid hL
            have hwn := wantN_le ls os ls.length
            obtain ⟨wn, ew⟩ : ∃ wn, wn = wantN ls os ls.length := ⟨_, rfl⟩
            rw [← ew] at hw0 hwn ⊢
            have EW := Lib.hid ew
            clear ew hL
            have hwb : ((wn : Int) == 0) = false := by simp; omega
            have hq1 : 0 ≤ tt / (wn : Int) := Int.ediv_nonneg (by omega) (by omega)
            have hq2 : tt / (wn : Int) ≤ tt := Int.ediv_le_self _ (by omega)
            go_wp2_with fail
            obtain ⟨e, he⟩ : ∃ e, e = mx (mn L (tt / (wn : Int))) 1 := ⟨_, rfl⟩
            rw [← he]
            have he1 : 1 ≤ e := by rw [he]; unfold mx; omega
            have heL : e ≤ L ∨ e = 1 := by rw [he]; unfold mx mn; omega
            have HE := Lib.hid he
            clear he hq1 hq2
            go_loopw [1, 68] (fun t i wr => ∃ (k : Nat), k ≤ ls.length ∧ i = n64 k ∧ t = n64 (runI e ls (os, tt) k).2 ∧ Blk wr w.heap.size (ints (runI e ls (os, tt) k).1) 3 ∧ Below w.heap.size w wr) (fun _ i _ => ls.length - (intOf i).toNat)
            case atStart => exact ⟨0, Nat.zero_le _, rfl, rfl, hO, hB⟩
            case round =>
              clear hO hB HW
              obtain ⟨k, hk, rfl, rfl, hO, hB⟩ := hrel
              by_cases hlt : k < ls.length
              · have hcl := (hB.cell (by exact hb)).trans (HC.out k hlt)
                obtain ⟨r1, r2, r3⟩ := runI_range he1 (Int.le_of_lt htt) hS.len.symm k hk
                have hlen := runI_length e ls (os, tt) k
                have hco := hO.cell k _ (ints_at (runI e ls (os, tt) k).1 k (by rw [hlen, hS.len]; exact hlt))
                have hfo := hO.free k
                rw [(r3 k).1 (Nat.le_refl _)] at hco
                clear r3
                have hlk := HL.out k
                obtain ⟨hlo, hup⟩ := hS.low k hlt
                have hle := HLL.out.le k hlt
                have hsc : runI e ls (os, tt) (k + 1) = stepI e ls (runI e ls (os, tt) k) k := rfl
                unfold stepI at hsc
                rw [(runI_range he1 (Int.le_of_lt htt) hS.len.symm k hk).2.2 k |>.1 (Nat.le_refl _)] at hsc
                obtain ⟨l, el⟩ : ∃ l, l = ls.getD k 0 := ⟨_, rfl⟩
                obtain ⟨o, eo⟩ : ∃ o, o = os.getD k 0 := ⟨_, rfl⟩
                obtain ⟨r, er⟩ : ∃ r, r = runI e ls (os, tt) k := ⟨_, rfl⟩
                rw [← el, ← eo] at hup hle
                rw [← el, ← eo, ← er] at hsc
                rw [← er] at hO r1 r2 hlen ⊢
                rw [← el] at hcl hlk
                rw [← eo] at hco hlo
                obtain ⟨os', t'⟩ := r
                simp only at hO r1 r2 hsc hlen
                have E := Lib.hid (And.intro el (And.intro eo (And.intro er hlen)))
                have Hsc := Lib.hid hsc
                have HO := Lib.hid hO
                clear el eo er hsc hlen hO
                by_cases hol : o < l
                · have hle := hle hol
                  by_cases ht0 : 0 < t'
                  · have hmn : mn e t' = min e t' := rfl
                    obtain ⟨m, em⟩ : ∃ m, m = mn e t' := ⟨_, rfl⟩
                    have hm : 0 ≤ m ∧ m ≤ e ∧ m ≤ t' := by rw [em]; unfold mn; omega
                    have HM := Lib.hid em
                    have em2 := em.symm
                    clear em hmn
                    go_wp2
                    go_roundw
                    case rel =>
                      have hs' : runI e ls (os, tt) (k + 1) = (os'.set k (o + m), t' - m) := by rw [Hsc.out, if_pos ⟨hol, ht0⟩, HM.out]; rfl
                      refine ⟨k + 1, by omega, by go_num, ?_⟩
                      rw [hs']
                      refine ⟨by go_num, ?_, ?_⟩
                      · have := HO.out.set k (n64 (o + m))
                        rw [ints_set] at this
                        exact this
                      · exact hB.setCell (by simp) _
                    case measure => simp [intOf]; omega
                  · go_wp2
                    go_roundw
                    case rel =>
                      have hs' : runI e ls (os, tt) (k + 1) = (os', t') := by rw [Hsc.out, if_neg (fun h => ht0 h.2)]
                      refine ⟨k + 1, by omega, by go_num, ?_⟩
                      rw [hs']
                      exact ⟨rfl, HO.out, hB⟩
                    case measure => simp [intOf]; omega
                · go_wp2
                  go_roundw
                  case rel =>
                    have hs' : runI e ls (os, tt) (k + 1) = (os', t') := by rw [Hsc.out, if_neg (fun h => hol h.1)]
                    refine ⟨k + 1, by omega, by go_num, ?_⟩
                    rw [hs']
                    exact ⟨rfl, HO.out, hB⟩
                  case measure => simp [intOf]; omega
              · obtain rfl : k = ls.length := by omega
                have hR := hS.round (e := e) htt (by rw [← EW.out]; omega) HLL.out (by rw [← EW.out]; exact HE.out)
                obtain ⟨r, er⟩ : ∃ r, r = runI e ls (os, tt) ls.length := ⟨_, rfl⟩
                rw [← er] at hO hR ⊢
                clear er
                obtain ⟨os', t'⟩ := r
                simp only at hO hR ⊢
                have HR := Lib.hid hR
                clear hR
                go_wp2
                go_roundw
                case rel => exact ⟨os', t', rfl, hO, hB, HR.out.1⟩
                case measure => simp [intOf]; have := HR.out.2; omega
    · go_wp2
      go_ret
      exact ⟨rfl, os, tt, hO, hB, hS, pass_nothing (.inl (by omega))⟩
end Go.Proofs.YtfklkkckfikfoaaDoor
