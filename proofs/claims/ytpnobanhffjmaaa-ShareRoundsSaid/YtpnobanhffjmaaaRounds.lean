/- ShareRounds: the walk. -/
import Derived.Test.YtpnobanhffjmaaaM
import Derived.Test.YtpnobanhffjmaaaZeros
import Derived.Test.YtpnobanhffjmaaaNum
import Derived.Deep.CutBlock
set_option linter.unusedVariables false
set_option linter.unusedSimpArgs false
namespace Go.Proofs.Ytpnobanhffjmaaa
open Go.RowKit Jw Go.Deep
attribute [local go_sem] run_store_float max2_mx min2_mn max_mx min_mn

open Jf Ieee in
theorem fl_pow (c k : Nat) (h : double.read c = .number false (2 ^ 52) (-1074 + (k : Int))) : Fl c (1 * 2 ^ (52 + k)) :=
  ⟨false, 2 ^ 52, k, h, by
    rw [signed_eq, if_neg (by decide), Int.one_mul, Int.one_mul, Int.pow_add, Int.natCast_pow]
    rfl⟩
open Jf Ieee in
theorem even_eq {x c : Nat} {v : Int} (h : (ord (weightW x) c == some .eq) = true) (hc : Fl c v) : Fl (weightW x) v := by
  obtain ⟨a, ha, _⟩ := weightW_fl x
  rw [ord_fl ha hc] at h
  rcases cmp_cases a v with ⟨e, _⟩ | ⟨e, e'⟩ | ⟨e, _⟩
  · rw [e] at h; cases h
  · rw [← e']; exact ha
  · rw [e] at h; cases h
/-- A weight that counts as nothing or as a power of two. -/
def Even (x : Nat) : Prop := Jf.Fl (weightW x) 0 ∨ ∃ u : Nat, u ≤ 1200 ∧ Jf.Fl (weightW x) (1 * 2 ^ u)
theorem even_pow {x c k : Nat} (h : (ord (weightW x) c == some .eq) = true) (hr : Ieee.double.read c = .number false (2 ^ 52) (-1074 + (k : Int))) (hk : k ≤ 1100) : Even x :=
  .inr ⟨52 + k, by omega, even_eq h (fl_pow c k hr)⟩
theorem even_one : Even 4607182418800017408 := even_pow (c := 4607182418800017408) (k := 1022) (by decide +kernel) (by decide +kernel) (by decide)

/-- Of equal weights that count as nothing or as a power of two all are picked in turn. -/
theorem rounds_play {y : Nat} (h : Even y) (k n : Nat) (hk : 1 ≤ k) (hk8 : k ≤ 8) (hn : n ≤ 100) :
    (picksW (List.replicate k (y, 0)) n).1.length = n ∧ ∀ i, i < n → (picksW (List.replicate k (y, 0)) n).1.getD i 0 = ((i % k : Nat) : Int) := by
  refine ⟨picksW_count _ _, fun i hi => ?_⟩
  have hlen : (List.replicate k (y, 0)).length = k := List.length_replicate
  have hat : ∀ j, j < k → (List.replicate k (y, 0)).getD j (0, 0) = (y, 0) := by
    intro j hj
    rw [List.getD_eq_getElem?_getD, List.getElem?_replicate, if_pos hj]; rfl
  have ht : ∀ j, j < k → Jf.Fl ((List.replicate k (y, 0)).getD j (0, 0)).2 0 := fun j hj => by rw [hat j hj]; exact fl_zero
  have hsm : Jf.sm k (fun _ => (1 : Int)) = k := by rw [Jf.sm_const, Int.mul_one]
  have key : ∃ u, u ≤ 2045 ∧ (∀ j, j < k → Jf.Fl ((wtsW (List.replicate k (y, 0))).getD j 0) ((fun _ => (1 : Int)) j * 2 ^ u)) ∧ Jf.Fl (totW (List.replicate k (y, 0))) ((k : Int) * 2 ^ u) := by
    rcases h with h | ⟨u, hu, h⟩
    · obtain ⟨_, h2, h3⟩ := none_counts (List.replicate k (y, 0)) k hlen (by omega) (fun j hj => by rw [hat j hj]; exact h)
      exact ⟨Jf.One, by decide, h2, h3⟩
    · obtain ⟨_, h2, h3⟩ := some_counts (List.replicate k (y, 0)) k u (fun _ => 1) hlen (by omega) (fun _ => by decide) (fun j hj => by rw [hat j hj]; exact h) (by rw [hsm]; omega) (by rw [hsm]; omega)
      rw [hsm] at h3
      exact ⟨u, by omega, h2, h3⟩
  obtain ⟨u, hu, h2, h3⟩ := key
  have hnk : (n : Int) * k ≤ 100 * 8 := Int.mul_le_mul (by omega) (by omega) (by omega) (by omega)
  have := (play _ k u (fun _ => 1) k hlen hk hu h2 h3 ht (fun _ => ⟨by decide, by omega⟩) n (by omega)).1
  rw [this, List.getD_eq_getElem?_getD, List.getElem?_map]
  have e := playI_at k (fun _ => 1) k n i hi
  rw [(rounds_law k hk i).1, List.getD_eq_getElem?_getD] at e
  have hl : i < (playI k (fun _ => 1) k n).length := by rw [playI_length]; exact hi
  rw [List.getElem?_eq_getElem hl] at e ⊢
  simp only [Option.getD_some, Option.map_some] at e ⊢
  rw [e]

theorem repl_snoc (y k : Nat) : List.replicate (k + 1) (y, (0 : Nat)) = List.replicate k (y, 0) ++ [(y, 0)] := by rw [List.replicate_succ']

set_option maxRecDepth 100000 in
set_option maxHeartbeats 1000000 in
theorem rounds_walk (w : World) (x : Nat) (a b : Int) :
    Calls Try.prog 4 #[fl x, n64 a, n64 b] w fun e w' => e = .returned (.bool true) ∧ Below w.heap.size w w' := by
  obtain ⟨i0, hi, hz0, hz1, hz2⟩ := info_parts info27
  go_enter Try.func4, Try.ntmps4
  go_wp2_with fail
  refine (alive_yes w).mono ?_
  rintro e w1 ⟨rfl, hB⟩
  go_wp2_with fail
  refine (weight_any _ _).mono ?_
  rintro e w9 ⟨rfl, rfl⟩
  go_upto_block 0 with fail
  go_cut [0] (fun s wx => ∃ y, Even y ∧ s = fl y ∧ wx = w1)
  case first =>
    cases h0 : (ord (weightW x) 0 == some .eq) with
    | true =>
      go_wp2_with fail
      go_meet
      exact ⟨x, .inl (even_eq h0 fl_zero), rfl, rfl⟩
    | false =>
    cases h1 : (ord (weightW x) 4607182418800017408 == some .eq) with
    | true =>
      go_wp2_with fail
      go_meet
      exact ⟨x, even_pow (k := 1022) h1 (by decide +kernel) (by decide), rfl, rfl⟩
    | false =>
    cases h2 : (ord (weightW x) 4611686018427387904 == some .eq) with
    | true =>
      go_wp2_with fail
      go_meet
      exact ⟨x, even_pow (k := 1023) h2 (by decide +kernel) (by decide), rfl, rfl⟩
    | false =>
    cases h3 : (ord (weightW x) 4616189618054758400 == some .eq) with
    | true =>
      go_wp2_with fail
      go_meet
      exact ⟨x, even_pow (k := 1024) h3 (by decide +kernel) (by decide), rfl, rfl⟩
    | false =>
    cases h4 : (ord (weightW x) 4602678819172646912 == some .eq) with
    | true =>
      go_wp2_with fail
      go_meet
      exact ⟨x, even_pow (k := 1021) h4 (by decide +kernel) (by decide), rfl, rfl⟩
    | false =>
    cases h5 : (ord (weightW x) 4598175219545276416 == some .eq) with
    | true =>
      go_wp2_with fail
      go_meet
      exact ⟨x, even_pow (k := 1020) h5 (by decide +kernel) (by decide), rfl, rfl⟩
    | false =>
    cases h6 : (ord (weightW x) 4652218415073722368 == some .eq) with
    | true =>
      go_wp2_with fail
      go_meet
      exact ⟨x, even_pow (k := 1032) h6 (by decide +kernel) (by decide), rfl, rfl⟩
    | false =>
      go_wp2_with fail
      go_meet
      exact ⟨_, even_one, rfl, rfl⟩
  case rest =>
    obtain ⟨y, hy, rfl, rfl⟩ := hcut
    have HY := Lib.hid hy
    clear hy
    obtain ⟨M, hM⟩ : ∃ M, M = wrap64 (1 + wrap64 ((IntKind.u64.wrap a).tmod 8)) := ⟨_, rfl⟩
    obtain ⟨N, hN⟩ : ∃ N, N = wrap64 ((IntKind.u64.wrap b).tmod 100) := ⟨_, rfl⟩
    have hM1 : 1 ≤ M ∧ M ≤ 8 := by
      have := umod_range a 8 (by decide) (by decide)
      rw [hM, IntWalk.wrap64_in (1 + wrap64 ((IntKind.u64.wrap a).tmod 8)) ⟨by omega, by omega⟩]
      omega
    have hN1 : 0 ≤ N ∧ N < 100 := by rw [hN]; exact umod_range b 100 (by decide) (by decide)
    rw [← hM, ← hN]
    clear hM hN
    obtain ⟨m, rfl⟩ := Int.eq_ofNat_of_zero_le (show 0 ≤ M by omega)
    obtain ⟨n, rfl⟩ := Int.eq_ofNat_of_zero_le hN1.1
    have hm1 : 1 ≤ m := by omega
    have hm8 : m ≤ 8 := by omega
    have hn1 : n < 100 := by omega
    clear hM1 hN1
    have hO := own_empty wc w.heap.size hB.size
    have hB1 := hB.alloc hB.size (.cells #[] 27)
    have HO := Lib.hid hO
    clear hO
    go_wp2_with fail
    go_loopw [7, 35] (fun l i wr => ∃ (k : Nat), k ≤ m ∧ i = n64 k ∧ wr.ownsRow w.heap.size 27 2 l k (shs (List.replicate k (y, 0))) ∧ Below w.heap.size w wr) (fun _ i _ => m - (intOf i).toNat)
    case atStart => exact ⟨0, Nat.zero_le _, rfl, HO.out, hB1⟩
    case round =>
      clear hB1 HO
      obtain ⟨k, hk, rfl, hO, hB1⟩ := hrel
      by_cases hlt : k < m
      · have HS := Lib.hid (repl_snoc y k)
        have HP := Lib.hid hO
        clear hO
        go_wp2_with (at_builtin; refine wpList_append_own _ rfl (.tmp 37) (.tmp 40) 24 rfl w.heap.size 27 i0 _ 2 16 Try.underlying24 hi hz0 hz1 hz2 rfl (by decide) _ _ _ rfl (HP.out.alloc _) ⟨wr.heap.size, 0, none⟩ 1 1 [fl y, fl 0] rfl rfl ?c1 ?c2 ?c3 ?c4 ?c5 ?_)
        case c1 =>
          intro j u hj
          match j, hj with
          | 0, hj => simp at hj; subst hj; simp [Addr.add]
          | 1, hj => simp at hj; subst hj; simp [Addr.add]
        case c2 => intro u hu; simp at hu; rcases hu with rfl | rfl <;> rfl
        case c3 => unfold maxLen; omega
        case c4 => omega
        case c5 => have := hB1.size; simp; omega
        · intro v' w3 hown' hgrow _
          have hB4 := (hB1.alloc hB1.size (.cells #[fl y, fl 0] 27)).grown hgrow (by have := hB1.size; simp; omega) (by
            intro q hq
            obtain ⟨_, ⟨rfl, _⟩ | ⟨g, c, cur, rfl, hg, _⟩⟩ := HP.out
            · simp [Value.ownBlock] at hq
            · simp [Value.ownBlock] at hq; omega)
          have hown2 : w3.ownsRow w.heap.size 27 2 v' (k + 1) (shs (List.replicate (k + 1) (y, 0))) := by
            rw [HS.out, shs_append]; exact hown'
          have HW := Lib.hid hown2
          clear hown' hgrow hown2
          go_wp2
          go_roundw
          case rel => exact ⟨k + 1, by omega, by go_num, HW.out, hB4⟩
          case measure => simp [intOf]; omega
      · obtain rfl : k = m := by omega
        have hread : RdS wr _ (List.replicate k (y, 0)) := (OwnS.of_row (l := List.replicate k (y, 0)) (by rw [List.length_replicate]; exact hO)).read
        have hpl := rounds_play HY.out k n hm1 hm8 (by omega)
        have hlr : (List.replicate k (y, (0 : Nat))).length = k := List.length_replicate
        obtain ⟨l, el⟩ : ∃ l, l = List.replicate k (y, (0 : Nat)) := ⟨_, rfl⟩
        rw [← el] at hread hpl hlr
        have hne : l ≠ [] := by intro e; rw [e] at hlr; simp at hlr; omega
        obtain ⟨ao2, cap2, hv2⟩ := row_shape hO
        subst hv2
        clear el hO
        have HL := Lib.hid hread
        have HLR := Lib.hid hlr
        have HPL := Lib.hid hpl
        clear hread hlr hpl
        go_wp2_with fail
        refine (picks_any _ l n _ HL.out (by rw [HLR.out]; omega) (by omega) hne).mono ?_
        rintro e w4 ⟨v1, v2, rfl, hP, hO4, hB4⟩
        have hB5 := hB1.trans (hB4.mono hB1.size)
        rw [Int.toNat_natCast] at hP
        obtain ⟨ps, eps⟩ : ∃ ps, ps = (picksW l n).1 := ⟨_, rfl⟩
        have hq := HPL.out
        rw [← eps] at hP hq
        obtain ⟨ao5, cap5, rfl, hc5⟩ := hP
        rw [hq.1] at hc5 ⊢
        have HC := Lib.hid hc5
        have HQ := Lib.hid hq.2
        clear eps hc5 hq hB4 hO4 hne HPL HL HLR
        go_wp2_with fail
        go_loopw [55] (fun i wr => ∃ (j c : Nat), j ≤ n ∧ i = n64 j ∧ wr = w4.drewN c) (fun i _ => n - (intOf i).toNat)
        case atStart => exact ⟨0, 0, Nat.zero_le _, rfl, rfl⟩
        case round =>
          obtain ⟨j, c, hj, rfl, rfl⟩ := hrel
          by_cases hlt : j < n
          · obtain ⟨b5, off5, rfl, _, hcc⟩ := HC.out (by omega)
            have hck := hcc j hlt
            have hpj := HQ.out j hlt
            rw [hpj] at hck
            have hrem : ((j : Int).tmod (k : Int)) = ((j % k : Nat) : Int) := Int.ofNat_tmod j k
            clear hcc hpj HC HQ
            go_wp2_with fail
            go_roundw
            case rel => exact ⟨j + 1, _, by omega, by go_num, rfl⟩
            case measure => simp [intOf]; omega
          · obtain rfl : j = n := by omega
            go_wp2
            go_ret
            exact ⟨rfl, hB5.trans ⟨rfl, rfl, rfl, Nat.le_refl _, fun _ _ => rfl⟩⟩
end Go.Proofs.Ytpnobanhffjmaaa
