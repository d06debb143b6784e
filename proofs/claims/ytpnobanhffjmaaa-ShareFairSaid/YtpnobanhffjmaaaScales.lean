/- ShareScales: the walk. -/
import Derived.Test.YtpnobanhffjmaaaS
import Derived.Maps.AppendAt
set_option linter.unusedVariables false
set_option linter.unusedSimpArgs false
namespace Go.Proofs.Ytpnobanhffjmaaa
open Go.RowKit Jw Go.Deep
attribute [local go_sem] run_store_float max2_mx min2_mn max_mx min_mn

theorem total_any (v : Value) (l : List (Nat × Nat)) (w : World) (hr : RdS w v l) (hlen : l.length * 16 ≤ 140737488351232) :
    Calls Try.prog 18 #[v] w fun e w' => e = .returned (fl (totW l)) ∧ Below w.heap.size w w' := by
  go_enter Try.func18, Try.ntmps18
  go_wp2_with fail
  refine (weights_any v l w hr hlen).mono ?_
  rintro e w2 ⟨rfl, hW, hB2⟩
  go_wp2
  go_ret
  exact ⟨rfl, hB2⟩

theorem own_lt {w : World} {base : Nat} {e : TypeId} {s n : Nat} {v : Value} {xs : List Value} (h : w.ownsRow base e s v n xs) {g : Nat} (hg : v.ownBlock = some g) : base ≤ g ∧ g < w.heap.size := by
  obtain ⟨_, ⟨rfl, _⟩ | ⟨g', c, cur, rfl, hb, hh, _⟩⟩ := h
  · simp [Value.ownBlock] at hg
  · simp only [Value.ownBlock, Option.some.injEq] at hg
    subst hg
    exact ⟨hb, Blk.lt (cs := cur) (t := e) hh⟩
/-- Two slices don't lie in one block. -/
def Apart (u v : Value) : Prop := ∀ g, u.ownBlock = some g → v.ownBlock = some g → False
theorem Apart.kept {w w' : World} {base : Nat} {e : TypeId} {s n : Nat} {u v : Value} {xs : List Value} (h : Apart u v) (ho : w.ownsRow base e s u n xs) (hg : w.grownBy w' v.ownBlock) : w'.ownsRow base e s u n xs := by
  refine ho.kept hg ?_
  cases hu : u.ownBlock with
  | none => exact .inl rfl
  | some g => exact .inr (fun e => h g hu (by rw [← e]))
theorem Apart.next {w : World} {base : Nat} {e : TypeId} {s n : Nat} {u v v' : Value} {xs : List Value} (h : Apart u v) (ho : w.ownsRow base e s u n xs) (hv : v'.ownBlock = v.ownBlock ∨ ∃ k, v'.ownBlock = some k ∧ w.heap.size ≤ k) : Apart u v' := by
  intro g hu hg
  rcases hv with e | ⟨k, e, hk⟩
  · exact h g hu (by rw [← e]; exact hg)
  · have := (own_lt ho hu).2
    rw [e] at hg
    cases hg
    omega
theorem Apart.swap {u v : Value} (h : Apart u v) : Apart v u := fun g a b => h g b a

/-- Where the factor stands behind k rounds. -/
def fwAt (D : Int) (k : Nat) : Nat := if 0 < D then 9 + k else 9 - k

set_option maxRecDepth 100000 in
set_option maxHeartbeats 2000000 in
theorem scales_walk (w : World) (ao : Option Addr) (l : List Int) (cap : Nat) (hp : Rd w (.slice ao l.length cap) l) (hlen : l.length ≤ 9223372036854775807) (a b : Int) :
    Calls Try.prog 7 #[.slice ao l.length cap, n64 a, n64 b] w fun e w' => e = .returned (.bool true) ∧ Below w.heap.size w w' := by
  have HR := Lib.hid hp
  clear hp
  obtain ⟨i0, hi, hz0, hz1, hz2⟩ := info_parts info27
  go_enter Try.func7, Try.ntmps7
  go_wp2_with fail
  refine (alive_yes w).mono ?_
  rintro e w1 ⟨rfl, hB⟩
  by_cases hlong : 8 < l.length
  · go_wp2
    go_ret
    exact ⟨rfl, hB⟩
  have hlb : decide ((8 : Int) < (l.length : Int)) = false := by simp; omega
  go_wp2_with fail
  obtain ⟨D, hD⟩ : ∃ D, D = wrap64 (wrap64 ((IntKind.u64.wrap a).tmod 18) - 9) := ⟨_, rfl⟩
  obtain ⟨N, hN⟩ : ∃ N, N = wrap64 ((IntKind.u64.wrap b).tmod 100) := ⟨_, rfl⟩
  have hD1 : -9 ≤ D ∧ D ≤ 8 := by
    have := umod_range a 18 (by decide) (by decide)
    rw [hD, IntWalk.wrap64_in _ ⟨by omega, by omega⟩]
    omega
  have hN1 : 0 ≤ N ∧ N < 100 := by rw [hN]; exact umod_range b 100 (by decide) (by decide)
  rw [← hD, ← hN]
  clear hD hN
  obtain ⟨M, hM⟩ : ∃ M, M = mx D (wrap64 (-D)) := ⟨_, rfl⟩
  rw [← hM]
  have hMm : M = (D.natAbs : Int) := by
    rw [hM, IntWalk.wrap64_in _ ⟨by omega, by omega⟩]
    unfold mx
    omega
  clear hM
  obtain ⟨m, hm⟩ : ∃ m, m = D.natAbs := ⟨_, rfl⟩
  rw [← hm] at hMm
  subst hMm
  have hm9 : m ≤ 9 := by omega
  obtain ⟨n, rfl⟩ := Int.eq_ofNat_of_zero_le hN1.1
  have hn1 : n < 100 := by omega
  clear hN1
  go_loopw [7, 34] (fun f i wr => ∃ (k : Nat), k ≤ m ∧ i = n64 k ∧ f = fl (Fw (fwAt D k)) ∧ wr = w1) (fun _ i _ => m - (intOf i).toNat)
  case atStart => exact ⟨0, Nat.zero_le _, rfl, by unfold fwAt; split <;> rfl, rfl⟩
  case round =>
    obtain ⟨k, hk, rfl, rfl, rfl⟩ := hrel
    by_cases hlt : k < m
    · by_cases hpos : 0 < D
      · have e1 : fwAt D k = 9 + k := by unfold fwAt; rw [if_pos hpos]
        have e2 : fwAt D (k + 1) = 9 + k + 1 := by unfold fwAt; rw [if_pos hpos]; omega
        have hrun := fun wx => run_float_arith (P := Try.prog) wx .mul 25 .f64 _ _ _ (fw_up (9 + k) (by omega))
        have E2 := Lib.hid e2
        rw [e1]
        clear e1 e2
        obtain ⟨x, ex⟩ : ∃ x, x = Fw (9 + k) := ⟨_, rfl⟩
        obtain ⟨y, ey⟩ : ∃ y, y = Fw (9 + k + 1) := ⟨_, rfl⟩
        rw [← ex, ← ey] at hrun
        rw [← ex]
        have EY := Lib.hid ey
        clear ex ey
        go_wp2
        go_roundw
        case rel => exact ⟨k + 1, by omega, by go_num, by rw [E2.out, EY.out], trivial⟩
        case measure => simp [intOf]; omega
      · have e1 : fwAt D k = 9 - k - 1 + 1 := by unfold fwAt; rw [if_neg hpos]; omega
        have e2 : fwAt D (k + 1) = 9 - k - 1 := by unfold fwAt; rw [if_neg hpos]; omega
        have hrun := fun wx => run_float_arith (P := Try.prog) wx .quo 25 .f64 _ _ _ (fw_down (9 - k - 1) (by omega))
        have E2 := Lib.hid e2
        rw [e1]
        clear e1 e2
        obtain ⟨x, ex⟩ : ∃ x, x = Fw (9 - k - 1 + 1) := ⟨_, rfl⟩
        obtain ⟨y, ey⟩ : ∃ y, y = Fw (9 - k - 1) := ⟨_, rfl⟩
        rw [← ex, ← ey] at hrun
        rw [← ex]
        have EY := Lib.hid ey
        clear ex ey
        go_wp2
        go_roundw
        case rel => exact ⟨k + 1, by omega, by go_num, by rw [E2.out, EY.out], trivial⟩
        case measure => simp [intOf]; omega
    · obtain rfl : k = m := by omega
      have he : fwAt D k < 18 := by unfold fwAt; split <;> omega
      obtain ⟨e, ee⟩ : ∃ e, e = fwAt D k := ⟨_, rfl⟩
      rw [← ee] at he ⊢
      clear ee hD1 hm hk hlt
      have HE := Lib.hid he
      clear he
      obtain ⟨f, ef⟩ : ∃ f, f = Fw e := ⟨_, rfl⟩
      rw [← ef]
      have EF := Lib.hid ef
      clear ef
      have hOa := own_empty wr w.heap.size hB.size
      have hBa := hB.alloc hB.size (.cells #[] 27)
      have hOb := own_empty (wr.alloc (.cells #[] 27)) w.heap.size hBa.size
      have hBb := hBa.alloc hBa.size (.cells #[] 27)
      have hOa2 := (Below.refl (wr.alloc (.cells #[] 27)).heap.size (wr.alloc (.cells #[] 27))).alloc (Nat.le_refl _) (.cells #[] 27)
      have hOa3 := owns_below hOa hOa2 (Nat.le_refl _)
      have hap : Apart (.slice (some ⟨wr.heap.size, 0, none⟩) 0 0) (.slice (some ⟨(wr.alloc (.cells #[] 27)).heap.size, 0, none⟩) 0 0) := by
        intro g h1 h2
        simp [Value.ownBlock] at h1 h2
        omega
      rw [show (wr.alloc (.cells #[] 27)).heap.size = wr.heap.size + 1 from by simp] at hOb hap
      have HA := Lib.hid hOa3
      have HBB := Lib.hid hOb
      have HAP := Lib.hid hap
      clear hOa hOb hOa2 hOa3 hap hBa hB
      go_wp2_with fail
      go_loopw [8, 9, 47] (fun la lb i wr => ∃ (k : Nat), k ≤ l.length ∧ i = n64 k ∧ wr.ownsRow w.heap.size 27 2 la k (shs (laL l k)) ∧ wr.ownsRow w.heap.size 27 2 lb k (shs (lbL l e k)) ∧ Apart la lb ∧ Below w.heap.size w wr) (fun _ _ i _ => l.length - (intOf i).toNat)
      case atStart => exact ⟨0, Nat.zero_le _, rfl, HA.out, HBB.out, HAP.out, hBb⟩
      case round =>
        clear hBb HA HBB HAP
        obtain ⟨k, hk, rfl, hOa, hOb, hap, hB1⟩ := hrel
        by_cases hlt : k < l.length
        · obtain ⟨ao', cap', e1, hrd⟩ := HR.out
          obtain ⟨b', off, e2, hb', hc⟩ := hrd (by omega)
          obtain ⟨rfl, rfl⟩ : ao = ao' ∧ cap = cap' := by injection e1 with e1 e3 e4; exact ⟨e1, e4⟩
          clear e1 hrd
          subst e2
          have hck := (hB1.cell (p := ⟨b', off + k, none⟩) hb').trans (hc k hlt)
          clear hc
          have hs1 := laL_succ l k hlt
          have hs2 := lbL_succ l e k hlt
          obtain ⟨x, ex⟩ : ∃ x, x = l.getD k 0 := ⟨_, rfl⟩
          rw [← ex] at hck hs1 hs2
          clear ex
          have hr := wv_range x
          have hmul := fun wx => run_float_arith (P := Try.prog) wx .mul 25 .f64 _ _ _ (mul_fw (wv x) hr.1 hr.2 e HE.out).1
          rw [show wv x = wrap64 ((IntKind.u64.wrap x).tmod 1001) from rfl] at hs1 hs2 hr hmul
          rw [← EF.out] at hs2 hmul
          obtain ⟨r, er⟩ : ∃ r, r = mulW (floatOfInt .f64 (wrap64 ((IntKind.u64.wrap x).tmod 1001))) f := ⟨_, rfl⟩
          rw [← er] at hs2 hmul
          have HS1 := Lib.hid hs1
          have HS2 := Lib.hid hs2
          have HPa := Lib.hid hOa
          have HPb := Lib.hid hOb
          have HAP := Lib.hid hap
          clear hs1 hs2 hOa hOb hap er
          go_wp2_with (at_builtin; refine wpList_append_own_at _ rfl (.tmp 55) (.tmp 59) 24 rfl w.heap.size 27 i0 _ 2 16 Try.underlying24 hi hz0 hz1 hz2 rfl (by decide) _ _ _ rfl (HPa.out.alloc _) ⟨wr.heap.size, 0, none⟩ 1 1 [fl (floatOfInt .f64 (wrap64 ((IntKind.u64.wrap x).tmod 1001))), fl 0] rfl rfl ?c1 ?c2 ?c3 ?c4 ?c5 ?_)
          case c1 =>
            intro j u hj
            match j, hj with
            | 0, hj => simp at hj; subst hj; simp [Addr.add]
            | 1, hj => simp at hj; subst hj; simp [Addr.add]
          case c2 => intro u hu; simp at hu; rcases hu with rfl | rfl <;> rfl
          case c3 => unfold maxLen; omega
          case c4 => omega
          case c5 => have := hB1.size; simp; omega
          · intro va w3 howna hgrow _ hown
            have hB4 := (hB1.alloc hB1.size (.cells #[fl (floatOfInt .f64 (wrap64 ((IntKind.u64.wrap x).tmod 1001))), fl 0] 27)).grown hgrow (by have := hB1.size; simp; omega) (by
              intro g hg
              have := own_lt HPa.out hg
              omega)
            have hOb3 := (HAP.out.swap).kept (HPb.out.alloc _) hgrow
            have hap3 := ((HAP.out.swap).next HPb.out (v' := va) (hown.imp (fun h => h) (fun h => ⟨_, h, by simp⟩))).swap
            have howna2 : w3.ownsRow w.heap.size 27 2 va (k + 1) (shs (laL l (k + 1))) := by
              rw [HS1.out, shs_append]; exact howna
            have HPa2 := Lib.hid howna2
            have HPb2 := Lib.hid hOb3
            have HAP2 := Lib.hid hap3
            clear howna hgrow hown howna2 hOb3 hap3 HPa HPb HAP
            go_wp2_with (at_builtin; refine wpList_append_own_at _ rfl (.tmp 61) (.tmp 67) 24 rfl w.heap.size 27 i0 _ 2 16 Try.underlying24 hi hz0 hz1 hz2 rfl (by decide) _ _ _ rfl (HPb2.out.alloc _) ⟨w3.heap.size, 0, none⟩ 1 1 [fl r, fl 0] rfl rfl ?d1 ?d2 ?d3 ?d4 ?d5 ?_)
            case d1 =>
              intro j u hj
              match j, hj with
              | 0, hj => simp at hj; subst hj; simp [Addr.add]
              | 1, hj => simp at hj; subst hj; simp [Addr.add]
            case d2 => intro u hu; simp at hu; rcases hu with rfl | rfl <;> rfl
            case d3 => unfold maxLen; omega
            case d4 => omega
            case d5 => have := hB4.size; simp; omega
            · intro vb w4 hownb hgrow _ hown
              have hB5 := (hB4.alloc hB4.size (.cells #[fl r, fl 0] 27)).grown hgrow (by have := hB4.size; simp; omega) (by
                intro g hg
                have := own_lt HPb2.out hg
                omega)
              have hOa4 := HAP2.out.kept (HPa2.out.alloc _) hgrow
              have hap4 := HAP2.out.next HPa2.out (v' := vb) (hown.imp (fun h => h) (fun h => ⟨_, h, by simp⟩))
              have hownb2 : w4.ownsRow w.heap.size 27 2 vb (k + 1) (shs (lbL l e (k + 1))) := by
                rw [HS2.out, shs_append]; exact hownb
              have HPa3 := Lib.hid hOa4
              have HPb3 := Lib.hid hownb2
              have HAP3 := Lib.hid hap4
              clear hownb hgrow hown hOa4 hap4 hownb2 HPa2 HPb2 HAP2
              go_wp2
              go_roundw
              case rel =>
               exact ⟨k + 1, by omega, by go_num, HPa3.out, HPb3.out, HAP3.out, hB5⟩
              case measure => simp [intOf]; omega
        · obtain rfl : k = l.length := by omega
          obtain ⟨aoA, capA, rfl⟩ := row_shape hOa
          obtain ⟨aoB, capB, rfl⟩ := row_shape hOb
          have hla := laL_length l l.length (Nat.le_refl _)
          have hlb2 := lbL_length l e l.length (Nat.le_refl _)
          have hRa := (OwnS.of_row (l := laL l l.length) (by rw [hla]; exact hOa)).read
          have hRb := (OwnS.of_row (l := lbL l e l.length) (by rw [hlb2]; exact hOb)).read
          have hlaw := scales_law l e n (by omega) HE.out (by omega)
          obtain ⟨la, ela⟩ : ∃ la, la = laL l l.length := ⟨_, rfl⟩
          obtain ⟨lb, elb⟩ : ∃ lb, lb = lbL l e l.length := ⟨_, rfl⟩
          rw [← ela] at hla hRa hlaw
          rw [← elb] at hlb2 hRb hlaw
          have HRa := Lib.hid hRa
          have HRb := Lib.hid hRb
          have HLa := Lib.hid hla
          have HLb := Lib.hid hlb2
          have HLaw := Lib.hid hlaw
          clear ela elb hla hlb2 hRa hRb hlaw hOa hOb hap HR HE
          go_wp2_with fail
          refine (total_any _ la _ HRa.out (by rw [HLa.out]; omega)).mono ?_
          rintro e' w5 ⟨rfl, hB5⟩
          have hB6 := hB1.trans (hB5.mono hB1.size)
          have hRa5 := HRa.out.below hB5 (Nat.le_refl _)
          have hRb5 := HRb.out.below hB5 (Nat.le_refl _)
          cases ht : (ord (totW la) (floatOfInt .f64 l.length) == some .eq) with
          | true =>
            go_wp2
            go_ret
            exact ⟨rfl, hB6⟩
          | false =>
            obtain ⟨hne1, hne2, hpk⟩ := HLaw.out ht
            obtain ⟨T, eT⟩ : ∃ T, T = totW la := ⟨_, rfl⟩
            rw [← eT] at ht ⊢
            have HA5 := Lib.hid hRa5
            have HB5 := Lib.hid hRb5
            have HPK := Lib.hid hpk
            have HN1 := Lib.hid hne1
            have HN2 := Lib.hid hne2
            clear eT hRa5 hRb5 hpk hne1 hne2 HLaw HRa HRb hB5
            go_wp2_with fail
            refine (picks_any _ la n _ HA5.out (by rw [HLa.out]; omega) (by omega) HN1.out).mono ?_
            rintro e' w7 ⟨v1, v2, rfl, hP, hO7, hB7⟩
            have hRb7 := Lib.hid (HB5.out.below hB7 (Nat.le_refl _))
            have hB8 := hB6.trans (hB7.mono hB6.size)
            rw [Int.toNat_natCast] at hP
            have HP7 := Lib.hid hP
            clear hP hO7 hB7 HA5 HB5
            go_wp2_with fail
            refine (picks_any _ lb n _ hRb7.out (by rw [HLb.out]; omega) (by omega) HN2.out).mono ?_
            rintro e' w9 ⟨v3, v4, rfl, hP, hO9, hB9⟩
            have hB10 := hB8.trans (hB9.mono hB8.size)
            have hP7 := Lib.hid (HP7.out.below hB9 (Nat.le_refl _))
            rw [Int.toNat_natCast, HPK.out] at hP
            have HP9 := Lib.hid hP
            clear hP hO9 hB9 HP7 hRb7
            go_wp2_with fail
            refine (same_yes _ _ _ (picksW la n).1 hP7.out HP9.out (by rw [picksW_count]; omega)).mono ?_
            rintro e' w11 ⟨rfl, c, rfl⟩
            go_wp2
            go_ret
            exact ⟨rfl, hB10.trans ⟨rfl, rfl, rfl, Nat.le_refl _, fun _ _ => rfl⟩⟩
end Go.Proofs.Ytpnobanhffjmaaa
