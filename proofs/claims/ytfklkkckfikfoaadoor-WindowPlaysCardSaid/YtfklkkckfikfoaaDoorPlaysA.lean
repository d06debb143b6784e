/- WindowPlays: the walk. -/
import Derived.Test.YtfklkkckfikfoaaDoorSt
import Derived.Test.YtfklkkckfikfoaaDoorG
import Derived.Deep.RegionWith
import Derived.Deep.RegionHeld3
set_option linter.unusedVariables false
set_option linter.unusedSimpArgs false
namespace Go.Proofs.YtfklkkckfikfoaaDoor
open Go.RowKit Jw Jf Go.Deep
attribute [local go_sem] max2_mx min2_mn max_mx min_mn

set_option maxRecDepth 100000 in
set_option maxHeartbeats 4000000 in
theorem plays_walk (w : World) (A : Nat → Addr) (hA : Sents w A) (size : Int) (ao : Option Addr) (ps : List (Int × Int)) (cap : Nat)
    (hp : Rd2 w (.slice ao ps.length cap) ps) (hlen : ps.length ≤ 9223372036854775807) :
    Calls Tryd.prog 5 #[n64 size, .slice ao ps.length cap] w fun e w' => e = .returned (.bool true) ∧ Below w.heap.size w w' := by
  have HR := Lib.hid hp
  have HA := Lib.hid hA
  have hlow := hA.low
  clear hp hA
  go_enter Tryd.func5, Tryd.ntmps5
  go_wp2_with fail
  refine (alive_yes w).mono ?_
  rintro e w1 ⟨rfl, hB⟩
  have hA1 := HA.out.below hB (Nat.le_refl _)
  by_cases hbad : size < 1 ∨ 65536 < size
  · obtain ⟨i0, j0, hi0, hcm, hj0, hsz⟩ := info63
    have hR := hA1.cell 0 (by decide)
    have heq := fun wx => run_eql_iface_ptr_same (P := Tryd.prog) (w := wx) (A 0) Tryd.underlying31 Tryd.underlying63 hi0 hcm hj0
    go_wp2_with fail
    refine (newS_no size hR hbad).mono ?_
    rintro e w2 ⟨rfl, k2, rfl⟩
    have hR2 : (w1.drewN k2).cell? ⟨0, 0, none⟩ = some (er (A 0)) := hR
    go_wp2_with fail
    refine (newR_no size hR2 hbad).mono ?_
    rintro e w2 ⟨rfl, k3, rfl⟩
    have hR3 : w1.cell? ⟨0, 0, none⟩ = some (er (A 0)) := hR
    clear hA1
    rcases hbad with hbad | hbad
    · have d1 : decide (size < 1) = true := by simpa using hbad
      go_wp2
      go_ret
      exact ⟨rfl, hB.trans ⟨rfl, rfl, rfl, Nat.le_refl _, fun _ _ => rfl⟩⟩
    · have d1 : decide (size < 1) = false := by simp; omega
      have d2 : decide (65536 < size) = true := by simpa using hbad
      go_wp2
      go_ret
      exact ⟨rfl, hB.trans ⟨rfl, rfl, rfl, Nat.le_refl _, fun _ _ => rfl⟩⟩
  · have hs1 : 1 ≤ size := by omega
    have hs2 : size ≤ 65536 := by omega
    have d1 : decide (size < 1) = false := by simp; omega
    have d2 : decide (65536 < size) = false := by simp; omega
    clear hbad
    go_wp2_with fail
    refine (newS_ok size hs1 hs2).mono ?_
    rintro e w2 ⟨rfl, hw2⟩
    have hO : Blk w2 w1.heap.size #[n64 size, n64 0] 57 := by rw [hw2]; exact blk_new _ _ _
    have hB2 : Below w1.heap.size w1 w2 := by rw [hw2]; exact (Below.refl _ _).alloc (Nat.le_refl _) _
    have hz2 : w2.heap.size = w1.heap.size + 1 := by rw [hw2]; simp
    have hB3 := hB.trans (hB2.mono hB.size)
    have hsz := hB.size
    obtain ⟨b, hb⟩ : ∃ b, b = w1.heap.size := ⟨_, rfl⟩
    rw [← hb] at hO hz2 hsz ⊢
    clear hw2 hB2 hB hb hA1
    go_wp2_with fail
    refine (newR_ok size hs1 hs2).mono ?_
    rintro e w3 ⟨rfl, hw3⟩
    have hR : Blk w3 w2.heap.size #[n64 size, n64 0, n64 0] 60 := by rw [hw3]; exact blk_new _ _ _
    have hO3 : Blk w3 b #[n64 size, n64 0] 57 := by rw [hw3]; exact hO.alloc _
    have hB4 : Below w.heap.size w w3 := by rw [hw3]; exact hB3.alloc hB3.size _
    have hz3 : w3.heap.size = b + 2 := by rw [hw3]; simp; omega
    rw [hz2] at hR ⊢
    clear hw3 hB3 hO hz2
    have hM := blk_new w3 #[n64 size, n64 0] 43
    have hO4 := hO3.alloc (.cells #[n64 size, n64 0] 43)
    have hR4 := hR.alloc (.cells #[n64 size, n64 0] 43)
    have hB5 := hB4.alloc hB4.size (.cells #[n64 size, n64 0] 43)
    have hz4 : (w3.alloc (.cells #[n64 size, n64 0] 43)).heap.size = b + 3 := by simp; omega
    have hN := blk_new (w3.alloc (.cells #[n64 size, n64 0] 43)) #[n64 size, n64 0, n64 0] 46
    have hO5 := hO4.alloc (.cells #[n64 size, n64 0, n64 0] 46)
    have hR5 := hR4.alloc (.cells #[n64 size, n64 0, n64 0] 46)
    have hM5 := hM.alloc (.cells #[n64 size, n64 0, n64 0] 46)
    have hB6 := hB5.alloc hB5.size (.cells #[n64 size, n64 0, n64 0] 46)
    rw [hz4] at hN
    rw [hz3] at hM5
    have HO := Lib.hid hO5
    have HRR := Lib.hid hR5
    have HM := Lib.hid hM5
    have HN := Lib.hid hN
    have HB := Lib.hid hB6
    clear hO3 hR hM hO4 hR4 hB5 hN hO5 hR5 hM5 hB6 hB4 hz4
    go_wp2_with fail
    go_loopw [71] (fun i wr => ∃ (k : Nat) (out held due : Int), k ≤ ps.length ∧ i = n64 k ∧ (0 ≤ out ∧ out ≤ size ∧ 0 ≤ held ∧ 0 ≤ due ∧ held + due ≤ size) ∧ Blk wr b #[n64 size, n64 out] 57 ∧ Blk wr (b + 1) #[n64 size, n64 held, n64 due] 60 ∧
      Blk wr (b + 2) #[n64 size, n64 out] 43 ∧ Blk wr (b + 3) #[n64 size, n64 held, n64 due] 46 ∧ Below w.heap.size w wr) (fun i _ => ps.length - (intOf i).toNat)
    case atStart => exact ⟨0, 0, 0, 0, Nat.zero_le _, rfl, ⟨by omega, by omega, by omega, by omega, by omega⟩, HO.out, HRR.out, HM.out, HN.out, HB.out⟩
    case round =>
      clear HO HRR HM HN HB
      obtain ⟨k, out, held, due, hk, rfl, ⟨v1, v2, v3, v4, v5⟩, hO, hR, hM, hN, hB⟩ := hrel
      by_cases hlt : k < ps.length
      · obtain ⟨ao', cap', e1, hrd⟩ := HR.out
        obtain ⟨b', off, e2, hb', hc⟩ := hrd (by omega)
        obtain ⟨rfl, rfl⟩ : ao = ao' ∧ cap = cap' := by injection e1 with e1 e3 e4; exact ⟨e1, e4⟩
        clear e1 hrd
        subst e2
        have c1 := (hB.cell (p := ⟨b', off + k * 2, none⟩) hb').trans (hc k hlt).1
        have c2 := (hB.cell (p := ⟨b', off + k * 2 + 1, none⟩) hb').trans (hc k hlt).2
        obtain ⟨x, ex⟩ : ∃ x, x = (ps.getD k (0, 0)).1 := ⟨_, rfl⟩
        obtain ⟨n, en⟩ : ∃ n, n = (ps.getD k (0, 0)).2 := ⟨_, rfl⟩
        rw [← ex] at c1
        rw [← en] at c2
        clear ex en hc
        by_cases h300 : 300 < k
        · have d3 : decide ((300 : Int) < (k : Int)) = true := by simp; omega
          have hB2 := hB.alloc hB.size (.cells #[n64 x, n64 n] 48)
          clear hO hR hM hN
          go_wp2
          go_ret
          exact ⟨rfl, hB2⟩
        have d3 : decide ((300 : Int) < (k : Int)) = false := by simp; omega
        have hP := blk_new wr #[n64 x, n64 n] 48
        have hO1 := hO.alloc (.cells #[n64 x, n64 n] 48)
        have hR1 := hR.alloc (.cells #[n64 x, n64 n] 48)
        have hM1 := hM.alloc (.cells #[n64 x, n64 n] 48)
        have hN1 := hN.alloc (.cells #[n64 x, n64 n] 48)
        have hB1 := hB.alloc hB.size (.cells #[n64 x, n64 n] 48)
        have hlo := hO.lt
        have hln := hN.lt
        obtain ⟨q, hq⟩ : ∃ q, q = wr.heap.size := ⟨_, rfl⟩
        rw [← hq] at hP
        go_upto_region 14 with fail
        obtain ⟨W, eW⟩ : ∃ W, W = wr.alloc (.cells #[n64 x, n64 n] 48) := ⟨_, rfl⟩
        rw [← eW] at hP hO1 hR1 hM1 hN1 hB1
        have hzW : wr.heap.size + 1 ≤ W.heap.size := by rw [eW]; simp
        have hSW := Lib.hid (HA.out.below hB1 (Nat.le_refl _))
        rw [← hq]
        generalize wr.alloc (.cells #[n64 x, n64 n] 48) = W2 at *
        subst eW
        clear hO hR hM hN c1 c2 hB
        have hbq : b + 3 < q := by omega
        clear hq
        have p0 := hP.cell 0 (n64 x) rfl
        have p1 := hP.cell 1 (n64 n) rfl
        go_upto_block 2 with fail
        go_cut [13, 14] (fun s13 s14 wx => ∃ (c out' held' due' : Int), s13 = n64 c ∧ s14 = n64 c ∧ PlOk size out' held' due' ∧ Blk wx b #[n64 size, n64 out'] 57 ∧ Blk wx (b + 1) #[n64 size, n64 held', n64 due'] 60 ∧
          Blk wx (b + 2) #[n64 size, n64 out'] 43 ∧ Blk wx (b + 3) #[n64 size, n64 held', n64 due'] 46 ∧ Below w.heap.size w wx)
        case first =>
          have hST : PlSt w W.drew b q n size out held due out held due := ⟨hB1.drew, p1, hO1, hR1, hM1, hN1, hP.lt⟩
          have hOK := Lib.hid (show PlOk size out held due from ⟨hs1, hs2, v1, v2, v3, v4, v5⟩)
          by_cases hx1 : x = 1
          · subst hx1
            go_upto_region 17 with fail
            have K1 := Lib.hid ((spend_all (n := n) (A := A) hST.s (by omega) hs2 v1 v2 (HA.out.below hST.below (Nat.le_refl _))).mono fun e w' ⟨he, hp⟩ => And.intro he (hST.putS hsz hbq hp))
            have K2 := Lib.hid (fun w4 (h : PlSt w w4 b q n size (outS out n size) held due out held due) => h.num HA.out n (size - out))
            have K3 := Lib.hid (fun w5 (h : PlSt w w5 b q n size (outS out n size) held due out held due) => (rspend_all (n := n) h.m (by omega) hs2 v1 v2).mono fun e w' ⟨he, hp⟩ => And.intro he (h.putM hsz hbq hp))
            clear hST hO1 hR1 hM1 hN1 hP hB1
            go_region_held3 (fun w' => w'.cell? ⟨q, 1, none⟩ = some (n64 n)) (first | exact p1 | exact hS4.arg | exact hS5.arg | exact hS6.arg)
              (first
              | (go_at_call 15; refine (K1.out).mono ?_; rintro e w4 ⟨rfl, hS4⟩)
              | (go_at_call 19; refine (K2.out _ hS4).mono ?_; rintro e w5 ⟨rfl, hS5⟩)
              | (go_at_call 20; refine (K3.out _ hS5).mono ?_; rintro e w6 ⟨rfl, hS6⟩))
            go_wp2_with fail
            go_meet
            exact ⟨_, outS out n size, held, due, rfl, rfl, hOK.out.spend, hS6.s, hS6.r, hS6.m, hS6.k, hS6.below⟩
          have dx1 : (x == 1) = false := by simpa using hx1
          by_cases hx2 : x = 2
          · subst hx2
            go_upto_region 19 with fail
            have K1 := Lib.hid ((grant_all (n := n) (A := A) hST.s (by omega) (HA.out.below hST.below (Nat.le_refl _))).mono fun e w' ⟨he, hp⟩ => And.intro he (hST.putS hsz hbq hp))
            have K2 := Lib.hid (fun w4 (h : PlSt w w4 b q n size (outG out n) held due out held due) => h.num HA.out n out)
            have K3 := Lib.hid (fun w5 (h : PlSt w w5 b q n size (outG out n) held due out held due) => (rgrant_all (n := n) h.m (by omega)).mono fun e w' ⟨he, hp⟩ => And.intro he (h.putM hsz hbq hp))
            clear hST hO1 hR1 hM1 hN1 hP hB1
            go_region_held3 (fun w' => w'.cell? ⟨q, 1, none⟩ = some (n64 n)) (first | exact p1 | exact hS4.arg | exact hS5.arg | exact hS6.arg)
              (first
              | (go_at_call 16; refine (K1.out).mono ?_; rintro e w4 ⟨rfl, hS4⟩)
              | (go_at_call 19; refine (K2.out _ hS4).mono ?_; rintro e w5 ⟨rfl, hS5⟩)
              | (go_at_call 21; refine (K3.out _ hS5).mono ?_; rintro e w6 ⟨rfl, hS6⟩))
            go_wp2_with fail
            go_meet
            exact ⟨_, outG out n, held, due, rfl, rfl, hOK.out.grant, hS6.s, hS6.r, hS6.m, hS6.k, hS6.below⟩
          have dx2 : (x == 2) = false := by simpa using hx2
          by_cases hx3 : x = 3
          · subst hx3
            go_upto_region 21 with fail
            have K1 := Lib.hid ((came_all (n := n) (A := A) hST.r (by omega) hs2 v3 v4 v5 (HA.out.below hST.below (Nat.le_refl _))).mono fun e w' ⟨he, hp⟩ => And.intro he (hST.putR hsz hbq hp))
            have K2 := Lib.hid (fun w4 (h : PlSt w w4 b q n size out (heldC held due n size) due out held due) => h.num HA.out n (size - held - due))
            have K3 := Lib.hid (fun w5 (h : PlSt w w5 b q n size out (heldC held due n size) due out held due) => (rcame_all (n := n) h.k (by omega) hs2 v3 v4 v5).mono fun e w' ⟨he, hp⟩ => And.intro he (h.putK hsz hbq hp))
            clear hST hO1 hR1 hM1 hN1 hP hB1
            go_region_held3 (fun w' => w'.cell? ⟨q, 1, none⟩ = some (n64 n)) (first | exact p1 | exact hS4.arg | exact hS5.arg | exact hS6.arg)
              (first
              | (go_at_call 22; refine (K1.out).mono ?_; rintro e w4 ⟨rfl, hS4⟩)
              | (go_at_call 19; refine (K2.out _ hS4).mono ?_; rintro e w5 ⟨rfl, hS5⟩)
              | (go_at_call 23; refine (K3.out _ hS5).mono ?_; rintro e w6 ⟨rfl, hS6⟩))
            go_wp2_with fail
            go_meet
            exact ⟨_, out, heldC held due n size, due, rfl, rfl, hOK.out.came, hS6.s, hS6.r, hS6.m, hS6.k, hS6.below⟩
          have dx3 : (x == 3) = false := by simpa using hx3
          by_cases hx4 : x = 4
          · subst hx4
            go_upto_region 23 with fail
            have K1 := Lib.hid ((use_all (n := n) (A := A) hST.r (by omega) hs2 v3 v4 v5 (HA.out.below hST.below (Nat.le_refl _))).mono fun e w' ⟨he, hp⟩ => And.intro he (hST.putR hsz hbq hp))
            have K2 := Lib.hid (fun w4 (h : PlSt w w4 b q n size out (heldU held n) (dueU held due n) out held due) => h.num HA.out n held)
            have K3 := Lib.hid (fun w5 (h : PlSt w w5 b q n size out (heldU held n) (dueU held due n) out held due) => (ruse_all (n := n) h.k (by omega) hs2 v3 v4 v5).mono fun e w' ⟨he, hp⟩ => And.intro he (h.putK hsz hbq hp))
            clear hST hO1 hR1 hM1 hN1 hP hB1
            go_region_held3 (fun w' => w'.cell? ⟨q, 1, none⟩ = some (n64 n)) (first | exact p1 | exact hS4.arg | exact hS5.arg | exact hS6.arg)
              (first
              | (go_at_call 24; refine (K1.out).mono ?_; rintro e w4 ⟨rfl, hS4⟩)
              | (go_at_call 19; refine (K2.out _ hS4).mono ?_; rintro e w5 ⟨rfl, hS5⟩)
              | (go_at_call 25; refine (K3.out _ hS5).mono ?_; rintro e w6 ⟨rfl, hS6⟩))
            go_wp2_with fail
            go_meet
            exact ⟨_, out, heldU held n, dueU held due n, rfl, rfl, hOK.out.use, hS6.s, hS6.r, hS6.m, hS6.k, hS6.below⟩
          have dx4 : (x == 4) = false := by simpa using hx4
          by_cases hx5 : x = 5
          · subst hx5
            go_upto_region 25 with fail
            have K1 := Lib.hid ((paid_all (n := n) (A := A) hST.r (by omega) hs2 v3 v4 v5 (HA.out.below hST.below (Nat.le_refl _))).mono fun e w' ⟨he, hp⟩ => And.intro he (hST.putR hsz hbq hp))
            have K2 := Lib.hid (fun w4 (h : PlSt w w4 b q n size out held (dueP due n) out held due) => h.num HA.out n due)
            have K3 := Lib.hid (fun w5 (h : PlSt w w5 b q n size out held (dueP due n) out held due) => (rpaid_all (n := n) h.k (by omega) hs2 v3 v4 v5).mono fun e w' ⟨he, hp⟩ => And.intro he (h.putK hsz hbq hp))
            clear hST hO1 hR1 hM1 hN1 hP hB1
            go_region_held3 (fun w' => w'.cell? ⟨q, 1, none⟩ = some (n64 n)) (first | exact p1 | exact hS4.arg | exact hS5.arg | exact hS6.arg)
              (first
              | (go_at_call 26; refine (K1.out).mono ?_; rintro e w4 ⟨rfl, hS4⟩)
              | (go_at_call 19; refine (K2.out _ hS4).mono ?_; rintro e w5 ⟨rfl, hS5⟩)
              | (go_at_call 27; refine (K3.out _ hS5).mono ?_; rintro e w6 ⟨rfl, hS6⟩))
            go_wp2_with fail
            go_meet
            exact ⟨_, out, held, dueP due n, rfl, rfl, hOK.out.paid, hS6.s, hS6.r, hS6.m, hS6.k, hS6.below⟩
          have dx5 : (x == 5) = false := by simpa using hx5
          clear hST hP p1 p0
          go_wp2_with fail
          go_meet
          exact ⟨0, out, held, due, rfl, rfl, hOK.out, hO1, hR1, hM1, hN1, hB1⟩
        case rest =>
          clear hB1 hN1 hM1 hR1 hO1 hP hSW p0 p1 hzW HR hlo hln
          obtain ⟨c, out', held', due', rfl, rfl, ⟨_, _, a1, a2, a3, a4, a5⟩, hO, hR, hM, hN, hB⟩ := hcut
          obtain ⟨dn, ed⟩ : ∃ dn, dn = if (size + 1) / 2 ≤ due' then due' else 0 := ⟨_, rfl⟩
          have ed2 : (if size ≤ 2 * due' then due' else 0) = dn := by rw [ed]; split <;> split <;> omega
          go_upto_region 26 with fail
          have K17 := Lib.hid (fun nq => quiet_eq (n := nq) (out_any (hO.drewN nq)))
          have K14 := Lib.hid (fun nq => Calls.quiet_of (n := nq) (left_any (hO.drewN nq) (by omega) hs2 a1 a2))
          have K28 := Lib.hid (fun nq => quiet_eq (n := nq) (held_any (hR.drewN nq)))
          have K29 := Lib.hid (fun nq => Calls.quiet_of (n := nq) (due_all (hR.drewN nq)))
          have K30 := Lib.hid (fun nq => Calls.quiet_of (n := nq) (now_all (show Blk _ (b + 2 + 1) _ 46 from hN.drewN nq)))
          have K29n : ∀ nq, Calls Tryd.prog 29 #[pt (b + 1), .bool false] (wc.drewN nq) fun e w' => e = .returned (n64 dn) ∧ ∃ k, w' = wc.drewN k := fun nq => by
            rw [ed]; exact Calls.quiet_of (due_not (hR.drewN nq) (by omega) hs2)
          have K30n : ∀ nq, Calls Tryd.prog 30 #[pt (b + 2 + 1), .bool false] (wc.drewN nq) fun e w' => e = .returned (n64 dn) ∧ ∃ k, w' = wc.drewN k := fun nq => by
            rw [← ed2]; exact Calls.quiet_of (now_not (show Blk _ (b + 2 + 1) _ 46 from hN.drewN nq) (by omega) (by omega))
          have H29n := Lib.hid K29n
          have H30n := Lib.hid K30n
          clear K29n K30n ed ed2
          have m1 := hM.cell 1 (n64 out') rfl
          have n1 : wc.cell? ⟨b + 2 + 1, 1, none⟩ = some (n64 held') := hN.cell 1 (n64 held') rfl
          have e1 : IntKind.i64.wrap (size - out') = size - out' := IntWalk.i64_in _ (by omega)
          have HO := Lib.hid hO
          have HRR := Lib.hid hR
          have HM := Lib.hid hM
          have HN := Lib.hid hN
          have HB := Lib.hid hB
          clear hO hR hM hN hB
          go_quiet ((first
            | (go_at_call 17; exact K17.out _)
            | (go_at_call 14; exact K14.out _)
            | (go_at_call 28; exact K28.out _)
            | (go_at_call 29; first | (with_reducible exact K29.out _) | (with_reducible exact H29n.out _))
            | (go_at_call 30; first | (with_reducible exact K30.out _) | (with_reducible exact H30n.out _))))
          clear e1 m1 n1 K17 K14 K28 K29 K30 H29n H30n
          go_wp2
          go_roundw
          case rel => exact ⟨k + 1, out', held', due', by omega, by go_num, ⟨a1, a2, a3, a4, a5⟩, HO.out, HRR.out, HM.out, HN.out, HB.out.trans ⟨rfl, rfl, rfl, Nat.le_refl _, fun _ _ => rfl⟩⟩
          case measure => simp [intOf]; omega
      · obtain rfl : k = ps.length := by omega
        clear hO hR hM hN
        go_wp2
        go_ret
        exact ⟨rfl, hB⟩
end Go.Proofs.YtfklkkckfikfoaaDoor
