/- The walk of RoutesPlays. -/
import Derived.Test.YtgimmdnmndbcpaaGreatDoorZ12
import Derived.Deep.RegionHeld3
import Derived.Deep.DeepCutAuto
import Derived.Deep.CutBlock
set_option linter.unusedVariables false
set_option linter.unusedSimpArgs false
namespace Go.Proofs.YtgimmdnmndbcpaaGreatDoor
open Go.RowKit Jw Lab Go.Shelf Go.Deep
attribute [local go_sem] run_store_float

theorem Dd.first {w0 w : World} {t : Nat} {ads : Nat → Addr} {m : Int} (hb : Below w0.heap.size w0 w) (hW : Wk (fun k => k < w0.heap.size) t [] w ads m) :
    Dd (fun _ => False) w0 t w.heap.size [] [] (w.alloc (.cells #[.slice none 0 0, .slice none 0 0] 30)) := by
  obtain ⟨⟨_, lv, M, e1, e2, e3⟩, _, _⟩ := hW
  have h1 : Below w.heap.size w (w.alloc (.cells #[.slice none 0 0, .slice none 0 0] 30)) := (Below.refl _ _).alloc (Nat.le_refl _) _
  have hs := hb.size
  have hm : ∀ k, Fm w.heap.size (.slice none 0 0) (.slice none 0 0) k → k = w.heap.size := fun k hk => by
    rcases hk with e | e | e
    · exact e
    · simp [Value.ownBlock] at e
    · simp [Value.ownBlock] at e
  refine ⟨⟨lv, M, .slice none 0 0, .slice none 0 0, e1, e2.below h1, ⟨blk_new _ _ _, World.ownsRow_nil _ _ _ _, World.ownsRow_nil _ _ _ _⟩, fun k hk => ⟨fun e => ?_, Nat.le_of_not_lt (e3 k hk), fun e => e⟩, fun k hk => ⟨?_, fun e => e⟩⟩, hb.alloc hs _, fun k hk => hk.elim⟩
  · have := hm k e
    have := e2.lt hk
    omega
  · have := hm k hk
    omega
theorem below_fp {w0 w w' : World} (h : Below w0.heap.size w0 w) (hf : Fp (fun k => ¬ k < w0.heap.size) w w') : Below w0.heap.size w0 w' :=
  h.trans (hf.below (fun k hk => Nat.le_of_not_lt hk) h.size)

set_option maxRecDepth 20000 in
set_option maxHeartbeats 40000000 in
theorem playsLaw_walk (sv : Value) (ops : List Po) (w : World) (ads : Nat → Addr) (m : Int) (hg : Gw (fun k => k < w.heap.size) w ads m) (hse : Sents w ads) (hs : Ro w sv ops) (hol : ops.length ≤ 9223372036854775807) :
    Calls Tryz.prog 3 #[sv] w fun e w' => e = .returned (.bool true) ∧ Below w.heap.size w w' := by
  have HA := Lib.hid (alive_any hg (fun k h => h))
  have HG := Lib.hid hg
  have HSE := Lib.hid hse
  have HN := Lib.hid (fun (w1 : World) (hb : Below w.heap.size w w1) => new_k (hg.below hb) (fun k hk => Nat.lt_of_lt_of_le hk hb.size))
  obtain ⟨aos, caps, rfl, haos⟩ := hs
  have HAS := Lib.hid haos
  clear hg hse haos
  go_enter Tryz.func3, Tryz.ntmps3
  go_wp2_with (first
    | (go_at_call 4; refine HA.out.mono ?_; rintro e w1 ⟨rfl, hF⟩; have HB1 := Lib.hid (below_fp (Below.refl _ _) hF); clear hF)
    | (go_at_call 5; refine (HN.out _ HB1.out).mono ?_; rintro e w2 ⟨rfl, hW, hF⟩; have HD := Lib.hid (Dd.first (below_fp HB1.out hF) hW); clear hF hW HB1 HN HA))
  obtain ⟨t, ht⟩ : ∃ t, t = w1.heap.size := ⟨_, rfl⟩
  obtain ⟨mb, hmb⟩ : ∃ mb, mb = w2.heap.size := ⟨_, rfl⟩
  obtain ⟨W, hW⟩ : ∃ W, W = w2.alloc (.cells #[.slice none 0 0, .slice none 0 0] 30) := ⟨_, rfl⟩
  rw [← hmb, ← ht, ← hW] at HD
  rw [← hmb, ← ht, ← hW]
  clear ht hmb hW
  go_loopw [28] (fun i wr => ∃ (k : Nat) (L : List Rt), k ≤ ops.length ∧ k ≤ 151 ∧ i = n64 k ∧ L.length ≤ k ∧ Dd (fun _ => False) w t mb L L wr) (fun i _ => ops.length - (intOf i).toNat)
  case atStart => exact ⟨0, [], Nat.zero_le _, by omega, rfl, Nat.zero_le _, HD.out⟩
  case round =>
    obtain ⟨k, L, hk, hk1, rfl, hL, hD⟩ := hrel
    clear HD
    have HD := Lib.hid hD
    clear hD
    by_cases hlt : k < ops.length
    · obtain ⟨b, off, rfl, hblt, hops⟩ := HAS.out (by omega)
      obtain ⟨bv, o0, o1, o2, o3, o4, o5, o6, o7, o8⟩ := hops k hlt
      obtain ⟨o, ho⟩ : ∃ o, o = ops.getD k default := ⟨_, rfl⟩
      rw [← ho] at o0 o1 o2 o3 o4 o6 o8
      have hbel := HD.out.bel
      have cc : ∀ i u, w.cell? ⟨b, i, none⟩ = some u → wr.cell? ⟨b, i, none⟩ = some u := fun i u h => (hbel.cell (p := ⟨b, i, none⟩) hblt).trans h
      have c0 := cc _ _ o0
      have c1 := cc _ _ o1
      have c2 := cc _ _ o2
      have c3 := cc _ _ o3
      have c4 := cc _ _ o4
      have c5 := cc _ _ o5
      have HRI := Lib.hid o6
      have HNL := Lib.hid o7
      obtain ⟨ab, cb, rfl, _⟩ := o6
      clear o0 o1 o2 o3 o4 o5 o7 hops ho cc hbel
      by_cases hk150 : 150 < k
      · have d1 : decide ((150 : Int) < (k : Int)) = true := by simp; omega
        go_wp2_with fail
        go_ret
        exact ⟨rfl, HD.out.bel.alloc HD.out.bel.size _⟩
      · have d1 : decide ((150 : Int) < (k : Int)) = false := by simp; omega
        obtain ⟨q, hq⟩ : ∃ q, q = wr.heap.size := ⟨_, rfl⟩
        obtain ⟨W2, hW2⟩ : ∃ W2, W2 = wr.alloc (.cells #[n64 o.kd, n64 o.ag, n64 o.nw, .string (bs o.pt), fl o.wt, .slice ab o.bz.length cb] 34) := ⟨_, rfl⟩
        have hbw : Below wr.heap.size wr W2 := by rw [hW2]; exact (Below.refl _ _).alloc (Nat.le_refl _) _
        have hDE : De (fun k => k = q) w q t mb o (.slice ab o.bz.length cb) L L W2 := by
          have hP := blk_new wr #[n64 o.kd, n64 o.ag, n64 o.nw, .string (bs o.pt), fl o.wt, .slice ab o.bz.length cb] 34
          rw [← hW2, ← hq] at hP
          refine ⟨(HD.out.add hbw).mono fun k hk => .inr ?_, ⟨hP.cell 1 _ rfl, hP.cell 2 _ rfl, hP.cell 3 _ rfl, hP.cell 4 _ rfl, hP.cell 5 _ rfl⟩, rfl⟩
          subst hk
          rw [hq, hW2]
          simp
        have q0 : W2.cell? ⟨q, 0, none⟩ = some (n64 o.kd) := by rw [hW2, hq]; exact (blk_new wr _ 34).cell 0 _ rfl
        obtain ⟨q1, q2, q3, q4, q5⟩ := hDE.c
        have HDE := Lib.hid hDE
        clear hDE hbw
        by_cases hskip : 300 < o.pt.length ∨ 100 < o.bz.length
        · by_cases hs1 : 300 < o.pt.length
          · have d2 : decide ((300 : Int) < (o.pt.length : Int)) = true := by simp; omega
            have hsz : (bs o.pt).size = o.pt.length := rfl
            go_wp2_with fail
            go_roundw
            case rel => exact ⟨k + 1, L, by omega, by omega, by go_num, by omega, HD.out.below ((Below.refl _ _).alloc (Nat.le_refl _) _)⟩
            case measure => simp [intOf]; omega
          · have d2 : decide ((300 : Int) < (o.pt.length : Int)) = false := by simp; omega
            have d3 : decide ((100 : Int) < (o.bz.length : Int)) = true := by simp; omega
            have hsz : (bs o.pt).size = o.pt.length := rfl
            go_wp2_with fail
            go_roundw
            case rel => exact ⟨k + 1, L, by omega, by omega, by go_num, by omega, HD.out.below ((Below.refl _ _).alloc (Nat.le_refl _) _)⟩
            case measure => simp [intOf]; omega
        · have d2 : decide ((300 : Int) < (o.pt.length : Int)) = false := by simp; omega
          have d3 : decide ((100 : Int) < (o.bz.length : Int)) = false := by simp; omega
          have hsz : (bs o.pt).size = o.pt.length := rfl
          go_upto_region 9 with fail
          obtain ⟨bv, hbv⟩ : ∃ bv, bv = Value.slice ab o.bz.length cb := ⟨_, rfl⟩
          rw [← hq, ← hW2]
          rw [← hbv] at HDE q5 HRI HNL
          obtain ⟨x, hx⟩ : ∃ x, x = o.kd := ⟨_, rfl⟩
          rw [← hx] at q0
          clear c0 c1 c2 c3 c4 c5 hq hW2 hbv hx
          go_upto_block 2 with fail
          go_cut [7] (fun s7 wx => s7 = .bool true ∧ ∃ L', L'.length ≤ L.length + 1 ∧ De (fun k => k = q) w q t mb o bv L' L' wx)
          case first =>
            by_cases hx1 : x = 1
            · subst hx1
              as_aux_lemma =>
                go_upto_region 12 with fail
                have K1 := Lib.hid (HDE.out.drew.callT HG.out (fun K hK => register_k hK (by omega) o.pt (by omega) o.ag o.wt))
                have K2 := Lib.hid (fun w4 (h : De (fun k => k = q) w q t mb o bv (regL o.pt o.ag o.wt L).2 L w4) => h.num HSE.out (reg_e o.pt o.ag L o.wt).1)
                have K3 := Lib.hid (fun w5 (h : De (fun k => k = q) w q t mb o bv (regL o.pt o.ag o.wt L).2 L w5) => h.callM (fun lv tv hm => rregister_any hm (by omega) o.pt (by omega) o.ag o.wt))
                have HC := Lib.hid HDE.out.c
                clear q0 q1 q2 q3 q4 q5
                go_region_held3 (fun V => V.cell? ⟨q, 1, none⟩ = some (n64 o.ag) ∧ V.cell? ⟨q, 2, none⟩ = some (n64 o.nw) ∧ V.cell? ⟨q, 3, none⟩ = some (.string (bs o.pt)) ∧ V.cell? ⟨q, 4, none⟩ = some (fl o.wt) ∧ V.cell? ⟨q, 5, none⟩ = some bv) (first | exact HC.out | exact hS4.c | exact hS5.c | exact hS6.c)
                  (first
                  | (go_at_call 7; refine (K1.out).mono ?_; rintro e w4 ⟨rfl, hS4⟩)
                  | (go_at_call 6; refine (K2.out _ hS4).mono ?_; rintro e w5 ⟨rfl, hS5⟩)
                  | (go_at_call 8; refine (K3.out _ hS5).mono ?_; rintro e w6 ⟨rfl, hS6⟩))
                go_wp2_with fail
                go_meet
                exact ⟨by simp, _, (reg_e o.pt o.ag L o.wt).2, hS6⟩
            have dx1 : (x == 1) = false := by simpa using hx1
            by_cases hx2 : x = 2
            · subst hx2
              as_aux_lemma =>
                go_upto_region 14 with fail
                have K1 := Lib.hid (HDE.out.drew.callT HG.out (fun K hK => drain_k hK (by omega) o.pt (by omega) o.ag))
                have K2 := Lib.hid (fun w4 (h : De (fun k => k = q) w q t mb o bv (drainL o.pt o.ag L).2 L w4) => h.num HSE.out (drain_e o.pt o.ag L).1)
                have K3 := Lib.hid (fun w5 (h : De (fun k => k = q) w q t mb o bv (drainL o.pt o.ag L).2 L w5) => h.callM (fun lv tv hm => rdrain_any hm (by omega) o.pt (by omega) o.ag))
                have HC := Lib.hid HDE.out.c
                clear q0 q1 q2 q3 q4 q5
                go_region_held3 (fun V => V.cell? ⟨q, 1, none⟩ = some (n64 o.ag) ∧ V.cell? ⟨q, 2, none⟩ = some (n64 o.nw) ∧ V.cell? ⟨q, 3, none⟩ = some (.string (bs o.pt)) ∧ V.cell? ⟨q, 4, none⟩ = some (fl o.wt) ∧ V.cell? ⟨q, 5, none⟩ = some bv) (first | exact HC.out | exact hS4.c | exact hS5.c | exact hS6.c)
                  (first
                  | (go_at_call 9; refine (K1.out).mono ?_; rintro e w4 ⟨rfl, hS4⟩)
                  | (go_at_call 6; refine (K2.out _ hS4).mono ?_; rintro e w5 ⟨rfl, hS5⟩)
                  | (go_at_call 10; refine (K3.out _ hS5).mono ?_; rintro e w6 ⟨rfl, hS6⟩))
                go_wp2_with fail
                go_meet
                exact ⟨by simp, _, (drain_e o.pt o.ag L).2, hS6⟩
            have dx2 : (x == 2) = false := by simpa using hx2
            by_cases hx3 : x = 3
            · subst hx3
              as_aux_lemma =>
                go_upto_region 16 with fail
                have K1 := Lib.hid (HDE.out.drew.callT HG.out (fun K hK => leave_k hK (by omega) o.pt (by omega) o.ag))
                have K2 := Lib.hid (fun w4 (h : De (fun k => k = q) w q t mb o bv (leaveL o.pt o.ag L).2 L w4) => h.num HSE.out (leave_e o.pt o.ag L).1)
                have K3 := Lib.hid (fun w5 (h : De (fun k => k = q) w q t mb o bv (leaveL o.pt o.ag L).2 L w5) => h.callM (fun lv tv hm => rleave_any hm (by omega) o.pt (by omega) o.ag))
                have HC := Lib.hid HDE.out.c
                clear q0 q1 q2 q3 q4 q5
                go_region_held3 (fun V => V.cell? ⟨q, 1, none⟩ = some (n64 o.ag) ∧ V.cell? ⟨q, 2, none⟩ = some (n64 o.nw) ∧ V.cell? ⟨q, 3, none⟩ = some (.string (bs o.pt)) ∧ V.cell? ⟨q, 4, none⟩ = some (fl o.wt) ∧ V.cell? ⟨q, 5, none⟩ = some bv) (first | exact HC.out | exact hS4.c | exact hS5.c | exact hS6.c)
                  (first
                  | (go_at_call 11; refine (K1.out).mono ?_; rintro e w4 ⟨rfl, hS4⟩)
                  | (go_at_call 6; refine (K2.out _ hS4).mono ?_; rintro e w5 ⟨rfl, hS5⟩)
                  | (go_at_call 12; refine (K3.out _ hS5).mono ?_; rintro e w6 ⟨rfl, hS6⟩))
                go_wp2_with fail
                go_meet
                exact ⟨by simp, _, (leave_e o.pt o.ag L).2, hS6⟩
            have dx3 : (x == 3) = false := by simpa using hx3
            by_cases hx4 : x = 4
            · subst hx4
              as_aux_lemma =>
                go_upto_region 18 with fail
                have K1 := Lib.hid (HDE.out.drew.callT HG.out (fun K hK => down_k hK (by omega) o.ag o.nw))
                have K2 := Lib.hid (fun w4 (h : De (fun k => k = q) w q t mb o bv (downL o.ag o.nw L).2 L w4) => h.num HSE.out (down_e o.ag L o.nw).1)
                have K3 := Lib.hid (fun w5 (h : De (fun k => k = q) w q t mb o bv (downL o.ag o.nw L).2 L w5) => h.callM (fun lv tv hm => rdown_any hm (by omega) o.ag o.nw))
                have HC := Lib.hid HDE.out.c
                clear q0 q1 q2 q3 q4 q5
                go_region_held3 (fun V => V.cell? ⟨q, 1, none⟩ = some (n64 o.ag) ∧ V.cell? ⟨q, 2, none⟩ = some (n64 o.nw) ∧ V.cell? ⟨q, 3, none⟩ = some (.string (bs o.pt)) ∧ V.cell? ⟨q, 4, none⟩ = some (fl o.wt) ∧ V.cell? ⟨q, 5, none⟩ = some bv) (first | exact HC.out | exact hS4.c | exact hS5.c | exact hS6.c)
                  (first
                  | (go_at_call 13; refine (K1.out).mono ?_; rintro e w4 ⟨rfl, hS4⟩)
                  | (go_at_call 6; refine (K2.out _ hS4).mono ?_; rintro e w5 ⟨rfl, hS5⟩)
                  | (go_at_call 14; refine (K3.out _ hS5).mono ?_; rintro e w6 ⟨rfl, hS6⟩))
                go_wp2_with fail
                go_meet
                exact ⟨by simp, _, (down_e o.ag L o.nw).2, hS6⟩
            have dx4 : (x == 4) = false := by simpa using hx4
            by_cases hx5 : x = 5
            · subst hx5
              as_aux_lemma =>
                go_upto_region 20 with fail
                have K1 := Lib.hid (HDE.out.drew.callT HG.out (fun K hK => up_k hK (by omega) o.ag))
                have K2 := Lib.hid (fun w4 (h : De (fun k => k = q) w q t mb o bv (upL o.ag L).2 L w4) => h.num HSE.out (up_e o.ag L).1)
                have K3 := Lib.hid (fun w5 (h : De (fun k => k = q) w q t mb o bv (upL o.ag L).2 L w5) => h.callM (fun lv tv hm => rup_any hm (by omega) o.ag))
                have HC := Lib.hid HDE.out.c
                clear q0 q1 q2 q3 q4 q5
                go_region_held3 (fun V => V.cell? ⟨q, 1, none⟩ = some (n64 o.ag) ∧ V.cell? ⟨q, 2, none⟩ = some (n64 o.nw) ∧ V.cell? ⟨q, 3, none⟩ = some (.string (bs o.pt)) ∧ V.cell? ⟨q, 4, none⟩ = some (fl o.wt) ∧ V.cell? ⟨q, 5, none⟩ = some bv) (first | exact HC.out | exact hS4.c | exact hS5.c | exact hS6.c)
                  (first
                  | (go_at_call 15; refine (K1.out).mono ?_; rintro e w4 ⟨rfl, hS4⟩)
                  | (go_at_call 6; refine (K2.out _ hS4).mono ?_; rintro e w5 ⟨rfl, hS5⟩)
                  | (go_at_call 16; refine (K3.out _ hS5).mono ?_; rintro e w6 ⟨rfl, hS6⟩))
                go_wp2_with fail
                go_meet
                exact ⟨by simp, _, (up_e o.ag L).2, hS6⟩
            have dx5 : (x == 5) = false := by simpa using hx5
            by_cases hx6 : x = 6
            · subst hx6
              as_aux_lemma =>
                go_upto_region 22 with fail
                have K1 := Lib.hid (HDE.out.drew.callT HG.out (fun K hK => drop_k hK (by omega) o.ag))
                have K2 := Lib.hid (fun w4 (h : De (fun k => k = q) w q t mb o bv (dropL o.ag L).2 L w4) => h.num HSE.out (drop_e o.ag L).1)
                have K3 := Lib.hid (fun w5 (h : De (fun k => k = q) w q t mb o bv (dropL o.ag L).2 L w5) => h.callM (fun lv tv hm => rdropa_any hm (by omega) o.ag))
                have HC := Lib.hid HDE.out.c
                clear q0 q1 q2 q3 q4 q5
                go_region_held3 (fun V => V.cell? ⟨q, 1, none⟩ = some (n64 o.ag) ∧ V.cell? ⟨q, 2, none⟩ = some (n64 o.nw) ∧ V.cell? ⟨q, 3, none⟩ = some (.string (bs o.pt)) ∧ V.cell? ⟨q, 4, none⟩ = some (fl o.wt) ∧ V.cell? ⟨q, 5, none⟩ = some bv) (first | exact HC.out | exact hS4.c | exact hS5.c | exact hS6.c)
                  (first
                  | (go_at_call 17; refine (K1.out).mono ?_; rintro e w4 ⟨rfl, hS4⟩)
                  | (go_at_call 6; refine (K2.out _ hS4).mono ?_; rintro e w5 ⟨rfl, hS5⟩)
                  | (go_at_call 18; refine (K3.out _ hS5).mono ?_; rintro e w6 ⟨rfl, hS6⟩))
                go_wp2_with fail
                go_meet
                exact ⟨by simp, _, (drop_e o.ag L).2, hS6⟩
            have dx6 : (x == 6) = false := by simpa using hx6
            by_cases hx7 : x = 7
            · subst hx7
              as_aux_lemma =>
                have K1 := Lib.hid (HDE.out.callT HG.out (fun K hK => expire_k hK (by omega) o.nw))
                have K2 := Lib.hid (fun w4 (h : De (fun k => k = q) w q t mb o bv (expL o.nw L).2 L w4) => h.callM (fun lv tv hm => rexpire_any hm (by omega) o.nw))
                have K3 := Lib.hid (fun w5 (h : De (fun k => k = q) w q t mb o bv (expL o.nw L).2 (expL o.nw L).2 w5) => h.num HSE.out (exp_e o.nw L).1)
                clear q0 q1 q3 q4 q5
                go_wp2_with (first
                  | (go_at_call 19; refine K1.out.mono ?_; rintro e w4 ⟨rfl, hS4⟩; have r2 := hS4.c.2.1; have HS4 := Lib.hid hS4; clear hS4)
                  | (go_at_call 20; refine (K2.out _ HS4.out).mono ?_; rintro e w5 ⟨rfl, hS5⟩; have HS5 := Lib.hid hS5; clear hS5)
                  | (go_at_call 6; refine (K3.out _ HS5.out).mono ?_; rintro e w6 ⟨rfl, hS6⟩; have HS6 := Lib.hid hS6; clear hS6))
                go_meet
                exact ⟨by simp, _, (exp_e o.nw L).2, HS6.out⟩
            have dx7 : (x == 7) = false := by simpa using hx7
            by_cases hx8 : x = 8
            · subst hx8
              as_aux_lemma =>
                obtain ⟨ab2, cb2, hbv2, _⟩ := HRI.out
                subst hbv2
                have hbl : o.bz.length ≤ 100 := by omega
                have hpl : o.pt.length ≤ 300 := by omega
                have K21 := Lib.hid (ints_any ab2 cb2 o.bz W2 (HRI.out.below (HDE.out.d.bel)) (fun e => HNL.out _ _ _ rfl e) (by omega))
                have K22 := Lib.hid (fun w4 g cp (h : De (fun k => k = q ∨ k = g) w q t mb o (.slice ab2 o.bz.length cb2) L L w4) (hG : Gc g o.bz w4) => h.callTF HG.out (fun K hK => picks_k hK (by omega) o.pt (by omega) (.slice (some ⟨g, 0, none⟩) o.bz.length cp) o.bz hG.ri (by omega)))
                have K23 := Lib.hid (fun w5 g (h : De (fun k => k = q ∨ k = g) w q t mb o (.slice ab2 o.bz.length cb2) (pickL o.pt o.bz L).2 L w5) => h.callMF (fun lv tv hm => rpick_any hm (by omega) o.pt (by omega) _ o.bz (HRI.out.below h.d.bel) (by omega)))
                have K6 := Lib.hid (fun w6 g (h : De (fun k => k = q ∨ k = g) w q t mb o (.slice ab2 o.bz.length cb2) (pickL o.pt o.bz L).2 (pickL o.pt o.bz L).2 w6) => h.numF HSE.out (pick_e o.pt L o.bz).1)
                clear q0 q1 q2 q4
                go_upto_region 30 with (first
                  | (go_at_call 21; refine K21.out.mono ?_; rintro e w4 ⟨g, cp, rfl, hcp, hgl, hO, hB⟩; obtain ⟨hS4, hG4⟩ := HDE.out.ints hB hgl hO; have r3 := hS4.c.2.2.1; have HS4 := Lib.hid hS4; have HG4 := Lib.hid hG4; clear hS4 hG4 hO hB)
                  | (go_at_call 22; refine (K22.out _ _ _ HS4.out HG4.out).mono ?_; rintro e w5 ⟨rfl, hS5, hF5⟩; have r35 := hS5.c.2.2.1; have r55 := hS5.c.2.2.2.2; have HS5 := Lib.hid hS5; have HG5 := Lib.hid (HG4.out.fp hF5 (fun e => e (.inr (.inr rfl)))); clear hS5 hF5))
                as_aux_lemma =>
                  go_wp2_with (first
                    | (go_at_call 23; refine (K23.out _ _ HS5.out).mono ?_; rintro e w6 ⟨rfl, hS6, hF6⟩; have HS6 := Lib.hid hS6; have HG6 := Lib.hid (HG5.out.fp hF6 (fun e => e (.inr (.inr rfl)))); clear hS6 hF6)
                    | (go_at_call 6; refine (K6.out _ _ HS6.out).mono ?_; rintro e w7 ⟨rfl, hS7, hF7⟩; have r57 := hS7.c.2.2.2.2; have HS7 := Lib.hid hS7; have HG7 := Lib.hid (HG6.out.fp hF7 (fun e => e (.inr (.inr rfl)))); clear hS7 hF7)
                    | (go_at_call 24; refine (kept_yes _ _ _ o.bz _ (HRI.out.below HS7.out.d.bel) (by omega) hcp HG7.out.1 HG7.out.2).mono ?_; rintro e w8 ⟨rfl, n8, rfl⟩; have HS8 := Lib.hid ((HS7.out.drewN n8).back (.inl rfl))))
                  go_meet
                  exact ⟨by simp, _, (pick_e o.pt L o.bz).2, HS8.out⟩
            have dx8 : (x == 8) = false := by simpa using hx8
            clear q1 q2 q3 q4 q5
            go_wp2_with fail
            go_meet
            exact ⟨rfl, L, by omega, HDE.out⟩
          case rest =>
            as_aux_lemma =>
              obtain ⟨rfl, L', hL', hDc⟩ := hcut
              have hDE := hDc.drew
              clear hDc q0 q1 q2 q3 q4 q5 HDE HNL HRI d2 d3 d1
              have hlen : L'.length ≤ 100000 := by omega
              obtain ⟨aom, cpm, cm, hm, hmc⟩ := hDE.d.mlist
              have HM := Lib.hid hm
              have HMC := Lib.hid hmc
              have K26 := Lib.hid (hDE.d.all HG.out hlen)
              have K25 := Lib.hid (fun (w5 : World) (v : Value) (hb : Below wc.drew.heap.size wc.drew w5) (hr : Rr w5 v L') => same_rows hr (HM.out w5 hb).2 (by omega))
              have HDE := Lib.hid hDE
              clear hDE hm hmc
              go_upto_region 32 with fail
              go_region_held3 (fun V => V.cell? ⟨mb, 0, none⟩ = some (.slice aom L'.length cpm)) (first | exact cm | exact (HM.out _ hB4).1 | exact (HM.out _ hB5).1)
                (first
                | (go_at_call 26; refine (K26.out).mono ?_; rintro e w4 ⟨v4, rfl, hr4, hB4⟩)
                | (go_at_call 25; refine (K25.out _ _ hB4 hr4).mono ?_; rintro e w5 ⟨rfl, hB5a⟩; have hB5 := below_all hB4 hB5a; clear hB5a))
              have hbl6 : Below w5.heap.size w5 (w5.alloc (.cells #[] 57)) := (Below.refl _ _).alloc (Nat.le_refl _) _
              have hDE5 := HDE.out.below hB5
              have hown0 : (w5.alloc (.cells #[] 57)).ownsRow w5.heap.size 57 5 (.slice (some ⟨w5.heap.size, 0, none⟩) 0 0) 0 [] := ⟨rfl, .inr ⟨w5.heap.size, 0, #[], rfl, Nat.le_refl _, blk_new _ _ _, Nat.le_refl _, by unfold maxLen; omega, rfl, rfl⟩⟩
              clear HM HMC HDE K26 K25 cm hB4 hB5 hr4
              obtain ⟨aom2, cpm2, cm5, hm, hmc⟩ := hDE5.d.mlist
              have cm := (hm _ hbl6).1
              have q3 := hDE5.c.2.2.1
              have hql : q < w5.heap.size := hDE5.d.xlt q rfl
              have HMC := Lib.hid hmc
              have HDE5 := Lib.hid hDE5
              have HOW := Lib.hid hown0
              have HBL := Lib.hid hbl6
              have Hq3 := Lib.hid q3
              clear hm hmc hDE5 hown0 hbl6 cm5 q3
              go_upto_block 3 with fail
              clear cm
              obtain ⟨W6, hW6⟩ : ∃ W6, W6 = w5.alloc (.cells #[] 57) := ⟨_, rfl⟩
              rw [← hW6] at HOW HBL
              rw [← hW6]
              clear hW6
              go_wp2_with fail
              obtain ⟨i0, hi, hz0, hz1, hz2⟩ := info_parts' info50
              go_loopw [17, 18, 219] (fun ls sv i wx => ∃ j, j ≤ L'.length ∧ i = n64 j ∧ sv = .bool (((L'.take j).filter (nmR o.pt)).any svR) ∧ wx.ownsRow w5.heap.size 57 5 ls ((L'.take j).filter (nmR o.pt)).length (tL ((L'.take j).filter (nmR o.pt))) ∧ Below w5.heap.size w5 wx) (fun _ _ i _ => L'.length - (intOf i).toNat)
              case atStart => exact ⟨0, Nat.zero_le _, rfl, rfl, HOW.out, HBL.out⟩
              case round =>
                obtain ⟨j, hj, rfl, rfl, hown, hbr⟩ := hrel
                have hfl : ((L'.take j).filter (nmR o.pt)).length ≤ j := Nat.le_trans (List.length_filter_le _ _) (by simp; omega)
                by_cases hlj : j < L'.length
                · obtain ⟨g, rfl, hgl, hcell⟩ := HMC.out (by omega)
                  obtain ⟨r, hr⟩ : ∃ r, L'[j]? = some r := ⟨_, List.getElem?_eq_getElem hlj⟩
                  obtain ⟨c0, c1, c2, c3, c4⟩ := rr_cells (fun i hi => (hbr.cell (p := ⟨g, i, none⟩) hgl).trans (hcell i hi)) hr
                  have p3 := (hbr.cell (p := ⟨q, 3, none⟩) hql).trans Hq3.out
                  have p3A := fun u => (World.cell?_alloc_some wr ⟨q, 3, none⟩ u (by rw [p3]; rfl)).trans p3
                  have htk : L'.take (j + 1) = L'.take j ++ [r] := by rw [List.take_add_one, hr]; rfl
                  have e := bs_eql r.nm o.pt
                  have HT := Lib.hid htk
                  have HR := Lib.hid hbr
                  clear hr htk hcell
                  cases hnm : r.nm == o.pt with
                  | false =>
                    rw [hnm] at e
                    have hfe : (L'.take (j + 1)).filter (nmR o.pt) = (L'.take j).filter (nmR o.pt) := by rw [HT.out, List.filter_append]; simp [nmR, hnm]
                    have HFE := Lib.hid hfe
                    have HO := Lib.hid hown
                    have hbx := HR.out.alloc HR.out.size (.cells #[.string (bs r.nm), n64 r.ag, fl r.wt, .bool r.dr, n64 r.un] 57)
                    have HBX := Lib.hid hbx
                    clear hfe hown hbr hbx
                    go_wp2_with fail
                    go_roundw
                    case rel => exact ⟨j + 1, by omega, by go_num, by rw [HFE.out], by rw [HFE.out]; exact HO.out.alloc _, HBX.out⟩
                    case measure => simp [intOf]; omega
                  | true =>
                    as_aux_lemma =>
                      rw [hnm] at e
                      have hfe : (L'.take (j + 1)).filter (nmR o.pt) = (L'.take j).filter (nmR o.pt) ++ [r] := by rw [HT.out, List.filter_append]; simp [nmR, hnm]
                      have HFE := Lib.hid hfe
                      obtain ⟨F, hF⟩ : ∃ F, F = (L'.take j).filter (nmR o.pt) := ⟨_, rfl⟩
                      rw [← hF] at HFE hown hfl ⊢
                      have HO := Lib.hid hown
                      clear hfe hown hbr hF
                      obtain ⟨s, hs⟩ : ∃ s, s = F.any svR := ⟨_, rfl⟩
                      rw [← hs]
                      have HS := Lib.hid hs
                      clear hs
                      go_wp2_with (at_builtin; refine wpList_append_own _ rfl (.tmp 228) (.tmp 230) 27 rfl w5.heap.size 57 i0 _ 5 48 Tryz.underlying27 hi hz0 hz1 hz2 rfl (by decide) _ F.length _ rfl ((HO.out.alloc _).alloc _) ⟨wr.heap.size + 1, 0, none⟩ 1 1 (tc r) rfl rfl ?c1 (tc_one r) ?c3 ?c4 ?c5 ?_)
                      case c1 => intro j u hj; rw [addr_add, Nat.zero_add]; exact (blk_new1 wr _ (tc r).toArray 57).cell j u (by simpa using hj)
                      case c3 => unfold maxLen; omega
                      case c4 => omega
                      case c5 => have := HR.out.size; simp; omega
                      · intro v' w6 hown' hgrow _
                        have e2 : tL (F ++ [r]) = tL F ++ tc r := by rw [tL_app]; simp [tL]
                        have HO6 := Lib.hid (show w6.ownsRow w5.heap.size 57 5 v' (F ++ [r]).length (tL (F ++ [r])) from by rw [List.length_append, e2]; exact hown')
                        have hbk : Blk ((wr.alloc (.cells (tc r).toArray 57)).alloc (.cells (tc r).toArray 57)) wr.heap.size (tc r).toArray 57 := (blk_new wr (tc r).toArray 57).alloc _
                        have hP : Blk w6 wr.heap.size (tc r).toArray 57 := hbk.same (hgrow.block _ hbk.lt (fun e => by have := (own_lo HO.out _ e.symm).2; omega))
                        have p4 : w6.cell? ⟨wr.heap.size, 4, none⟩ = some (n64 r.un) := hP.cell 4 _ rfl
                        have p33 : w6.cell? ⟨wr.heap.size, 3, none⟩ = some (.bool r.dr) := hP.cell 3 _ rfl
                        have hs5 := HR.out.size
                        have HB6 := Lib.hid (((HR.out.alloc hs5 _).alloc (by simp; omega) _).grown hgrow (by simp; omega) (fun k hk => (own_lo HO.out k hk).1))
                        have hany : (F ++ [r]).any svR = (s || (r.un == 0 && !r.dr)) := by rw [List.any_append, ← HS.out]; simp [svR]
                        have HANY := Lib.hid hany
                        clear hown' hgrow hbk hP hs5 hany e2
                        cases s with
                        | true =>
                          go_wp2_with fail
                          go_roundw
                          case rel => exact ⟨j + 1, by omega, by go_num, by rw [HFE.out, HANY.out]; rfl, by rw [HFE.out]; exact HO6.out, HB6.out⟩
                          case measure => simp [intOf]; omega
                        | false =>
                          cases hu : r.un == 0 with
                          | false =>
                            rw [hu] at HANY
                            go_wp2_with fail
                            go_roundw
                            case rel => exact ⟨j + 1, by omega, by go_num, by rw [HFE.out, HANY.out]; rfl, by rw [HFE.out]; exact HO6.out, HB6.out⟩
                            case measure => simp [intOf]; omega
                          | true =>
                            rw [hu] at HANY
                            go_wp2_with fail
                            go_roundw
                            case rel => exact ⟨j + 1, by omega, by go_num, by rw [HFE.out, HANY.out]; rfl, by rw [HFE.out]; exact HO6.out, HB6.out⟩
                            case measure => simp [intOf]; omega
                · obtain rfl : j = L'.length := by omega
                  as_aux_lemma =>
                    rw [List.take_length] at hown hfl ⊢
                    have hDEr := HDE5.out.below hbr
                    obtain ⟨S, hS⟩ : ∃ S, S = (L'.filter (nmR o.pt)).any svR := ⟨_, rfl⟩
                    have K28 := Lib.hid (fun (w7 : World) (hb : Below wr.heap.size wr w7) => (hDEr.d.below hb).serve hlen o.pt)
                    rw [← hS] at K28 ⊢
                    obtain ⟨lsa, lsc, rfl⟩ := own_form hown
                    have K27 := Lib.hid (hDEr.d.list HG.out hlen o.pt)
                    have K25 := Lib.hid (fun (w7 : World) (v : Value) (hb : Below wr.heap.size wr w7) (hv : Rr w7 v (L'.filter (nmR o.pt))) => same_rows hv ((Rr.own hown).below hb) (by omega))
                    have HQ3 := Lib.hid (fun (w7 : World) (hb : Below wr.heap.size wr w7) => (hDEr.below hb).c.2.2.1)
                    have p3 := hDEr.c.2.2.1
                    have HDEr := Lib.hid hDEr
                    clear hS hown hbr hDEr
                    go_wp2_with (first
                      | (go_at_call 27; refine (K27.out).mono ?_; rintro e w7 ⟨v7, rfl, hr7, hB7⟩; have HB7 := Lib.hid hB7; clear hB7)
                      | (go_at_call 25; refine (K25.out _ _ HB7.out hr7).mono ?_; rintro e w8 ⟨rfl, hB8a⟩; have HB8 := Lib.hid (below_all HB7.out hB8a); have p38 := HQ3.out _ HB8.out; clear hB8a)
                      | (go_at_call 28; refine (K28.out _ HB8.out).mono ?_; rintro e w9 ⟨rfl, hB9a⟩; have HB9 := Lib.hid (below_all HB8.out hB9a); clear hB9a))
                    go_roundw
                    case rel => exact ⟨k + 1, L', by omega, by omega, by go_num, by omega, (HDEr.out.below HB9.out).d.mono (fun k h => h.elim)⟩
                    case measure => simp [intOf]; omega
    · obtain rfl : k = ops.length := by omega
      go_wp2_with fail
      go_ret
      exact ⟨rfl, HD.out.bel⟩
end Go.Proofs.YtgimmdnmndbcpaaGreatDoor
