/- The reference's Walk. -/
import Derived.Test.YtfphfljndhideaaDoorS2
set_option linter.unusedVariables false
set_option linter.unusedSimpArgs false
namespace Go.Proofs.YtfphfljndhideaaDoor
open Go.RowKit Jw Lab

theorem okc_num (s : List UInt8) (c : UInt8) : okc s c = if c.toNat = 46 then decide ((lst s).length ≠ 0) && !dsh s && decide ((spl s).length ≠ 8) && decide (s.length + 2 ≤ 63)
    else if pln c then decide ((lst s).length + 1 ≤ 16) && decide (s.length + 1 ≤ 63)
    else decide (c.toNat = 45) && decide ((lst s).length ≠ 0) && decide ((lst s).length + 2 ≤ 16) && decide (s.length + 2 ≤ 63) := by
  have h1 : c = 46 ↔ c.toNat = 46 := by rw [← UInt8.toNat_inj]; exact Iff.rfl
  have h2 : c = 45 ↔ c.toNat = 45 := by rw [← UInt8.toNat_inj]; exact Iff.rfl
  have h3 : lst s ≠ [] ↔ (lst s).length ≠ 0 := by rw [ne_eq, ← List.length_eq_zero_iff]
  rw [okc]
  have e1 : (if c = 46 then (1 : Nat) else 0) = if c.toNat = 46 then 1 else 0 := by simp [h1]
  by_cases h : c = 46
  · rw [if_pos h, if_pos (h1.1 h), decide_eq_decide.2 h3]
  · rw [if_neg h, if_neg (fun e => h (h1.2 e)), decide_eq_decide.2 h3, decide_eq_decide.2 h2]
theorem dsh_snoc (s : List UInt8) (c : UInt8) (h : c ≠ 46) : dsh (s ++ [c]) = decide (c.toNat = 45) := by
  have h2 : c = 45 ↔ c.toNat = 45 := by rw [← UInt8.toNat_inj]; exact Iff.rfl
  rw [dsh, lst_snoc, if_neg h, decide_eq_true (by simp), Bool.true_and, decide_eq_decide, ← h2]
  simp
theorem dsh_dot (s : List UInt8) : dsh (s ++ [46]) = false := by rw [dsh, lst_snoc, if_pos rfl]; rfl
theorem endOk_num (b : List UInt8) : endOk b = (decide (3 ≤ b.length) && decide ((lst (b.drop 3)).length ≠ 0) && !dsh (b.drop 3)) := by
  rw [endOk]
  congr 2
  rw [decide_eq_decide, ne_eq, ne_eq, List.length_eq_zero_iff]
theorem pln_num (c : UInt8) : pln c = ((decide (97 ≤ c.toNat) && decide (c.toNat ≤ 122)) || (decide (48 ≤ c.toNat) && decide (c.toNat ≤ 57))) := rfl

/-- Where the reference's loop stands. -/
def Wk (b : List UInt8) (k : Nat) (la si da i : Value) : Prop :=
  k ≤ b.length ∧ i = n64 k ∧ la = n64 (spl ((b.take k).drop 3)).length ∧ si = n64 (lst ((b.take k).drop 3)).length ∧ da = .bool (dsh ((b.take k).drop 3)) ∧ wlk [] b = wlk (b.take k) (b.drop k)

set_option maxRecDepth 20000 in
set_option maxHeartbeats 4000000 in
theorem rwalk_any (b : List UInt8) (hb : b.length < 4294967281) (v : Value) (w : World) (hr : Rb w v b) :
    Calls Tryd.prog 32 #[v] w fun e w' => e = .returned (.tuple #[n64 (wlk [] b).1, .bool (wlk [] b).2]) ∧ w = w' := by
  obtain ⟨ao, cap, rfl, hao⟩ := hr
  have HA := Lib.hid hao
  have HB := Lib.hid hb
  have HW := Lib.hid (fun (k : Nat) h wx => (show (Instr.index 9 (.string ⟨#[116, 111, 32]⟩) (.int .i64 (k : Int))).run Tryd.prog wx = .ok (.int .u8 ((word.getD k 0).toNat : Int)) wx from bs_at word k h wx))
  have hsz : (⟨#[116, 111, 32]⟩ : ByteArray).size = 3 := rfl
  clear hao hb
  go_enter Tryd.func32, Tryd.ntmps32
  go_upto_region 4 with fail
  go_loopw [5, 6, 7, 8, 9, 10, 11, 14] (fun la si da _ _ _ _ i wr => ∃ (k : Nat), Wk b k la si da i ∧ wr = w) (fun _ _ _ _ _ _ _ i _ => b.length - (intOf i).toNat)
  case atStart => exact ⟨0, ⟨by omega, rfl, rfl, rfl, rfl, rfl⟩, rfl⟩
  case round =>
    obtain ⟨k, ⟨hk, rfl, rfl, rfl, rfl, hwk⟩, rfl⟩ := hrel
    by_cases hlk : k < b.length
    · obtain ⟨bb, off, rfl, hbb, hc⟩ := HA.out (by omega)
      have hx := hc k hlk
      obtain ⟨c, hcd⟩ : ∃ c, c = b.getD k 0 := ⟨_, rfl⟩
      rw [← hcd] at hx
      have htk : b.take (k + 1) = b.take k ++ [c] := by
        rw [List.take_add_one, List.getElem?_eq_getElem hlk, hcd, List.getD_eq_getElem?_getD, List.getElem?_eq_getElem hlk]
        rfl
      have hdk : b.drop k = c :: b.drop (k + 1) := by
        rw [List.drop_eq_getElem_cons hlk, hcd, List.getD_eq_getElem?_getD, List.getElem?_eq_getElem hlk]
        rfl
      rw [hdk] at hwk
      have hlen : (b.take k).length = k := by simp; omega
      have hst : wlk (b.take k) (c :: b.drop (k + 1)) = if c = 10 then (if endOk (b.take k) then (k + 1, true) else (k, false)) else if okW (b.take k) c then wlk (b.take (k + 1)) (b.drop (k + 1)) else (k, false) := by
        rw [wlk, hlen, htk]
      rw [hst] at hwk
      have heo : endOk (b.take k) = (decide (3 ≤ k) && decide ((lst ((b.take k).drop 3)).length ≠ 0) && !dsh ((b.take k).drop 3)) := by rw [endOk_num, hlen]
      have how : okW (b.take k) c = if k < 3 then decide (c = word.getD k 0) else okc ((b.take k).drop 3) c := by rw [okW, hlen]
      rw [okc_num] at how
      have hc10 : c = 10 ↔ c.toNat = 10 := by rw [← UInt8.toNat_inj]; exact Iff.rfl
      have ck : ((k : Int) + 1) ≤ 4294967290 := by have := HB.out; omega
      have HC := Lib.hid hc
      clear hc hcd hdk hst
      rcases Nat.lt_or_ge k 3 with h3 | h3
      · have hq3 : decide ((k : Int) < 3) = true := by simp; omega
        have hix := HW.out k (by simp [word]; omega) wr
        rw [if_pos h3] at how
        have hw10 : word.getD k 0 ≠ 10 := by
          rcases (show k = 0 ∨ k = 1 ∨ k = 2 by omega) with h | h | h
          all_goals
            rw [h]
            decide
        by_cases hcw : c = word.getD k 0
        · have hne : c ≠ 10 := by rw [hcw]; exact hw10
          rw [if_neg hne, how, decide_eq_true hcw, if_pos rfl] at hwk
          have e : (b.take (k + 1)).drop 3 = (b.take k).drop 3 := by
            rw [List.drop_eq_nil_of_le (by simp; omega), List.drop_eq_nil_of_le (by simp; omega)]
          rw [← hcw] at hix
          have HE := Lib.hid e
          have HWK := Lib.hid hwk
          have HTK := Lib.hid htk
          clear e hwk how heo hc10 hcw hne hw10 h3 htk hlen
          generalize c.toNat = x at *
          have qx : ((x : Int) == (x : Int)) = true := by simp
          have qxn : ((x : Int) != (x : Int)) = false := by simp
          go_wp2_with fail
          go_roundw
          case rel => exact ⟨k + 1, ⟨by omega, by go_num, by rw [HE.out], by rw [HE.out], by rw [HE.out], HWK.out⟩, trivial⟩
          case measure => simp [intOf]; omega
        · have hend : wlk [] b = (k, false) := by
            rw [hwk]
            by_cases h : c = 10
            · rw [if_pos h, heo, decide_eq_false (show ¬ 3 ≤ k by omega)]; rfl
            · rw [if_neg h, how, decide_eq_false hcw]; rfl
          have qx : ((c.toNat : Int) == ((word.getD k 0).toNat : Int)) = false := by
            rw [beq_eq_false_iff_ne]
            intro e
            exact hcw (UInt8.toNat_inj.1 (by omega))
          have qxn : ((c.toNat : Int) != ((word.getD k 0).toNat : Int)) = true := by rw [bne, qx]; rfl
          have HE := Lib.hid hend
          clear hend hwk how heo hc10 hcw hw10 h3 htk hlen
          generalize (word.getD k 0).toNat = y at *
          go_wp2_with fail
          go_ret2
          exact ⟨by rw [HE.out]; rfl, rfl⟩
      have hq3 : decide ((k : Int) < 3) = false := by simp; omega
      rw [if_neg (by omega)] at how
      rw [decide_eq_true h3, Bool.true_and] at heo
      obtain ⟨j, hj⟩ : ∃ j, k = j + 3 := ⟨k - 3, by omega⟩
      have ej : (k : Int) - 3 = (j : Int) := by omega
      have wj : IntKind.i64.wrap (j : Int) = (j : Int) := IntWalk.i64_in _ (by have := HB.out; omega)
      obtain ⟨s, hs⟩ : ∃ s, s = (b.take k).drop 3 := ⟨_, rfl⟩
      have hsl : s.length = j := by rw [hs]; simp; omega
      have hnx : (b.take (k + 1)).drop 3 = s ++ [c] := by rw [htk, List.drop_append_of_le_length (by rw [hlen]; omega), hs]
      have hla : (spl s).length ≤ j + 1 := by rw [spl_length, ← hsl]; have := List.count_le_length (a := (46 : UInt8)) (l := s); omega
      have hls := lst_len s
      have hsn := fun h => dsh_snoc s c h
      have hsd := dsh_dot s
      have hll := lst_snoc s c
      have hln := len_snoc s c
      have hjb : j < 4294967281 := by have := HB.out; omega
      have hpl := pln_num c
      have h46 : c = 46 ↔ c.toNat = 46 := by rw [← UInt8.toNat_inj]; exact Iff.rfl
      rw [← hs] at heo how ⊢
      rw [hsl] at how hls
      obtain ⟨n1, hn1⟩ : ∃ n, n = (spl s).length := ⟨_, rfl⟩
      obtain ⟨n2, hn2⟩ : ∃ n, n = (lst s).length := ⟨_, rfl⟩
      obtain ⟨d, hd⟩ : ∃ d, d = dsh s := ⟨_, rfl⟩
      obtain ⟨x, hxc⟩ : ∃ x, x = c.toNat := ⟨_, rfl⟩
      have hx255 : x < 256 := by rw [hxc]; exact c.toNat_lt
      rw [← hn1, ← hn2, ← hd, ← hxc] at how
      rw [← hn2, ← hd] at heo
      rw [← hn1] at hla hln ⊢
      rw [← hn2] at hls ⊢
      rw [← hd]
      rw [← hxc] at hx hsn hpl hc10 h46
      have HNX := Lib.hid hnx
      have HLL := Lib.hid hll
      have HLN := Lib.hid hln
      have HSN := Lib.hid hsn
      have HSD := Lib.hid hsd
      have HN2 := Lib.hid hn2
      have HWK := Lib.hid hwk
      have hj63 : j + 2 ≤ 4294967290 := by omega
      have bn1 : n1 ≤ 4294967290 := by omega
      have bn2 : n2 ≤ 4294967290 := by omega
      clear hj hnx hll hln hsn hsd hs htk hlen hsl hwk hn1 hn2 hd hxc h3 hjb
      rcases (show (x < 10) ∨ (x = 10) ∨ (10 < x ∧ x < 45) ∨ (x = 45) ∨ (x = 46) ∨ (x = 47) ∨ (48 ≤ x ∧ x ≤ 57) ∨ (57 < x ∧ x < 97) ∨ (97 ≤ x ∧ x ≤ 122) ∨ (122 < x) by omega) with hr | hr | hr | hr | hr | hr | hr | hr | hr | hr
      · have x10 : ((x : Int) == 10) = false := by simp; omega
        have x46 : ((x : Int) == 46) = false := by simp; omega
        have x45 : ((x : Int) == 45) = false := by simp; omega
        have x45n : ((x : Int) != 45) = true := by simp; omega
        have x97 : decide ((97 : Int) ≤ (x : Int)) = false := by simp; omega
        have x122 : decide ((x : Int) ≤ 122) = true := by simp; omega
        have x48 : decide ((48 : Int) ≤ (x : Int)) = false := by simp; omega
        have x57 : decide ((x : Int) ≤ 57) = true := by simp; omega
        have hend : wlk [] b = (k, false) := by
          rw [HWK.out]
          rw [if_neg (show ¬ c = 10 from (by rw [hc10]; omega)), how, if_neg (show ¬ x = 46 by omega), hpl]
          rw [show ((decide (97 ≤ x) && decide (x ≤ 122)) || (decide (48 ≤ x) && decide (x ≤ 57))) = false from (by simp; omega), if_neg (show ¬ (false = true) from Bool.false_ne_true)]
          rw [decide_eq_false (show ¬ x = 45 by omega)]; rfl
        have HE := Lib.hid hend
        clear hend hx255 how heo hpl hc10 h46 hls hla
        go_wp2_with fail
        go_ret2
        exact ⟨by rw [HE.out]; rfl, rfl⟩
      · have x10 : ((x : Int) == 10) = true := by simp; omega
        have x46 : ((x : Int) == 46) = false := by simp; omega
        have x45 : ((x : Int) == 45) = false := by simp; omega
        have x45n : ((x : Int) != 45) = true := by simp; omega
        have x97 : decide ((97 : Int) ≤ (x : Int)) = false := by simp; omega
        have x122 : decide ((x : Int) ≤ 122) = true := by simp; omega
        have x48 : decide ((48 : Int) ≤ (x : Int)) = false := by simp; omega
        have x57 : decide ((x : Int) ≤ 57) = true := by simp; omega
        by_cases h0 : n2 = 0
        · have z : ((n2 : Int) == 0) = true := by simp; omega
          have hend : wlk [] b = (k, false) := by
            rw [HWK.out]
            rw [if_pos (hc10.2 (by omega)), heo]
            rw [decide_eq_false (show ¬ n2 ≠ 0 by omega)]; rfl
          have HE := Lib.hid hend
          clear hend hx255 how heo hpl hc10 h46 hls hla
          go_wp2_with fail
          go_ret2
          exact ⟨by rw [HE.out]; rfl, rfl⟩
        · by_cases hd : d = true
          · have z : ((n2 : Int) == 0) = false := by simp; omega
            subst hd
            have hend : wlk [] b = (k, false) := by
              rw [HWK.out]
              rw [if_pos (hc10.2 (by omega)), heo]
              rw [Bool.not_true, Bool.and_false]; rfl
            have HE := Lib.hid hend
            clear hend hx255 how heo hpl hc10 h46 hls hla
            go_wp2_with fail
            go_ret2
            exact ⟨by rw [HE.out]; rfl, rfl⟩
          · have z : ((n2 : Int) == 0) = false := by simp; omega
            obtain rfl : d = false := by simpa using hd
            have hend : wlk [] b = (k + 1, true) := by
              rw [HWK.out, if_pos (hc10.2 (by omega)), heo, decide_eq_true (show n2 ≠ 0 by omega)]; rfl
            have HE := Lib.hid hend
            clear hend hx255 how heo hpl hc10 h46 hls hla hd
            go_wp2_with fail
            go_ret2
            exact ⟨by rw [HE.out]; rfl, rfl⟩
      · have x10 : ((x : Int) == 10) = false := by simp; omega
        have x46 : ((x : Int) == 46) = false := by simp; omega
        have x45 : ((x : Int) == 45) = false := by simp; omega
        have x45n : ((x : Int) != 45) = true := by simp; omega
        have x97 : decide ((97 : Int) ≤ (x : Int)) = false := by simp; omega
        have x122 : decide ((x : Int) ≤ 122) = true := by simp; omega
        have x48 : decide ((48 : Int) ≤ (x : Int)) = false := by simp; omega
        have x57 : decide ((x : Int) ≤ 57) = true := by simp; omega
        have hend : wlk [] b = (k, false) := by
          rw [HWK.out]
          rw [if_neg (show ¬ c = 10 from (by rw [hc10]; omega)), how, if_neg (show ¬ x = 46 by omega), hpl]
          rw [show ((decide (97 ≤ x) && decide (x ≤ 122)) || (decide (48 ≤ x) && decide (x ≤ 57))) = false from (by simp; omega), if_neg (show ¬ (false = true) from Bool.false_ne_true)]
          rw [decide_eq_false (show ¬ x = 45 by omega)]; rfl
        have HE := Lib.hid hend
        clear hend hx255 how heo hpl hc10 h46 hls hla
        go_wp2_with fail
        go_ret2
        exact ⟨by rw [HE.out]; rfl, rfl⟩
      · have x10 : ((x : Int) == 10) = false := by simp; omega
        have x46 : ((x : Int) == 46) = false := by simp; omega
        have x45 : ((x : Int) == 45) = true := by simp; omega
        have x45n : ((x : Int) != 45) = false := by simp; omega
        have x97 : decide ((97 : Int) ≤ (x : Int)) = false := by simp; omega
        have x122 : decide ((x : Int) ≤ 122) = true := by simp; omega
        have x48 : decide ((48 : Int) ≤ (x : Int)) = false := by simp; omega
        have x57 : decide ((x : Int) ≤ 57) = true := by simp; omega
        by_cases h0 : n2 = 0
        · have z : ((n2 : Int) == 0) = true := by simp; omega
          have hend : wlk [] b = (k, false) := by
            rw [HWK.out]
            rw [if_neg (show ¬ c = 10 from (by rw [hc10]; omega)), how, if_neg (show ¬ x = 46 by omega), hpl]
            rw [show ((decide (97 ≤ x) && decide (x ≤ 122)) || (decide (48 ≤ x) && decide (x ≤ 57))) = false from (by simp; omega), if_neg (show ¬ (false = true) from Bool.false_ne_true)]
            rw [decide_eq_true (show x = 45 by omega)]
            rw [decide_eq_false (show ¬ n2 ≠ 0 by omega)]; rfl
          have HE := Lib.hid hend
          clear hend hx255 how heo hpl hc10 h46 hls hla
          go_wp2_with fail
          go_ret2
          exact ⟨by rw [HE.out]; rfl, rfl⟩
        · by_cases h16 : 16 < n2 + 1
          · have z : ((n2 : Int) == 0) = false := by simp; omega
            have z16 : decide (16 < (n2 : Int) + 1) = true := by simp; omega
            have hend : wlk [] b = (k, false) := by
              rw [HWK.out]
              rw [if_neg (show ¬ c = 10 from (by rw [hc10]; omega)), how, if_neg (show ¬ x = 46 by omega), hpl]
              rw [show ((decide (97 ≤ x) && decide (x ≤ 122)) || (decide (48 ≤ x) && decide (x ≤ 57))) = false from (by simp; omega), if_neg (show ¬ (false = true) from Bool.false_ne_true)]
              rw [decide_eq_true (show x = 45 by omega)]
              rw [decide_eq_false (show ¬ n2 + 2 ≤ 16 by omega)]; simp
            have HE := Lib.hid hend
            clear hend hx255 how heo hpl hc10 h46 hls hla
            go_wp2_with fail
            go_ret2
            exact ⟨by rw [HE.out]; rfl, rfl⟩
          · by_cases h63 : 63 < j + 1
            · have z : ((n2 : Int) == 0) = false := by simp; omega
              have z16 : decide (16 < (n2 : Int) + 1) = false := by simp; omega
              have z63 : decide (63 < (j : Int) + 1) = true := by simp; omega
              have hend : wlk [] b = (k, false) := by
                rw [HWK.out]
                rw [if_neg (show ¬ c = 10 from (by rw [hc10]; omega)), how, if_neg (show ¬ x = 46 by omega), hpl]
                rw [show ((decide (97 ≤ x) && decide (x ≤ 122)) || (decide (48 ≤ x) && decide (x ≤ 57))) = false from (by simp; omega), if_neg (show ¬ (false = true) from Bool.false_ne_true)]
                rw [decide_eq_true (show x = 45 by omega)]
                rw [decide_eq_false (show ¬ j + 2 ≤ 63 by omega)]; simp
              have HE := Lib.hid hend
              clear hend hx255 how heo hpl hc10 h46 hls hla
              go_wp2_with fail
              go_ret2
              exact ⟨by rw [HE.out]; rfl, rfl⟩
            · by_cases h17 : 16 < n2 + 2
              · have z : ((n2 : Int) == 0) = false := by simp; omega
                have z16 : decide (16 < (n2 : Int) + 1) = false := by simp; omega
                have z63 : decide (63 < (j : Int) + 1) = false := by simp; omega
                have z17 : decide (16 < (n2 : Int) + 2) = true := by simp; omega
                have hend : wlk [] b = (k, false) := by
                  rw [HWK.out]
                  rw [if_neg (show ¬ c = 10 from (by rw [hc10]; omega)), how, if_neg (show ¬ x = 46 by omega), hpl]
                  rw [show ((decide (97 ≤ x) && decide (x ≤ 122)) || (decide (48 ≤ x) && decide (x ≤ 57))) = false from (by simp; omega), if_neg (show ¬ (false = true) from Bool.false_ne_true)]
                  rw [decide_eq_true (show x = 45 by omega)]
                  rw [decide_eq_false (show ¬ n2 + 2 ≤ 16 by omega)]; simp
                have HE := Lib.hid hend
                clear hend hx255 how heo hpl hc10 h46 hls hla
                go_wp2_with fail
                go_ret2
                exact ⟨by rw [HE.out]; rfl, rfl⟩
              · by_cases h64 : 63 < j + 2
                · have z : ((n2 : Int) == 0) = false := by simp; omega
                  have z16 : decide (16 < (n2 : Int) + 1) = false := by simp; omega
                  have z63 : decide (63 < (j : Int) + 1) = false := by simp; omega
                  have z17 : decide (16 < (n2 : Int) + 2) = false := by simp; omega
                  have z64 : decide (63 < (j : Int) + 2) = true := by simp; omega
                  have hend : wlk [] b = (k, false) := by
                    rw [HWK.out]
                    rw [if_neg (show ¬ c = 10 from (by rw [hc10]; omega)), how, if_neg (show ¬ x = 46 by omega), hpl]
                    rw [show ((decide (97 ≤ x) && decide (x ≤ 122)) || (decide (48 ≤ x) && decide (x ≤ 57))) = false from (by simp; omega), if_neg (show ¬ (false = true) from Bool.false_ne_true)]
                    rw [decide_eq_true (show x = 45 by omega)]
                    rw [decide_eq_false (show ¬ j + 2 ≤ 63 by omega)]; simp
                  have HE := Lib.hid hend
                  clear hend hx255 how heo hpl hc10 h46 hls hla
                  go_wp2_with fail
                  go_ret2
                  exact ⟨by rw [HE.out]; rfl, rfl⟩
                · have z : ((n2 : Int) == 0) = false := by simp; omega
                  have z16 : decide (16 < (n2 : Int) + 1) = false := by simp; omega
                  have z63 : decide (63 < (j : Int) + 1) = false := by simp; omega
                  have z17 : decide (16 < (n2 : Int) + 2) = false := by simp; omega
                  have z64 : decide (63 < (j : Int) + 2) = false := by simp; omega
                  have hgo : wlk [] b = wlk (b.take (k + 1)) (b.drop (k + 1)) := by
                    rw [HWK.out]
                    rw [if_neg (show ¬ c = 10 from (by rw [hc10]; omega)), how, if_neg (show ¬ x = 46 by omega), hpl]
                    rw [show ((decide (97 ≤ x) && decide (x ≤ 122)) || (decide (48 ≤ x) && decide (x ≤ 57))) = false from (by simp; omega), if_neg (show ¬ (false = true) from Bool.false_ne_true)]
                    rw [decide_eq_true (show x = 45 by omega)]
                    rw [decide_eq_true (show n2 ≠ 0 by omega), decide_eq_true (show n2 + 2 ≤ 16 by omega), decide_eq_true (show j + 2 ≤ 63 by omega)]; rfl
                  have HE := Lib.hid hgo
                  have HC46 := Lib.hid h46
                  clear hgo hx255 how heo hpl hc10 h46 hls hla
                  go_wp2_with fail
                  go_roundw
                  case rel => exact ⟨k + 1, ⟨by omega, by go_num, by rw [HNX.out, HLN.out, if_neg (fun e => absurd (HC46.out.1 e) (by omega))], by rw [HNX.out, HLL.out, if_neg (fun e => absurd (HC46.out.1 e) (by omega)), List.length_append, ← HN2.out]; go_num, by rw [HNX.out, HSN.out (fun e => absurd (HC46.out.1 e) (by omega)), decide_eq_true (show x = 45 by omega)], HE.out⟩, trivial⟩
                  case measure => simp [intOf]; omega
      · have x10 : ((x : Int) == 10) = false := by simp; omega
        have x46 : ((x : Int) == 46) = true := by simp; omega
        have x45 : ((x : Int) == 45) = false := by simp; omega
        have x45n : ((x : Int) != 45) = true := by simp; omega
        have x97 : decide ((97 : Int) ≤ (x : Int)) = false := by simp; omega
        have x122 : decide ((x : Int) ≤ 122) = true := by simp; omega
        have x48 : decide ((48 : Int) ≤ (x : Int)) = false := by simp; omega
        have x57 : decide ((x : Int) ≤ 57) = true := by simp; omega
        by_cases h0 : n2 = 0
        · have z : ((n2 : Int) == 0) = true := by simp; omega
          have hend : wlk [] b = (k, false) := by
            rw [HWK.out]
            rw [if_neg (show ¬ c = 10 from (by rw [hc10]; omega)), how, if_pos (show x = 46 by omega)]
            rw [decide_eq_false (show ¬ n2 ≠ 0 by omega)]; simp
          have HE := Lib.hid hend
          clear hend hx255 how heo hpl hc10 h46 hls hla
          go_wp2_with fail
          go_ret2
          exact ⟨by rw [HE.out]; rfl, rfl⟩
        · by_cases hd : d = true
          · have z : ((n2 : Int) == 0) = false := by simp; omega
            subst hd
            have hend : wlk [] b = (k, false) := by
              rw [HWK.out]
              rw [if_neg (show ¬ c = 10 from (by rw [hc10]; omega)), how, if_pos (show x = 46 by omega)]
              simp
            have HE := Lib.hid hend
            clear hend hx255 how heo hpl hc10 h46 hls hla
            go_wp2_with fail
            go_ret2
            exact ⟨by rw [HE.out]; rfl, rfl⟩
          · by_cases h8 : n1 = 8
            · have z : ((n2 : Int) == 0) = false := by simp; omega
              obtain rfl : d = false := by simpa using hd
              have z8 : ((n1 : Int) == 8) = true := by simp; omega
              have hend : wlk [] b = (k, false) := by
                rw [HWK.out]
                rw [if_neg (show ¬ c = 10 from (by rw [hc10]; omega)), how, if_pos (show x = 46 by omega)]
                rw [decide_eq_false (show ¬ n1 ≠ 8 by omega)]; simp
              have HE := Lib.hid hend
              clear hend hx255 how heo hpl hc10 h46 hls hla
              go_wp2_with fail
              go_ret2
              exact ⟨by rw [HE.out]; rfl, rfl⟩
            · by_cases h63 : 63 < j + 2
              · have z : ((n2 : Int) == 0) = false := by simp; omega
                obtain rfl : d = false := by simpa using hd
                have z8 : ((n1 : Int) == 8) = false := by simp; omega
                have z63 : decide (63 < (j : Int) + 2) = true := by simp; omega
                have hend : wlk [] b = (k, false) := by
                  rw [HWK.out]
                  rw [if_neg (show ¬ c = 10 from (by rw [hc10]; omega)), how, if_pos (show x = 46 by omega)]
                  rw [decide_eq_false (show ¬ j + 2 ≤ 63 by omega)]; simp
                have HE := Lib.hid hend
                clear hend hx255 how heo hpl hc10 h46 hls hla
                go_wp2_with fail
                go_ret2
                exact ⟨by rw [HE.out]; rfl, rfl⟩
              · have z : ((n2 : Int) == 0) = false := by simp; omega
                obtain rfl : d = false := by simpa using hd
                have z8 : ((n1 : Int) == 8) = false := by simp; omega
                have z63 : decide (63 < (j : Int) + 2) = false := by simp; omega
                have hgo : wlk [] b = wlk (b.take (k + 1)) (b.drop (k + 1)) := by
                  rw [HWK.out]
                  rw [if_neg (show ¬ c = 10 from (by rw [hc10]; omega)), how, if_pos (show x = 46 by omega)]
                  rw [decide_eq_true (show n2 ≠ 0 by omega), decide_eq_true (show n1 ≠ 8 by omega), decide_eq_true (show j + 2 ≤ 63 by omega)]; rfl
                have HE := Lib.hid hgo
                have HC46 := Lib.hid h46
                clear hgo hx255 how heo hpl hc10 h46 hls hla
                go_wp2_with fail
                go_roundw
                case rel => exact ⟨k + 1, ⟨by omega, by go_num, by rw [HNX.out, HLN.out, if_pos (HC46.out.2 (by omega))]; go_num, by rw [HNX.out, HLL.out, if_pos (HC46.out.2 (by omega))]; rfl, by rw [HNX.out, (HC46.out.2 (by omega) : c = 46), HSD.out], HE.out⟩, trivial⟩
                case measure => simp [intOf]; omega
      · have x10 : ((x : Int) == 10) = false := by simp; omega
        have x46 : ((x : Int) == 46) = false := by simp; omega
        have x45 : ((x : Int) == 45) = false := by simp; omega
        have x45n : ((x : Int) != 45) = true := by simp; omega
        have x97 : decide ((97 : Int) ≤ (x : Int)) = false := by simp; omega
        have x122 : decide ((x : Int) ≤ 122) = true := by simp; omega
        have x48 : decide ((48 : Int) ≤ (x : Int)) = false := by simp; omega
        have x57 : decide ((x : Int) ≤ 57) = true := by simp; omega
        have hend : wlk [] b = (k, false) := by
          rw [HWK.out]
          rw [if_neg (show ¬ c = 10 from (by rw [hc10]; omega)), how, if_neg (show ¬ x = 46 by omega), hpl]
          rw [show ((decide (97 ≤ x) && decide (x ≤ 122)) || (decide (48 ≤ x) && decide (x ≤ 57))) = false from (by simp; omega), if_neg (show ¬ (false = true) from Bool.false_ne_true)]
          rw [decide_eq_false (show ¬ x = 45 by omega)]; rfl
        have HE := Lib.hid hend
        clear hend hx255 how heo hpl hc10 h46 hls hla
        go_wp2_with fail
        go_ret2
        exact ⟨by rw [HE.out]; rfl, rfl⟩
      · have x10 : ((x : Int) == 10) = false := by simp; omega
        have x46 : ((x : Int) == 46) = false := by simp; omega
        have x45 : ((x : Int) == 45) = false := by simp; omega
        have x45n : ((x : Int) != 45) = true := by simp; omega
        have x97 : decide ((97 : Int) ≤ (x : Int)) = false := by simp; omega
        have x122 : decide ((x : Int) ≤ 122) = true := by simp; omega
        have x48 : decide ((48 : Int) ≤ (x : Int)) = true := by simp; omega
        have x57 : decide ((x : Int) ≤ 57) = true := by simp; omega
        by_cases h16 : 16 < n2 + 1
        · have z16 : decide (16 < (n2 : Int) + 1) = true := by simp; omega
          have hend : wlk [] b = (k, false) := by
            rw [HWK.out]
            rw [if_neg (show ¬ c = 10 from (by rw [hc10]; omega)), how, if_neg (show ¬ x = 46 by omega), hpl]
            rw [decide_eq_true (show 48 ≤ x by omega), decide_eq_true (show x ≤ 57 by omega), Bool.and_self, Bool.or_true, if_pos rfl]
            rw [decide_eq_false (show ¬ n2 + 1 ≤ 16 by omega)]; rfl
          have HE := Lib.hid hend
          clear hend hx255 how heo hpl hc10 h46 hls hla
          go_wp2_with fail
          go_ret2
          exact ⟨by rw [HE.out]; rfl, rfl⟩
        · by_cases h63 : 63 < j + 1
          · have z16 : decide (16 < (n2 : Int) + 1) = false := by simp; omega
            have z63 : decide (63 < (j : Int) + 1) = true := by simp; omega
            have hend : wlk [] b = (k, false) := by
              rw [HWK.out]
              rw [if_neg (show ¬ c = 10 from (by rw [hc10]; omega)), how, if_neg (show ¬ x = 46 by omega), hpl]
              rw [decide_eq_true (show 48 ≤ x by omega), decide_eq_true (show x ≤ 57 by omega), Bool.and_self, Bool.or_true, if_pos rfl]
              rw [decide_eq_false (show ¬ j + 1 ≤ 63 by omega)]; simp
            have HE := Lib.hid hend
            clear hend hx255 how heo hpl hc10 h46 hls hla
            go_wp2_with fail
            go_ret2
            exact ⟨by rw [HE.out]; rfl, rfl⟩
          · have z16 : decide (16 < (n2 : Int) + 1) = false := by simp; omega
            have z63 : decide (63 < (j : Int) + 1) = false := by simp; omega
            have hgo : wlk [] b = wlk (b.take (k + 1)) (b.drop (k + 1)) := by
              rw [HWK.out]
              rw [if_neg (show ¬ c = 10 from (by rw [hc10]; omega)), how, if_neg (show ¬ x = 46 by omega), hpl]
              rw [decide_eq_true (show 48 ≤ x by omega), decide_eq_true (show x ≤ 57 by omega), Bool.and_self, Bool.or_true, if_pos rfl]
              rw [decide_eq_true (show n2 + 1 ≤ 16 by omega), decide_eq_true (show j + 1 ≤ 63 by omega)]; rfl
            have HE := Lib.hid hgo
            have HC46 := Lib.hid h46
            clear hgo hx255 how heo hpl hc10 h46 hls hla
            go_wp2_with fail
            go_roundw
            case rel => exact ⟨k + 1, ⟨by omega, by go_num, by rw [HNX.out, HLN.out, if_neg (fun e => absurd (HC46.out.1 e) (by omega))], by rw [HNX.out, HLL.out, if_neg (fun e => absurd (HC46.out.1 e) (by omega)), List.length_append, ← HN2.out]; go_num, by rw [HNX.out, HSN.out (fun e => absurd (HC46.out.1 e) (by omega)), decide_eq_false (show ¬ x = 45 by omega)], HE.out⟩, trivial⟩
            case measure => simp [intOf]; omega
      · have x10 : ((x : Int) == 10) = false := by simp; omega
        have x46 : ((x : Int) == 46) = false := by simp; omega
        have x45 : ((x : Int) == 45) = false := by simp; omega
        have x45n : ((x : Int) != 45) = true := by simp; omega
        have x97 : decide ((97 : Int) ≤ (x : Int)) = false := by simp; omega
        have x122 : decide ((x : Int) ≤ 122) = true := by simp; omega
        have x48 : decide ((48 : Int) ≤ (x : Int)) = true := by simp; omega
        have x57 : decide ((x : Int) ≤ 57) = false := by simp; omega
        have hend : wlk [] b = (k, false) := by
          rw [HWK.out]
          rw [if_neg (show ¬ c = 10 from (by rw [hc10]; omega)), how, if_neg (show ¬ x = 46 by omega), hpl]
          rw [show ((decide (97 ≤ x) && decide (x ≤ 122)) || (decide (48 ≤ x) && decide (x ≤ 57))) = false from (by simp; omega), if_neg (show ¬ (false = true) from Bool.false_ne_true)]
          rw [decide_eq_false (show ¬ x = 45 by omega)]; rfl
        have HE := Lib.hid hend
        clear hend hx255 how heo hpl hc10 h46 hls hla
        go_wp2_with fail
        go_ret2
        exact ⟨by rw [HE.out]; rfl, rfl⟩
      · have x10 : ((x : Int) == 10) = false := by simp; omega
        have x46 : ((x : Int) == 46) = false := by simp; omega
        have x45 : ((x : Int) == 45) = false := by simp; omega
        have x45n : ((x : Int) != 45) = true := by simp; omega
        have x97 : decide ((97 : Int) ≤ (x : Int)) = true := by simp; omega
        have x122 : decide ((x : Int) ≤ 122) = true := by simp; omega
        have x48 : decide ((48 : Int) ≤ (x : Int)) = true := by simp; omega
        have x57 : decide ((x : Int) ≤ 57) = false := by simp; omega
        by_cases h16 : 16 < n2 + 1
        · have z16 : decide (16 < (n2 : Int) + 1) = true := by simp; omega
          have hend : wlk [] b = (k, false) := by
            rw [HWK.out]
            rw [if_neg (show ¬ c = 10 from (by rw [hc10]; omega)), how, if_neg (show ¬ x = 46 by omega), hpl]
            rw [decide_eq_true (show 97 ≤ x by omega), decide_eq_true (show x ≤ 122 by omega), Bool.and_self, Bool.true_or, if_pos rfl]
            rw [decide_eq_false (show ¬ n2 + 1 ≤ 16 by omega)]; rfl
          have HE := Lib.hid hend
          clear hend hx255 how heo hpl hc10 h46 hls hla
          go_wp2_with fail
          go_ret2
          exact ⟨by rw [HE.out]; rfl, rfl⟩
        · by_cases h63 : 63 < j + 1
          · have z16 : decide (16 < (n2 : Int) + 1) = false := by simp; omega
            have z63 : decide (63 < (j : Int) + 1) = true := by simp; omega
            have hend : wlk [] b = (k, false) := by
              rw [HWK.out]
              rw [if_neg (show ¬ c = 10 from (by rw [hc10]; omega)), how, if_neg (show ¬ x = 46 by omega), hpl]
              rw [decide_eq_true (show 97 ≤ x by omega), decide_eq_true (show x ≤ 122 by omega), Bool.and_self, Bool.true_or, if_pos rfl]
              rw [decide_eq_false (show ¬ j + 1 ≤ 63 by omega)]; simp
            have HE := Lib.hid hend
            clear hend hx255 how heo hpl hc10 h46 hls hla
            go_wp2_with fail
            go_ret2
            exact ⟨by rw [HE.out]; rfl, rfl⟩
          · have z16 : decide (16 < (n2 : Int) + 1) = false := by simp; omega
            have z63 : decide (63 < (j : Int) + 1) = false := by simp; omega
            have hgo : wlk [] b = wlk (b.take (k + 1)) (b.drop (k + 1)) := by
              rw [HWK.out]
              rw [if_neg (show ¬ c = 10 from (by rw [hc10]; omega)), how, if_neg (show ¬ x = 46 by omega), hpl]
              rw [decide_eq_true (show 97 ≤ x by omega), decide_eq_true (show x ≤ 122 by omega), Bool.and_self, Bool.true_or, if_pos rfl]
              rw [decide_eq_true (show n2 + 1 ≤ 16 by omega), decide_eq_true (show j + 1 ≤ 63 by omega)]; rfl
            have HE := Lib.hid hgo
            have HC46 := Lib.hid h46
            clear hgo hx255 how heo hpl hc10 h46 hls hla
            go_wp2_with fail
            go_roundw
            case rel => exact ⟨k + 1, ⟨by omega, by go_num, by rw [HNX.out, HLN.out, if_neg (fun e => absurd (HC46.out.1 e) (by omega))], by rw [HNX.out, HLL.out, if_neg (fun e => absurd (HC46.out.1 e) (by omega)), List.length_append, ← HN2.out]; go_num, by rw [HNX.out, HSN.out (fun e => absurd (HC46.out.1 e) (by omega)), decide_eq_false (show ¬ x = 45 by omega)], HE.out⟩, trivial⟩
            case measure => simp [intOf]; omega
      · have x10 : ((x : Int) == 10) = false := by simp; omega
        have x46 : ((x : Int) == 46) = false := by simp; omega
        have x45 : ((x : Int) == 45) = false := by simp; omega
        have x45n : ((x : Int) != 45) = true := by simp; omega
        have x97 : decide ((97 : Int) ≤ (x : Int)) = true := by simp; omega
        have x122 : decide ((x : Int) ≤ 122) = false := by simp; omega
        have x48 : decide ((48 : Int) ≤ (x : Int)) = true := by simp; omega
        have x57 : decide ((x : Int) ≤ 57) = false := by simp; omega
        have hend : wlk [] b = (k, false) := by
          rw [HWK.out]
          rw [if_neg (show ¬ c = 10 from (by rw [hc10]; omega)), how, if_neg (show ¬ x = 46 by omega), hpl]
          rw [show ((decide (97 ≤ x) && decide (x ≤ 122)) || (decide (48 ≤ x) && decide (x ≤ 57))) = false from (by simp; omega), if_neg (show ¬ (false = true) from Bool.false_ne_true)]
          rw [decide_eq_false (show ¬ x = 45 by omega)]; rfl
        have HE := Lib.hid hend
        clear hend hx255 how heo hpl hc10 h46 hls hla
        go_wp2_with fail
        go_ret2
        exact ⟨by rw [HE.out]; rfl, rfl⟩
    · obtain rfl : k = b.length := by omega
      have hend : wlk [] b = (b.length, false) := by rw [hwk, List.drop_length, List.take_length]; rfl
      have HE := Lib.hid hend
      clear hend hwk
      go_wp2
      go_ret2
      exact ⟨by rw [HE.out]; rfl, rfl⟩
end Go.Proofs.YtfphfljndhideaaDoor
