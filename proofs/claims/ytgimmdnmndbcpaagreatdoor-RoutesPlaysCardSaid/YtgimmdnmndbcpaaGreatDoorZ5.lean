/- The reference of layer 16: Drop and Expire. -/
import Derived.Test.YtgimmdnmndbcpaaGreatDoorZ3
set_option linter.unusedVariables false
set_option linter.unusedSimpArgs false
namespace Go.Proofs.YtgimmdnmndbcpaaGreatDoor
open Go.RowKit Jw Lab Go.Shelf
attribute [local go_sem] run_store_float

def dropL (a : Int) (L : List Rt) : Option Nat × List Rt := (if numOk a = true then none else some 0, if numOk a = true then L.filter (fun r => !agR a r) else L)
/-- From j on, those of which q holds are gone. -/
def cutTo (q : Rt → Bool) (L : List Rt) (j : Nat) : List Rt := L.take j ++ (L.drop j).filter (fun r => !q r)
theorem cutTo_len (q : Rt → Bool) (L : List Rt) : cutTo q L L.length = L := by simp [cutTo]
theorem cutTo_zero (q : Rt → Bool) (L : List Rt) : cutTo q L 0 = L.filter (fun r => !q r) := by simp [cutTo]
theorem cutTo_le (q : Rt → Bool) (L : List Rt) (j : Nat) : (cutTo q L j).length ≤ L.length := by
  have := List.length_filter_le (fun r => !q r) (L.drop j)
  simp only [cutTo, List.length_append, List.length_take, List.length_drop] at *
  omega
theorem cutTo_lt (q : Rt → Bool) (L : List Rt) {j : Nat} (h : j < L.length) : j < (cutTo q L (j + 1)).length := by
  simp only [cutTo, List.length_append, List.length_take]
  omega
theorem cutTo_at (q : Rt → Bool) (L : List Rt) {j : Nat} {r : Rt} (h : L[j]? = some r) : (cutTo q L (j + 1))[j]? = some r := by
  have hj := (List.getElem?_eq_some_iff.1 h).1
  rw [cutTo, List.getElem?_append_left (by simp; omega), List.getElem?_take_of_lt (by omega), h]
theorem drop_cons' {L : List Rt} {j : Nat} {r : Rt} (h : L[j]? = some r) : L.drop j = r :: L.drop (j + 1) := by
  have hj := (List.getElem?_eq_some_iff.1 h).1
  rw [List.drop_eq_getElem_cons hj]
  congr 1
  exact (List.getElem?_eq_some_iff.1 h).2
theorem cutTo_keep (q : Rt → Bool) (L : List Rt) {j : Nat} {r : Rt} (h : L[j]? = some r) (hq : q r = false) : cutTo q L (j + 1) = cutTo q L j := by
  rw [cutTo, cutTo, drop_cons' h, List.filter_cons, if_pos (by rw [hq]; rfl), List.take_add_one, h, List.append_assoc]
  rfl
theorem cutTo_cut (q : Rt → Bool) (L : List Rt) {j : Nat} {r : Rt} (h : L[j]? = some r) (hq : q r = true) : (cutTo q L (j + 1)).eraseIdx j = cutTo q L j := by
  have hj := (List.getElem?_eq_some_iff.1 h).1
  have hl : (L.take j).length = j := by simp; omega
  rw [cutTo, cutTo, drop_cons' h, List.filter_cons, if_neg (by rw [hq]; decide), List.take_add_one, h]
  simp only [Option.toList_some, List.append_assoc, List.cons_append, List.nil_append]
  rw [List.eraseIdx_append_of_length_le (by omega), hl, Nat.sub_self]
  rfl

set_option maxRecDepth 20000 in
set_option maxHeartbeats 1000000 in
theorem rdropa_any {mb : Nat} {lv tv : Value} {L : List Rt} {w : World} (h : Mr mb lv tv L w) (hL : L.length ≤ 100000) (a : Int) :
    Calls Tryz.prog 18 #[pp mb, n64 a] w fun e w' => e = .returned (n64 (nE (dropL a L).1)) ∧ Nr mb lv tv w w' (dropL a L).2 := by
  have HN := Lib.hid (rnumber_any a)
  have HM := Lib.hid h
  cases hn : numOk a with
  | false =>
    have e : dropL a L = (some 0, L) := by rw [dropL, hn]; rfl
    rw [e]
    rw [hn] at HN
    clear e hn h
    go_enter Tryz.func18, Tryz.ntmps18
    go_wp2_with (go_at_call 40; refine (HN.out _).mono ?_; rintro e w1 ⟨rfl, rfl⟩)
    go_ret
    exact ⟨rfl, Nr.refl HM.out⟩
  | true =>
    have e : dropL a L = (none, L.filter (fun r => !agR a r)) := by rw [dropL, hn]; rfl
    rw [e]
    rw [hn] at HN
    obtain ⟨ao, cap, rfl⟩ := own_form h.ol
    have cm : w.cell? ⟨mb, 0, none⟩ = some (.slice ao L.length cap) := h.blk.cell 0 _ rfl
    clear e hn h
    go_enter Tryz.func18, Tryz.ntmps18
    go_wp2_with (go_at_call 40; refine (HN.out _).mono ?_; rintro e w1 ⟨rfl, rfl⟩)
    go_loopw [5] (fun i wr => ∃ (j : Nat) (lv' tv' : Value), j ≤ L.length ∧ i = n64 ((j : Int) - 1) ∧ Mr mb lv' tv' (cutTo (agR a) L j) wr ∧ Fp (Fm mb (.slice ao L.length cap) tv) w wr ∧ (∀ k, Fm mb lv' tv' k → Fm mb (.slice ao L.length cap) tv k ∨ w.heap.size ≤ k)) (fun i _ => (intOf i + 1).toNat)
    case atStart => exact ⟨L.length, _, _, Nat.le_refl _, by go_num, by rw [cutTo_len]; exact HM.out, Fp.refl _ _, fun k hk => .inl hk⟩
    case round =>
      clear cm HM
      obtain ⟨j, lv', tv', hj, rfl, hm, hf, hs⟩ := hrel
      have HF := Lib.hid hf
      have HS := Lib.hid hs
      have HM := Lib.hid hm
      cases j with
      | succ j =>
        have hj1 : (((j + 1 : Nat) : Int) - 1) = (j : Int) := by omega
        rw [hj1]
        obtain ⟨r, hr⟩ : ∃ r, L[j]? = some r := ⟨_, List.getElem?_eq_getElem (by omega)⟩
        have hrk := cutTo_at (agR a) L hr
        have hlt := cutTo_lt (agR a) L (show j < L.length by omega)
        have hle := cutTo_le (agR a) L (j + 1)
        obtain ⟨g, cg, hv, hgl, c0, c1, c2, c3, c4, hfz⟩ := hm.cells hrk
        subst hv
        have cm := hm.blk.cell 0 _ rfl
        have HR := Lib.hid hr
        have HD := Lib.hid (rdrop_any hm (by omega) j hlt)
        have d0 : decide ((0 : Int) ≤ (j : Int)) = true := by simp
        clear hm hf hs hr hrk hfz hj1
        cases ha : r.ag == a with
        | false =>
          have hk := cutTo_keep (agR a) L HR.out ha
          have HK := Lib.hid hk
          clear hk
          go_wp2_with fail
          go_roundw
          case rel => exact ⟨j, _, _, by omega, by go_num, by rw [← HK.out]; exact HM.out, HF.out, HS.out⟩
          case measure => simp [intOf]
        | true =>
          have hk := cutTo_cut (agR a) L HR.out ha
          rw [hk] at HD
          have HK := Lib.hid hk
          clear hk
          go_wp2_with (go_at_call 36; refine HD.out.mono ?_; rintro e w2 ⟨rfl, lv2, tv2, hm2, hf2, hs2⟩; have HM2 := Lib.hid hm2; have HF2 := Lib.hid (HF.out.trans hf2 HS.out); have HS2 := Lib.hid (fun k hk => (hs2 k hk).elim (HS.out k) (fun h => Or.inr (Nat.le_trans HF.out.size h))); clear hm2 hf2 hs2)
          go_roundw
          case rel => exact ⟨j, _, _, by omega, by go_num, HM2.out, HF2.out, HS2.out⟩
          case measure => simp [intOf]
      | zero =>
        rw [cutTo_zero] at HM
        clear hm hf hs
        have hz : (((0 : Nat) : Int) - 1) = -1 := rfl
        rw [hz]
        go_wp2_with fail
        go_ret
        exact ⟨rfl, _, _, HM.out, HF.out, HS.out⟩
set_option maxRecDepth 20000 in
set_option maxHeartbeats 1000000 in
theorem rexpire_any {mb : Nat} {lv tv : Value} {L : List Rt} {w : World} (h : Mr mb lv tv L w) (hL : L.length ≤ 100000) (now : Int) :
    Calls Tryz.prog 20 #[pp mb, n64 now] w fun e w' => e = .returned (.tuple #[n64 (expL now L).1.1, n64 (nE (expL now L).1.2)]) ∧ Nr mb lv tv w w' (expL now L).2 := by
  have HN := Lib.hid (rnumber_any now)
  have HM := Lib.hid h
  cases hn : numOk now with
  | false =>
    have e : expL now L = ((0, some 0), L) := by rw [expL, hn]; rfl
    rw [e]
    rw [hn] at HN
    clear e hn h
    go_enter Tryz.func20, Tryz.ntmps20
    go_wp2_with (go_at_call 40; refine (HN.out _).mono ?_; rintro e w1 ⟨rfl, rfl⟩)
    go_ret2
    exact ⟨rfl, Nr.refl HM.out⟩
  | true =>
    have e : expL now L = (((L.length : Int) - ((L.filter fun r => !goneR now r).length : Int), none), L.filter fun r => !goneR now r) := by rw [expL, hn]; rfl
    rw [e]
    rw [hn] at HN
    obtain ⟨ao, cap, rfl⟩ := own_form h.ol
    have cm : w.cell? ⟨mb, 0, none⟩ = some (.slice ao L.length cap) := h.blk.cell 0 _ rfl
    clear e hn h
    go_enter Tryz.func20, Tryz.ntmps20
    go_wp2_with (go_at_call 40; refine (HN.out _).mono ?_; rintro e w1 ⟨rfl, rfl⟩)
    go_loopw [6, 7] (fun n i wr => ∃ (j : Nat) (lv' tv' : Value), j ≤ L.length ∧ i = n64 ((j : Int) - 1) ∧ n = n64 ((L.length : Int) - ((cutTo (goneR now) L j).length : Int)) ∧ Mr mb lv' tv' (cutTo (goneR now) L j) wr ∧ Fp (Fm mb (.slice ao L.length cap) tv) w wr ∧ (∀ k, Fm mb lv' tv' k → Fm mb (.slice ao L.length cap) tv k ∨ w.heap.size ≤ k)) (fun _ i _ => (intOf i + 1).toNat)
    case atStart => exact ⟨L.length, _, _, Nat.le_refl _, by go_num, by rw [cutTo_len, Int.sub_self], by rw [cutTo_len]; exact HM.out, Fp.refl _ _, fun k hk => .inl hk⟩
    case round =>
      clear cm HM
      obtain ⟨j, lv', tv', hj, rfl, rfl, hm, hf, hs⟩ := hrel
      have HF := Lib.hid hf
      have HS := Lib.hid hs
      have HM := Lib.hid hm
      cases j with
      | succ j =>
        have hj1 : (((j + 1 : Nat) : Int) - 1) = (j : Int) := by omega
        rw [hj1]
        obtain ⟨r, hr⟩ : ∃ r, L[j]? = some r := ⟨_, List.getElem?_eq_getElem (by omega)⟩
        have hrk := cutTo_at (goneR now) L hr
        have hlt := cutTo_lt (goneR now) L (show j < L.length by omega)
        have hle := cutTo_le (goneR now) L (j + 1)
        obtain ⟨g, cg, hv, hgl, c0, c1, c2, c3, c4, hfz⟩ := hm.cells hrk
        subst hv
        have cm := hm.blk.cell 0 _ rfl
        have HR := Lib.hid hr
        have HD := Lib.hid (rdrop_any hm (by omega) j hlt)
        have d0 : decide ((0 : Int) ≤ (j : Int)) = true := by simp
        clear hm hf hs hr hrk hfz hj1
        cases hq : goneR now r with
        | false =>
          have hk := cutTo_keep (goneR now) L HR.out hq
          have HK := Lib.hid hk
          have hcase : (r.un != 0) = false ∨ ((r.un != 0) = true ∧ decide (r.un < now) = false) := by
            rw [goneR] at hq
            cases h1 : r.un != 0 with
            | false => exact .inl rfl
            | true => rw [h1] at hq; exact .inr ⟨rfl, hq⟩
          clear hk hq
          rcases hcase with h1 | ⟨h1, h2⟩
          · go_wp2_with fail
            go_roundw
            case rel => exact ⟨j, _, _, by omega, by go_num, by rw [← HK.out], by rw [← HK.out]; exact HM.out, HF.out, HS.out⟩
            case measure => simp [intOf]
          · go_wp2_with fail
            go_roundw
            case rel => exact ⟨j, _, _, by omega, by go_num, by rw [← HK.out], by rw [← HK.out]; exact HM.out, HF.out, HS.out⟩
            case measure => simp [intOf]
        | true =>
          have hk := cutTo_cut (goneR now) L HR.out hq
          have hkl : (cutTo (goneR now) L j).length = (cutTo (goneR now) L (j + 1)).length - 1 := by rw [← hk, List.length_eraseIdx_of_lt hlt]
          rw [hk] at HD
          rw [goneR, Bool.and_eq_true] at hq
          obtain ⟨h1, h2⟩ := hq
          have HKL := Lib.hid hkl
          clear hk hkl
          go_wp2_with (go_at_call 36; refine HD.out.mono ?_; rintro e w2 ⟨rfl, lv2, tv2, hm2, hf2, hs2⟩; have HM2 := Lib.hid hm2; have HF2 := Lib.hid (HF.out.trans hf2 HS.out); have HS2 := Lib.hid (fun k hk => (hs2 k hk).elim (HS.out k) (fun h => Or.inr (Nat.le_trans HF.out.size h))); clear hm2 hf2 hs2)
          go_roundw
          case rel => exact ⟨j, _, _, by omega, by go_num, by rw [HKL.out]; go_num, HM2.out, HF2.out, HS2.out⟩
          case measure => simp [intOf]
      | zero =>
        rw [cutTo_zero] at HM ⊢
        clear hm hf hs
        have hz : (((0 : Nat) : Int) - 1) = -1 := rfl
        rw [hz]
        go_wp2_with fail
        go_ret2
        exact ⟨rfl, _, _, HM.out, HF.out, HS.out⟩
end Go.Proofs.YtgimmdnmndbcpaaGreatDoor
