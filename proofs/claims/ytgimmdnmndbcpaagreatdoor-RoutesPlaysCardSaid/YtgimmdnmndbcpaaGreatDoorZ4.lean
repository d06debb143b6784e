/- The reference of layer 16: Up and Down. -/
import Derived.Test.YtgimmdnmndbcpaaGreatDoorZ2
set_option linter.unusedVariables false
set_option linter.unusedSimpArgs false
namespace Go.Proofs.YtgimmdnmndbcpaaGreatDoor
open Go.RowKit Jw Lab Go.Shelf
attribute [local go_sem] run_store_float

/-- The first k turned. -/
def mapTo (f : Rt → Rt) (L : List Rt) (k : Nat) : List Rt := (L.take k).map f ++ L.drop k
theorem mapTo_zero (f : Rt → Rt) (L : List Rt) : mapTo f L 0 = L := by simp [mapTo]
theorem mapTo_end (f : Rt → Rt) (L : List Rt) : mapTo f L L.length = L.map f := by simp [mapTo]
theorem mapTo_len (f : Rt → Rt) (L : List Rt) {k : Nat} (h : k ≤ L.length) : (mapTo f L k).length = L.length := by simp [mapTo]; omega
theorem mapTo_at (f : Rt → Rt) (L : List Rt) {k : Nat} {r : Rt} (h : L[k]? = some r) : (mapTo f L k)[k]? = some r := by
  have hk := (List.getElem?_eq_some_iff.1 h).1
  rw [mapTo, List.getElem?_append_right (by simp; omega)]
  simp only [List.length_map, List.length_take, List.getElem?_drop]
  rw [show k + (k - min k L.length) = k by omega]
  exact h
theorem mapTo_set (f : Rt → Rt) (L : List Rt) {k : Nat} {r : Rt} (h : L[k]? = some r) : (mapTo f L k).set k (f r) = mapTo f L (k + 1) := by
  have hk := (List.getElem?_eq_some_iff.1 h).1
  have hl : ((L.take k).map f).length = k := by simp; omega
  have h2 : L.drop k = r :: L.drop (k + 1) := by rw [List.drop_eq_getElem_cons hk]; congr 1; exact (List.getElem?_eq_some_iff.1 h).2
  rw [mapTo, List.set_append_right _ _ (by omega), hl, Nat.sub_self, h2, List.set_cons_zero, mapTo, List.take_add_one, h, List.map_append, List.append_assoc]
  rfl
theorem mapTo_same (f : Rt → Rt) (L : List Rt) {k : Nat} {r : Rt} (h : L[k]? = some r) (hf : f r = r) : mapTo f L (k + 1) = mapTo f L k := by
  rw [← mapTo_set f L h, hf]
  refine List.ext_getElem? fun j => ?_
  rw [List.getElem?_set]
  split
  · rename_i e
    subst e
    have := mapTo_at f L h
    rw [if_pos (List.getElem?_eq_some_iff.1 this).1, this]
  · rfl

set_option maxRecDepth 20000 in
set_option maxHeartbeats 1000000 in
theorem rup_any {mb : Nat} {lv tv : Value} {L : List Rt} {w : World} (h : Mr mb lv tv L w) (hL : L.length ≤ 100000) (a : Int) :
    Calls Tryz.prog 16 #[pp mb, n64 a] w fun e w' => e = .returned (n64 (nE (upL a L).1)) ∧ Nr mb lv tv w w' (upL a L).2 := by
  have HN := Lib.hid (rnumber_any a)
  have HM := Lib.hid h
  cases hn : numOk a with
  | false =>
    have e : upL a L = (some 0, L) := by rw [upL, hn]; rfl
    rw [e]
    rw [hn] at HN
    clear e hn h
    go_enter Tryz.func16, Tryz.ntmps16
    go_wp2_with (go_at_call 40; refine (HN.out _).mono ?_; rintro e w1 ⟨rfl, rfl⟩)
    go_ret
    exact ⟨rfl, Nr.refl HM.out⟩
  | true =>
    have e : upL a L = (none, L.map (eachR a upH)) := by rw [upL, hn]; rfl
    rw [e]
    rw [hn] at HN
    obtain ⟨ao, cap, rfl⟩ := own_form h.ol
    have cm : w.cell? ⟨mb, 0, none⟩ = some (.slice ao L.length cap) := h.blk.cell 0 _ rfl
    clear e hn h
    go_enter Tryz.func16, Tryz.ntmps16
    go_wp2_with (go_at_call 40; refine (HN.out _).mono ?_; rintro e w1 ⟨rfl, rfl⟩)
    go_loopw [5, 14] (fun _ i wr => ∃ k : Nat, k ≤ L.length ∧ i = n64 k ∧ Mr mb (.slice ao L.length cap) tv (mapTo (eachR a upH) L k) wr ∧ Fp (Fm mb (.slice ao L.length cap) tv) w wr) (fun _ i _ => L.length - (intOf i).toNat)
    case atStart => exact ⟨0, Nat.zero_le _, rfl, by rw [mapTo_zero]; exact HM.out, Fp.refl _ _⟩
    case round =>
      clear cm HM
      obtain ⟨k, hk, rfl, hm, hf⟩ := hrel
      have cm : wr.cell? ⟨mb, 0, none⟩ = some (.slice ao L.length cap) := hm.blk.cell 0 _ rfl
      have HF := Lib.hid hf
      by_cases hlk : k < L.length
      · obtain ⟨r, hr⟩ : ∃ r, L[k]? = some r := ⟨_, List.getElem?_eq_getElem hlk⟩
        have hrk := mapTo_at (eachR a upH) L hr
        obtain ⟨g, cg, hv, hgl, c0, c1, c2, c3, c4, hfz⟩ := hm.cells hrk
        have hlen := mapTo_len (eachR a upH) L hk
        rw [hlen] at hv
        injection hv with hv1 _ hv3
        subst hv1 hv3
        have f4 := hfz (k * 5 + 4)
        have HM := Lib.hid hm
        have HR := Lib.hid hr
        have HRK := Lib.hid hrk
        have HL := Lib.hid hlen
        clear hm hf hr hrk hlen hfz
        cases ha : r.ag == a with
        | false =>
          have hsame : eachR a upH r = r := by rw [eachR, agR, ha]; rfl
          have HS := Lib.hid hsame
          clear hsame
          go_wp2_with fail
          go_roundw
          case rel =>
            refine ⟨k + 1, by omega, by go_num, ?_, HF.out⟩
            rw [mapTo_same _ _ HR.out HS.out]
            exact HM.out
          case measure => simp [intOf]; omega
        | true =>
          have hse : eachR a upH r = { r with un := 0 } := by rw [eachR, agR, ha]; rfl
          have HS := Lib.hid hse
          clear hse
          go_wp2_with fail
          go_roundw
          case rel =>
            refine ⟨k + 1, by omega, by go_num, ?_, HF.out.then fp_field⟩
            rw [← mapTo_set _ _ HR.out, HS.out]
            have := HM.out
            rw [← HL.out] at this ⊢
            exact this.field HRK.out (by omega) rfl rfl
          case measure => simp [intOf]; omega
      · obtain rfl : k = L.length := by omega
        rw [mapTo_end] at hm
        have HM := Lib.hid hm
        clear hm hf
        go_wp2_with fail
        go_ret
        exact ⟨rfl, _, _, HM.out, HF.out, fun k hk => .inl hk⟩

set_option maxRecDepth 20000 in
set_option maxHeartbeats 2000000 in
theorem rdown_any {mb : Nat} {lv tv : Value} {L : List Rt} {w : World} (h : Mr mb lv tv L w) (hL : L.length ≤ 100000) (a now : Int) :
    Calls Tryz.prog 14 #[pp mb, n64 a, n64 now] w fun e w' => e = .returned (n64 (nE (downL a now L).1)) ∧ Nr mb lv tv w w' (downL a now L).2 := by
  have HN := Lib.hid (rnumber_any a)
  have HN2 := Lib.hid (rnumber_any now)
  have HM := Lib.hid h
  cases hn : numOk a with
  | false =>
    have e : downL a now L = (some 0, L) := by rw [downL, hn]; cases numOk now <;> rfl
    rw [e]
    rw [hn] at HN
    clear e hn h
    go_enter Tryz.func14, Tryz.ntmps14
    go_wp2_with (go_at_call 40; refine (HN.out _).mono ?_; rintro e w1 ⟨rfl, rfl⟩)
    go_ret
    exact ⟨rfl, Nr.refl HM.out⟩
  | true =>
    rw [hn] at HN
    cases hn2 : numOk now with
    | false =>
      have e : downL a now L = (some 0, L) := by rw [downL, hn2]; rfl
      rw [e]
      rw [hn2] at HN2
      clear e hn hn2 h
      go_enter Tryz.func14, Tryz.ntmps14
      go_wp2_with (go_at_call 40; first | with_reducible refine (HN.out _).mono ?_ | with_reducible refine (HN2.out _).mono ?_
                   rintro e w1 ⟨rfl, rfl⟩)
      go_ret
      exact ⟨rfl, Nr.refl HM.out⟩
    | true =>
      have e : downL a now L = (none, L.map (eachR a (dnH now))) := by rw [downL, hn, hn2]; rfl
      rw [e]
      rw [hn2] at HN2
      simp only [numOk, Bool.and_eq_true, decide_eq_true_eq] at hn2
      obtain ⟨ao, cap, rfl⟩ := own_form h.ol
      have cm : w.cell? ⟨mb, 0, none⟩ = some (.slice ao L.length cap) := h.blk.cell 0 _ rfl
      clear e hn h
      go_enter Tryz.func14, Tryz.ntmps14
      go_wp2_with (go_at_call 40; first | with_reducible refine (HN.out _).mono ?_ | with_reducible refine (HN2.out _).mono ?_
                   rintro e w1 ⟨rfl, rfl⟩)
      go_loopw [7, 21] (fun _ i wr => ∃ k : Nat, k ≤ L.length ∧ i = n64 k ∧ Mr mb (.slice ao L.length cap) tv (mapTo (eachR a (dnH now)) L k) wr ∧ Fp (Fm mb (.slice ao L.length cap) tv) w wr) (fun _ i _ => L.length - (intOf i).toNat)
      case atStart => exact ⟨0, Nat.zero_le _, rfl, by rw [mapTo_zero]; exact HM.out, Fp.refl _ _⟩
      case round =>
        clear cm HM
        obtain ⟨k, hk, rfl, hm, hf⟩ := hrel
        have cm : wr.cell? ⟨mb, 0, none⟩ = some (.slice ao L.length cap) := hm.blk.cell 0 _ rfl
        have HF := Lib.hid hf
        by_cases hlk : k < L.length
        · obtain ⟨r, hr⟩ : ∃ r, L[k]? = some r := ⟨_, List.getElem?_eq_getElem hlk⟩
          have hrk := mapTo_at (eachR a (dnH now)) L hr
          obtain ⟨g, cg, hv, hgl, c0, c1, c2, c3, c4, hfz⟩ := hm.cells hrk
          have hlen := mapTo_len (eachR a (dnH now)) L hk
          rw [hlen] at hv
          injection hv with hv1 _ hv3
          subst hv1 hv3
          have hmg : mb ≠ g := fun e => hm.apart.1 (by rw [e]; rfl)
          have f4 := hfz (k * 5 + 4)
          have HM := Lib.hid hm
          have HR := Lib.hid hr
          have HRK := Lib.hid hrk
          have HL := Lib.hid hlen
          clear hm hf hr hrk hlen hfz
          cases ha : r.ag == a with
          | false =>
            have hsame : eachR a (dnH now) r = r := by rw [eachR, agR, ha]; rfl
            have HS := Lib.hid hsame
            clear hsame
            go_wp2_with fail
            go_roundw
            case rel =>
              refine ⟨k + 1, by omega, by go_num, ?_, HF.out⟩
              rw [mapTo_same _ _ HR.out HS.out]
              exact HM.out
            case measure => simp [intOf]; omega
          | true =>
            cases hu : r.un == 0 with
            | false =>
              have hsame : eachR a (dnH now) r = r := by rw [eachR, agR, ha, if_pos rfl, dnH, hu]; rfl
              have HS := Lib.hid hsame
              clear hsame
              go_wp2_with fail
              go_roundw
              case rel =>
                refine ⟨k + 1, by omega, by go_num, ?_, HF.out⟩
                rw [mapTo_same _ _ HR.out HS.out]
                exact HM.out
              case measure => simp [intOf]; omega
            | true =>
              by_cases hbig : 1099511627776 < now + 40
              · have hse : eachR a (dnH now) r = { r with un := 1099511627776 } := by
                  rw [eachR, agR, ha, if_pos rfl, dnH, if_pos hu]
                  congr 1
                  unfold mn; omega
                have HS := Lib.hid hse
                have d1 : decide ((1099511627776 : Int) < now + 40) = true := by simpa using hbig
                clear hse
                go_wp2_with fail
                go_roundw
                case rel =>
                  refine ⟨k + 1, by omega, by go_num, ?_, (HF.out.then fp_field).then fp_field⟩
                  rw [← mapTo_set _ _ HR.out, HS.out]
                  have h1 := HM.out
                  rw [← HL.out] at h1 ⊢
                  have h2 := h1.field (r' := { r with un := now + 40 }) (u := n64 (now + 40)) (i := 4) HRK.out (by omega) rfl rfl
                  have hl2 : ((mapTo (eachR a (dnH now)) L k).set k { r with un := now + 40 }).length = (mapTo (eachR a (dnH now)) L k).length := List.length_set
                  have h3 : ((mapTo (eachR a (dnH now)) L k).set k { r with un := now + 40 })[k]? = some { r with un := now + 40 } := by
                    rw [List.getElem?_set_self (by rw [HL.out]; omega)]
                  rw [← hl2] at h2 ⊢
                  have h4 := h2.field (r' := { r with un := 1099511627776 }) (u := n64 1099511627776) (i := 4) h3 (by omega) rfl rfl
                  rw [List.set_set] at h4
                  exact h4
                case measure => simp [intOf]; omega
              · have hse : eachR a (dnH now) r = { r with un := now + 40 } := by
                  rw [eachR, agR, ha, if_pos rfl, dnH, if_pos hu]
                  congr 1
                  unfold mn; omega
                have HS := Lib.hid hse
                have d1 : decide ((1099511627776 : Int) < now + 40) = false := by simp; omega
                clear hse
                go_wp2_with fail
                go_roundw
                case rel =>
                  refine ⟨k + 1, by omega, by go_num, ?_, HF.out.then fp_field⟩
                  rw [← mapTo_set _ _ HR.out, HS.out]
                  have := HM.out
                  rw [← HL.out] at this ⊢
                  exact this.field HRK.out (by omega) rfl rfl
                case measure => simp [intOf]; omega
        · obtain rfl : k = L.length := by omega
          rw [mapTo_end] at hm
          have HM := Lib.hid hm
          clear hm hf
          go_wp2_with fail
          go_ret
          exact ⟨rfl, _, _, HM.out, HF.out, fun k hk => .inl hk⟩
end Go.Proofs.YtgimmdnmndbcpaaGreatDoor
