/- The reference's labels, names and patterns. -/
import Derived.Test.YtgimmdnmndbcpaaGreatDoorC
set_option linter.unusedVariables false
set_option linter.unusedSimpArgs false
namespace Go.Proofs.YtgimmdnmndbcpaaGreatDoor
open Go.RowKit Jw Lab

/-- May a byte stand at a place of a label? -/
def rok (n k y : Nat) : Prop := (97 ≤ y ∧ y ≤ 122) ∨ (48 ≤ y ∧ y ≤ 57) ∨ (y = 45 ∧ 0 < k ∧ k + 1 < n)
theorem eq45 (x : UInt8) : x = 45 ↔ x.toNat = 45 := by rw [← UInt8.toNat_inj]; rfl
theorem labOk_iff (l : List UInt8) : labOk l = true ↔ 1 ≤ l.length ∧ l.length ≤ 16 ∧ ∀ k, k < l.length → rok l.length k (l.getD k 0).toNat := by
  have g0 : l.headD 0 = l.getD 0 0 := by cases l <;> simp
  have g1 : l.getLastD 0 = l.getD (l.length - 1) 0 := by
    rw [List.getD_eq_getElem?_getD, ← List.getLast?_eq_getElem?, List.getLastD_eq_getLast?]
  unfold labOk
  rw [g0, g1]
  simp only [Bool.and_eq_true, decide_eq_true_eq, Bool.not_eq_true', decide_eq_false_iff_not, eq45]
  constructor
  · rintro ⟨⟨⟨⟨h1, h2⟩, h3⟩, h4⟩, h5⟩
    refine ⟨h1, h2, fun k hk => ?_⟩
    have hm : l.getD k 0 ∈ l := by
      rw [List.getD_eq_getElem?_getD, List.getElem?_eq_getElem hk]
      exact List.getElem_mem _
    have hb := List.all_eq_true.1 h5 _ hm
    simp [byOk] at hb
    have hk0 : k = 0 → (l.getD k 0).toNat ≠ 45 := fun e => by rw [e]; exact h3
    have hk1 : k = l.length - 1 → (l.getD k 0).toNat ≠ 45 := fun e => by rw [e]; exact h4
    rw [← List.getD_eq_getElem?_getD] at hb
    unfold rok
    generalize (l.getD k 0).toNat = y at *
    omega
  · rintro ⟨h1, h2, h3⟩
    have a0 := h3 0 h1
    have a1 := h3 (l.length - 1) (by omega)
    refine ⟨⟨⟨⟨h1, h2⟩, ?_⟩, ?_⟩, ?_⟩
    · unfold rok at a0
      generalize (l.getD 0 0).toNat = y at *
      omega
    · unfold rok at a1
      generalize (l.getD (l.length - 1) 0).toNat = y at *
      omega
    · rw [List.all_eq_true]
      intro x hx
      obtain ⟨j, hj, rfl⟩ := List.getElem_of_mem hx
      have := h3 j hj
      rw [List.getD_eq_getElem?_getD, List.getElem?_eq_getElem hj] at this
      simp [byOk]
      unfold rok at this
      simp only [Option.getD_some] at this
      generalize l[j].toNat = y at *
      omega

set_option maxRecDepth 20000 in
set_option maxHeartbeats 1000000 in
theorem rlabel_any (l : List UInt8) (hl : l.length ≤ 4294967281) (w : World) : Calls Tryz.prog 84 #[.string (bs l)] w fun e w' => e = .returned (.bool (labOk l)) ∧ w = w' := by
  have hsz : (bs l).size = l.length := rfl
  have HI := Lib.hid (fun i h => bs_at l i h w)
  have HL := Lib.hid (labOk_iff l)
  go_enter Tryz.func84, Tryz.ntmps84
  go_upto_region 2 with fail
  go_loopw [3] (fun i wr => ∃ (k : Nat), k ≤ l.length ∧ i = n64 k ∧ (∀ j, j < k → rok l.length j (l.getD j 0).toNat) ∧ wr = w) (fun i _ => l.length - (intOf i).toNat)
  case atStart => exact ⟨0, by omega, rfl, fun j h => by omega, rfl⟩
  case round =>
    obtain ⟨k, hk, rfl, hall, rfl⟩ := hrel
    have HA := Lib.hid hall
    clear hall
    by_cases hlt : k < l.length
    · have hix := HI.out k hlt
      obtain ⟨y, hy⟩ : ∃ y, y = (l.getD k 0).toNat := ⟨_, rfl⟩
      rw [← hy] at hix
      have hbad : ¬ rok l.length k y → labOk l = false := fun h => by
        rw [Bool.eq_false_iff]
        intro e
        exact h (hy ▸ (HL.out.1 e).2.2 k hlt)
      have hgood : rok l.length k y → ∀ j, j < k + 1 → rok l.length j (l.getD j 0).toNat := fun h j hj => by
        rcases Nat.lt_or_ge j k with h' | h'
        · exact HA.out j h'
        · rw [show j = k by omega, ← hy]; exact h
      have HB := Lib.hid hbad
      have HG := Lib.hid hgood
      clear hbad hgood hy
      go_upto_region 5 with fail
      go_cut [5] (fun v wx => v = .bool (decide (0 < k ∧ k + 1 < l.length)) ∧ wx = wr)
      case first =>
        go_wp2
        all_goals
          go_meet
          refine ⟨congrArg Value.bool ?_, rfl⟩
          rw [Bool.eq_iff_iff]
          simp
          omega
      case rest =>
        obtain ⟨rfl, rfl⟩ := hcut
        obtain ⟨b, hb⟩ : ∃ b, b = decide (0 < k ∧ k + 1 < l.length) := ⟨_, rfl⟩
        rw [← hb]
        have hb' : b = true ↔ 0 < k ∧ k + 1 < l.length := by rw [hb]; simp
        clear hb
        rcases (show y < 45 ∨ y = 45 ∨ (45 < y ∧ y < 48) ∨ (48 ≤ y ∧ y ≤ 57) ∨ (57 < y ∧ y < 97) ∨ (97 ≤ y ∧ y ≤ 122) ∨ 122 < y by omega) with h | h | h | h | h | h | h
        all_goals
          have HY := Lib.hid h
          first | (have q1 : decide ((97 : Int) ≤ (y : Int)) = true := decide_eq_true (by omega)) | (have q1 : decide ((97 : Int) ≤ (y : Int)) = false := decide_eq_false (by omega))
          first | (have q2 : decide ((y : Int) ≤ 122) = true := decide_eq_true (by omega)) | (have q2 : decide ((y : Int) ≤ 122) = false := decide_eq_false (by omega))
          first | (have q3 : decide ((48 : Int) ≤ (y : Int)) = true := decide_eq_true (by omega)) | (have q3 : decide ((48 : Int) ≤ (y : Int)) = false := decide_eq_false (by omega))
          first | (have q4 : decide ((y : Int) ≤ 57) = true := decide_eq_true (by omega)) | (have q4 : decide ((y : Int) ≤ 57) = false := decide_eq_false (by omega))
          first | (have q5 : ((y : Int) == 45) = true := by simp; omega) | (have q5 : ((y : Int) == 45) = false := by simp; omega)
          clear h
          have HB' := Lib.hid hb'
          clear hb'
          cases b
        all_goals
          go_wp2
          first
            | (go_ret; exact ⟨by rw [HB.out (by have h1 := HY.out; have h2 := HB'.out; unfold rok; simp at h2; omega)]; rfl, rfl⟩)
            | (go_roundw
               case rel => exact ⟨k + 1, by omega, by go_num, HG.out (by have h1 := HY.out; have h2 := HB'.out; unfold rok; simp at h2; omega), trivial⟩
               case measure => simp [intOf]; omega)
    · obtain rfl : k = l.length := by omega
      have hf : labOk l = (decide (1 ≤ l.length) && decide (l.length ≤ 16)) := by
        rw [Bool.eq_iff_iff, HL.out]
        simp only [Bool.and_eq_true, decide_eq_true_eq]
        exact ⟨fun ⟨a, b, _⟩ => ⟨a, b⟩, fun ⟨a, b⟩ => ⟨a, b, HA.out⟩⟩
      have HF := Lib.hid hf
      clear hf
      go_wp2
      all_goals
        go_ret
        refine ⟨?_, rfl⟩
        rw [HF.out]
        refine congrArg (fun b => Ending.returned (Value.bool b)) (?_ : _ = (decide (1 ≤ l.length) && decide (l.length ≤ 16)))
        rw [Bool.eq_iff_iff]
        simp
        omega

set_option maxRecDepth 20000 in
set_option maxHeartbeats 1000000 in
theorem rname_any (l : List UInt8) (hl : l.length < 4294967281) (w : World) :
    Calls Tryz.prog 78 #[.string (bs l)] w fun e w' => e = .returned (.bool (nmOk l)) ∧ Below w.heap.size w w' := by
  have hsz : (bs l).size = l.length := rfl
  have HS := Lib.hid (rsplit_any l (by omega) w)
  have hn : 1 ≤ (spl l).length := by rw [spl_length]; omega
  have hn2 : (spl l).length ≤ l.length + 1 := by rw [spl_length]; have := List.count_le_length (a := (46 : UInt8)) (l := l); omega
  obtain ⟨L, hL⟩ : ∃ L, L = spl l := ⟨_, rfl⟩
  have hok : nmOk l = (decide (l.length ≤ 63) && decide (L.length ≤ 8) && L.all labOk) := by rw [hL]; rfl
  have hall : ∀ p ∈ L, p.length ≤ l.length := by rw [hL]; exact spl_le l
  rw [← hL] at HS hn hn2
  have HO := Lib.hid hok
  have HA := Lib.hid hall
  clear hok hL hall
  go_enter Tryz.func78, Tryz.ntmps78
  go_wp2_with (go_at_call 83; refine HS.out.mono ?_; rintro e W ⟨v, rfl, ⟨g, cap, rfl, hg1, hg2, hcl⟩, hB⟩; have HC := Lib.hid hcl; clear hcl)
  go_loopw [10] (fun i wr => ∃ (k : Nat), k ≤ L.length ∧ i = n64 k ∧ (∀ j, j < k → labOk (L.getD j []) = true) ∧ wr = W) (fun i _ => L.length - (intOf i).toNat)
  case atStart => exact ⟨0, by omega, rfl, fun j h => by omega, rfl⟩
  case round =>
    obtain ⟨k, hk, rfl, hall, rfl⟩ := hrel
    have HJ := Lib.hid hall
    clear hall
    by_cases hlt : k < L.length
    · have hix := HC.out k hlt
      obtain ⟨p, hp⟩ : ∃ p, p = L.getD k [] := ⟨_, rfl⟩
      rw [← hp] at hix
      have hmem : p ∈ L := by
        rw [hp, List.getD_eq_getElem?_getD, List.getElem?_eq_getElem hlt]
        exact List.getElem_mem _
      have hc := rlabel_any p (by have := HA.out p hmem; omega) wr
      have HX := Lib.hid hp
      clear hp
      cases hb : labOk p with
      | false =>
        have hf : nmOk l = false := by
          rw [HO.out, List.all_eq_false.2 ⟨p, hmem, by simp [hb]⟩, Bool.and_false]
        rw [hb] at hc
        have HK := Lib.hid hc
        clear hb hmem hc
        go_wp2_with (go_at_call 84; refine HK.out.mono ?_; rintro e w' ⟨rfl, rfl⟩)
        go_ret
        exact ⟨by first | rfl | (rw [hf]; rfl), hB⟩
      | true =>
        rw [hb] at hc
        have HB := Lib.hid hb
        have HK := Lib.hid hc
        clear hb hmem hc
        go_wp2_with (go_at_call 84; refine HK.out.mono ?_; rintro e w' ⟨rfl, rfl⟩)
        go_roundw
        case rel =>
          refine ⟨k + 1, by omega, by go_num, fun j hj => ?_, trivial⟩
          rcases Nat.lt_or_ge j k with h | h
          · exact HJ.out j h
          · rw [show j = k by omega, ← HX.out]; exact HB.out
        case measure => simp [intOf]; omega
    · obtain rfl : k = L.length := by omega
      have hf : nmOk l = (decide (l.length ≤ 63) && decide (L.length ≤ 8)) := by
        have e : L.all labOk = true := by
          rw [List.all_eq_true]
          intro x hx
          obtain ⟨j, hj, rfl⟩ := List.getElem_of_mem hx
          have := HJ.out j hj
          rw [List.getD_eq_getElem?_getD, List.getElem?_eq_getElem hj] at this
          exact this
        rw [HO.out, e, Bool.and_true]
      have HF := Lib.hid hf
      clear hf
      go_wp2
      all_goals
        go_ret
        refine ⟨?_, hB⟩
        rw [HF.out]
        refine congrArg (fun b => Ending.returned (Value.bool b)) (?_ : _ = (decide (l.length ≤ 63) && decide (L.length ≤ 8)))
        rw [Bool.eq_iff_iff]
        simp
        omega

/-- The reference's view of a pattern. -/
theorem rpat_wild (l : List UInt8) (hl : l.length < 4294967281) (w : World) (h2 : 2 < l.length) (hw : wld l = true) :
    Calls Tryz.prog 69 #[.string (bs l)] w fun e w' => e = .returned (.tuple #[.string (bs (l.drop 2)), .bool true, .bool (patOk l)]) ∧ Below w.heap.size w w' := by
  have hsz : (bs l).size = l.length := rfl
  have f1 : decide (2 < (l.length : Int)) = true := by simp; omega
  have hx1 : (bs l).extract 0 2 = bs (l.take 2) := by apply ByteArray.ext; apply Array.ext'; simp [bs]
  have hx2 : (bs l).extract 2 l.length = bs (l.drop 2) := by
    apply ByteArray.ext
    apply Array.ext'
    simp [bs]
    exact List.take_of_length_le (by simp)
  have hx3 : ((bs (l.take 2)).toList == [42, 46]) = true := by
    rw [show (bs (l.take 2)).toList = l.take 2 from ByteArray.toList_mk _, (wld_iff l).1 hw]
    rfl
  have f2 : (2 : Int) ≤ (l.length : Int) := by omega
  have HN := Lib.hid (fun w2 => rname_any (l.drop 2) (by simp; omega) w2)
  have HP := Lib.hid (patOk_wild hw)
  clear hw
  cases hb : nmOk (l.drop 2) with
  | false =>
    rw [hb] at HN HP
    clear hb
    go_enter Tryz.func69, Tryz.ntmps69
    go_wp2_with fail
    refine wp_region_held_drew (S := fun _ => True) (by kernel_rfl) trivial (fun hHeld => ?_)
    refine wpAnyH_take (i := 0) (v := ?_) rfl (by kernel_rfl) (by kernel_rfl) (by kernel_rfl) (fun _ _ _ h => h) (Or.inl ⟨by rfl, ?_⟩) (by assumption) ?_
    rotate_left 1
    · intro w hSw; (try dsimp only at hSw); go_simp; (try with_reducible rfl)
    try simp only [Act.put, List.setIfInBounds_toArray, List.set_cons_zero, List.set_cons_succ, List.getElem_toArray, List.getElem_cons_zero, List.getElem_cons_succ]
    refine wpAnyH_take (i := 1) (v := ?_) rfl (by kernel_rfl) (by kernel_rfl) (by kernel_rfl) (fun _ _ _ h => h) (Or.inl ⟨by rfl, ?_⟩) (by assumption) ?_
    rotate_left 1
    · intro w hSw; (try dsimp only at hSw); go_simp; (try with_reducible rfl)
    try simp only [Act.put, List.setIfInBounds_toArray, List.set_cons_zero, List.set_cons_succ, List.getElem_toArray, List.getElem_cons_zero, List.getElem_cons_succ]
    refine wpAnyH_take (i := 2) (v := ?_) rfl (by kernel_rfl) (by kernel_rfl) (by kernel_rfl) (fun _ _ _ h => h) (Or.inl ⟨by rfl, ?_⟩) (by assumption) ?_
    rotate_left 1
    · intro w hSw; (try dsimp only at hSw); go_simp; (try with_reducible rfl)
    try simp only [Act.put, List.setIfInBounds_toArray, List.set_cons_zero, List.set_cons_succ, List.getElem_toArray, List.getElem_cons_zero, List.getElem_cons_succ]
    refine wpAnyH_take (i := 3) (v := ?_) rfl (by kernel_rfl) (by kernel_rfl) (by kernel_rfl) (fun _ _ _ h => h) (Or.inl ⟨by rfl, ?_⟩) (by assumption) ?_
    rotate_left 1
    · intro w hSw; (try dsimp only at hSw); go_simp; (try with_reducible rfl)
    try simp only [Act.put, List.setIfInBounds_toArray, List.set_cons_zero, List.set_cons_succ, List.getElem_toArray, List.getElem_cons_zero, List.getElem_cons_succ]
    refine wpAnyH_ready (rs := [4]) (by kernel_rfl) (by simp) ?_
    refine AllReadyH.cons rfl (fun K hK => ?_) AllReadyH.nil
    go_simp
    refine (HN.out _).mono ?_
    rintro e w5 ⟨rfl, hB⟩
    refine hK.out _ _ trivial (fun hHeld4 => ?_)
    clear hK K
    try simp only [Act.put, List.setIfInBounds_toArray, List.set_cons_zero, List.set_cons_succ, List.getElem_toArray, List.getElem_cons_zero, List.getElem_cons_succ]
    refine wpAnyH_take (i := 5) (v := ?_) rfl (by kernel_rfl) (by kernel_rfl) (by kernel_rfl) (fun _ _ _ h => h) (Or.inl ⟨by rfl, ?_⟩) (by assumption) ?_
    rotate_left 1
    · intro w hSw; (try dsimp only at hSw); go_simp; (try with_reducible rfl)
    try simp only [Act.put, List.setIfInBounds_toArray, List.set_cons_zero, List.set_cons_succ, List.getElem_toArray, List.getElem_cons_zero, List.getElem_cons_succ]
    refine wpAnyH_take (i := 6) (v := undef) rfl (by kernel_rfl) (by kernel_rfl) (by kernel_rfl) (fun _ _ _ h => h) (Or.inr ⟨by rfl, rfl⟩) (by assumption) ?_
    try simp only [Act.put, List.setIfInBounds_toArray, List.set_cons_zero, List.set_cons_succ, List.getElem_toArray, List.getElem_cons_zero, List.getElem_cons_succ]
    refine wpAnyH_take (i := 7) (v := undef) rfl (by kernel_rfl) (by kernel_rfl) (by kernel_rfl) (fun _ _ _ h => h) (Or.inr ⟨by rfl, rfl⟩) (by assumption) ?_
    try simp only [Act.put, List.setIfInBounds_toArray, List.set_cons_zero, List.set_cons_succ, List.getElem_toArray, List.getElem_cons_zero, List.getElem_cons_succ]
    refine wpAnyH_take (i := 8) (v := undef) rfl (by kernel_rfl) (by kernel_rfl) (by kernel_rfl) (fun _ _ _ h => h) (Or.inr ⟨by rfl, rfl⟩) (by assumption) ?_
    try simp only [Act.put, List.setIfInBounds_toArray, List.set_cons_zero, List.set_cons_succ, List.getElem_toArray, List.getElem_cons_zero, List.getElem_cons_succ]
    refine wpAnyH_take (i := 9) (v := ?_) rfl (by kernel_rfl) (by kernel_rfl) (by kernel_rfl) (fun _ _ _ h => h) (Or.inl ⟨by rfl, ?_⟩) (by assumption) ?_
    rotate_left 1
    · intro w hSw; (try dsimp only at hSw); go_simp; (try with_reducible rfl)
    try simp only [Act.put, List.setIfInBounds_toArray, List.set_cons_zero, List.set_cons_succ, List.getElem_toArray, List.getElem_cons_zero, List.getElem_cons_succ]
    refine wpAnyH_take (i := 10) (v := ?_) rfl (by kernel_rfl) (by kernel_rfl) (by kernel_rfl) (fun _ _ _ h => h) (Or.inl ⟨by rfl, ?_⟩) (by assumption) ?_
    rotate_left 1
    · intro w hSw; (try dsimp only at hSw); go_simp; (try with_reducible rfl)
    try simp only [Act.put, List.setIfInBounds_toArray, List.set_cons_zero, List.set_cons_succ, List.getElem_toArray, List.getElem_cons_zero, List.getElem_cons_succ]
    refine wpAnyH_take (i := 11) (v := ?_) rfl (by kernel_rfl) (by kernel_rfl) (by kernel_rfl) (fun _ _ _ h => h) (Or.inl ⟨by rfl, ?_⟩) (by assumption) ?_
    rotate_left 1
    · intro w hSw; (try dsimp only at hSw); go_simp; (try with_reducible rfl)
    try simp only [Act.put, List.setIfInBounds_toArray, List.set_cons_zero, List.set_cons_succ, List.getElem_toArray, List.getElem_cons_zero, List.getElem_cons_succ]
    refine wpAnyH_take (i := 12) (v := ?_) rfl (by kernel_rfl) (by kernel_rfl) (by kernel_rfl) (fun _ _ _ h => h) (Or.inl ⟨by rfl, ?_⟩) (by assumption) ?_
    rotate_left 1
    · intro w hSw; (try dsimp only at hSw); go_simp; (try with_reducible rfl)
    try simp only [Act.put, List.setIfInBounds_toArray, List.set_cons_zero, List.set_cons_succ, List.getElem_toArray, List.getElem_cons_zero, List.getElem_cons_succ]
    refine wpAnyH_done (by kernel_rfl) ?_ _
    have hB2 : Below w.heap.size w w5 := (Below.refl w.heap.size w).drew.trans hB
    go_wp2
    go_ret3
    exact ⟨by rw [HP.out]; rfl, hB2⟩
  | true =>
    rw [hb] at HN HP
    have hr : patOk l = decide ((l.length : Int) ≤ 63) := by
      rw [HP.out, Bool.eq_iff_iff]
      simp
      omega
    have HR := Lib.hid hr
    obtain ⟨b, hb2⟩ : ∃ b, decide ((l.length : Int) ≤ 63) = b := ⟨_, rfl⟩
    rw [hb2] at HR
    clear hb hr
    go_enter Tryz.func69, Tryz.ntmps69
    go_wp2_with fail
    refine wp_region_held_drew (S := fun _ => True) (by kernel_rfl) trivial (fun hHeld => ?_)
    refine wpAnyH_take (i := 0) (v := ?_) rfl (by kernel_rfl) (by kernel_rfl) (by kernel_rfl) (fun _ _ _ h => h) (Or.inl ⟨by rfl, ?_⟩) (by assumption) ?_
    rotate_left 1
    · intro w hSw; (try dsimp only at hSw); go_simp; (try with_reducible rfl)
    try simp only [Act.put, List.setIfInBounds_toArray, List.set_cons_zero, List.set_cons_succ, List.getElem_toArray, List.getElem_cons_zero, List.getElem_cons_succ]
    refine wpAnyH_take (i := 1) (v := ?_) rfl (by kernel_rfl) (by kernel_rfl) (by kernel_rfl) (fun _ _ _ h => h) (Or.inl ⟨by rfl, ?_⟩) (by assumption) ?_
    rotate_left 1
    · intro w hSw; (try dsimp only at hSw); go_simp; (try with_reducible rfl)
    try simp only [Act.put, List.setIfInBounds_toArray, List.set_cons_zero, List.set_cons_succ, List.getElem_toArray, List.getElem_cons_zero, List.getElem_cons_succ]
    refine wpAnyH_take (i := 2) (v := ?_) rfl (by kernel_rfl) (by kernel_rfl) (by kernel_rfl) (fun _ _ _ h => h) (Or.inl ⟨by rfl, ?_⟩) (by assumption) ?_
    rotate_left 1
    · intro w hSw; (try dsimp only at hSw); go_simp; (try with_reducible rfl)
    try simp only [Act.put, List.setIfInBounds_toArray, List.set_cons_zero, List.set_cons_succ, List.getElem_toArray, List.getElem_cons_zero, List.getElem_cons_succ]
    refine wpAnyH_take (i := 3) (v := ?_) rfl (by kernel_rfl) (by kernel_rfl) (by kernel_rfl) (fun _ _ _ h => h) (Or.inl ⟨by rfl, ?_⟩) (by assumption) ?_
    rotate_left 1
    · intro w hSw; (try dsimp only at hSw); go_simp; (try with_reducible rfl)
    try simp only [Act.put, List.setIfInBounds_toArray, List.set_cons_zero, List.set_cons_succ, List.getElem_toArray, List.getElem_cons_zero, List.getElem_cons_succ]
    refine wpAnyH_ready (rs := [4]) (by kernel_rfl) (by simp) ?_
    refine AllReadyH.cons rfl (fun K hK => ?_) AllReadyH.nil
    go_simp
    refine (HN.out _).mono ?_
    rintro e w5 ⟨rfl, hB⟩
    refine hK.out _ _ trivial (fun hHeld4 => ?_)
    clear hK K
    try simp only [Act.put, List.setIfInBounds_toArray, List.set_cons_zero, List.set_cons_succ, List.getElem_toArray, List.getElem_cons_zero, List.getElem_cons_succ]
    refine wpAnyH_take (i := 5) (v := ?_) rfl (by kernel_rfl) (by kernel_rfl) (by kernel_rfl) (fun _ _ _ h => h) (Or.inl ⟨by rfl, ?_⟩) (by assumption) ?_
    rotate_left 1
    · intro w hSw; (try dsimp only at hSw); go_simp; (try with_reducible rfl)
    try simp only [Act.put, List.setIfInBounds_toArray, List.set_cons_zero, List.set_cons_succ, List.getElem_toArray, List.getElem_cons_zero, List.getElem_cons_succ]
    refine wpAnyH_take (i := 6) (v := ?_) rfl (by kernel_rfl) (by kernel_rfl) (by kernel_rfl) (fun _ _ _ h => h) (Or.inl ⟨by rfl, ?_⟩) (by assumption) ?_
    rotate_left 1
    · intro w hSw; (try dsimp only at hSw); go_simp; (try with_reducible rfl)
    try simp only [Act.put, List.setIfInBounds_toArray, List.set_cons_zero, List.set_cons_succ, List.getElem_toArray, List.getElem_cons_zero, List.getElem_cons_succ]
    refine wpAnyH_take (i := 7) (v := ?_) rfl (by kernel_rfl) (by kernel_rfl) (by kernel_rfl) (fun _ _ _ h => h) (Or.inl ⟨by rfl, ?_⟩) (by assumption) ?_
    rotate_left 1
    · intro w hSw; (try dsimp only at hSw); go_simp; (try with_reducible rfl)
    try simp only [Act.put, List.setIfInBounds_toArray, List.set_cons_zero, List.set_cons_succ, List.getElem_toArray, List.getElem_cons_zero, List.getElem_cons_succ]
    refine wpAnyH_take (i := 8) (v := ?_) rfl (by kernel_rfl) (by kernel_rfl) (by kernel_rfl) (fun _ _ _ h => h) (Or.inl ⟨by rfl, ?_⟩) (by assumption) ?_
    rotate_left 1
    · intro w hSw; (try dsimp only at hSw); go_simp; (try with_reducible rfl)
    try simp only [Act.put, List.setIfInBounds_toArray, List.set_cons_zero, List.set_cons_succ, List.getElem_toArray, List.getElem_cons_zero, List.getElem_cons_succ]
    refine wpAnyH_take (i := 9) (v := ?_) rfl (by kernel_rfl) (by kernel_rfl) (by kernel_rfl) (fun _ _ _ h => h) (Or.inl ⟨by rfl, ?_⟩) (by assumption) ?_
    rotate_left 1
    · intro w hSw; (try dsimp only at hSw); go_simp; (try with_reducible rfl)
    try simp only [Act.put, List.setIfInBounds_toArray, List.set_cons_zero, List.set_cons_succ, List.getElem_toArray, List.getElem_cons_zero, List.getElem_cons_succ]
    refine wpAnyH_take (i := 10) (v := ?_) rfl (by kernel_rfl) (by kernel_rfl) (by kernel_rfl) (fun _ _ _ h => h) (Or.inl ⟨by rfl, ?_⟩) (by assumption) ?_
    rotate_left 1
    · intro w hSw; (try dsimp only at hSw); go_simp; (try with_reducible rfl)
    try simp only [Act.put, List.setIfInBounds_toArray, List.set_cons_zero, List.set_cons_succ, List.getElem_toArray, List.getElem_cons_zero, List.getElem_cons_succ]
    refine wpAnyH_take (i := 11) (v := ?_) rfl (by kernel_rfl) (by kernel_rfl) (by kernel_rfl) (fun _ _ _ h => h) (Or.inl ⟨by rfl, ?_⟩) (by assumption) ?_
    rotate_left 1
    · intro w hSw; (try dsimp only at hSw); go_simp; (try with_reducible rfl)
    try simp only [Act.put, List.setIfInBounds_toArray, List.set_cons_zero, List.set_cons_succ, List.getElem_toArray, List.getElem_cons_zero, List.getElem_cons_succ]
    refine wpAnyH_take (i := 12) (v := ?_) rfl (by kernel_rfl) (by kernel_rfl) (by kernel_rfl) (fun _ _ _ h => h) (Or.inl ⟨by rfl, ?_⟩) (by assumption) ?_
    rotate_left 1
    · intro w hSw; (try dsimp only at hSw); go_simp; (try with_reducible rfl)
    try simp only [Act.put, List.setIfInBounds_toArray, List.set_cons_zero, List.set_cons_succ, List.getElem_toArray, List.getElem_cons_zero, List.getElem_cons_succ]
    refine wpAnyH_done (by kernel_rfl) ?_ _
    have hB2 : Below w.heap.size w w5 := (Below.refl w.heap.size w).drew.trans hB
    go_wp2
    go_ret3
    exact ⟨by rw [HR.out]; rfl, hB2⟩
theorem rpat_plain (l : List UInt8) (hl : l.length < 4294967281) (w : World) (h : ¬ (2 < l.length ∧ wld l = true)) :
    Calls Tryz.prog 69 #[.string (bs l)] w fun e w' => e = .returned (.tuple #[.string (bs l), .bool false, .bool (patOk l)]) ∧ Below w.heap.size w w' := by
  have hsz : (bs l).size = l.length := rfl
  have HN := Lib.hid (rname_any l hl w)
  have HP := Lib.hid (patOk_plain h)
  rcases Nat.lt_or_ge 2 l.length with h2 | h2
  · have f1 : decide (2 < (l.length : Int)) = true := by simp; omega
    have hx1 : (bs l).extract 0 2 = bs (l.take 2) := by apply ByteArray.ext; apply Array.ext'; simp [bs]
    have hx3 : ((bs (l.take 2)).toList == [42, 46]) = false := by
      rw [show (bs (l.take 2)).toList = l.take 2 from ByteArray.toList_mk _]
      rw [beq_eq_false_iff_ne]
      exact fun e => h ⟨h2, (wld_iff l).2 e⟩
    have f2 : (2 : Int) ≤ (l.length : Int) := by omega
    clear h
    go_enter Tryz.func69, Tryz.ntmps69
    go_wp2_with (go_at_call 78; refine HN.out.mono ?_; rintro e w' ⟨rfl, hB⟩)
    go_ret3
    exact ⟨by rw [HP.out]; rfl, hB⟩
  · have f1 : decide (2 < (l.length : Int)) = false := by simp; omega
    clear h
    go_enter Tryz.func69, Tryz.ntmps69
    go_wp2_with (go_at_call 78; refine HN.out.mono ?_; rintro e w' ⟨rfl, hB⟩)
    go_ret3
    exact ⟨by rw [HP.out]; rfl, hB⟩
end Go.Proofs.YtgimmdnmndbcpaaGreatDoor
