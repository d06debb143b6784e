/- What can become a name: the walk of begins. -/
import Derived.Test.YtfphfljndhideaaDoorSq
import Derived.Test.YtfphfljndhideaaDoorG
set_option linter.unusedVariables false
set_option linter.unusedSimpArgs false
namespace Go.Proofs.YtfphfljndhideaaDoor
open Go.RowKit Jw Lab

theorem bs_take (l : List UInt8) (j : Nat) (hj : j ≤ l.length) (w : World) :
    (Instr.slice 9 (.string (bs l)) none (some (.int .i64 (j : Int))) none).run Tryd.prog w = .ok (.string (bs (l.take j))) w := by
  rw [run_slice_string_h (P := Tryd.prog) w 9 (bs l) Tryd.underlying9 .i64 j (by omega) (by rw [bs_size]; omega)]
  congr 2
  apply ByteArray.ext
  apply Array.ext'
  simp [bs]
theorem bs_cat2 (x y : List UInt8) : bs x ++ bs y = bs (x ++ y) := by
  apply ByteArray.ext
  apply Array.ext'
  simp [bs]
theorem need_eq (l : List UInt8) (h : l ≠ []) : need l = if (l.getD (l.length - 1) 0).toNat = 45 then 1 else 0 := by
  have g1 : l.getLastD 0 = l.getD (l.length - 1) 0 := by
    rw [List.getD_eq_getElem?_getD, ← List.getLast?_eq_getElem?, List.getLastD_eq_getLast?]
  have : l.getLastD 0 = 45 ↔ (l.getD (l.length - 1) 0).toNat = 45 := by
    rw [g1, ← UInt8.toNat_inj]
    exact Iff.rfl
  rw [need]
  by_cases h2 : l.getLastD 0 = 45
  · rw [if_pos (.inr h2), if_pos (this.1 h2)]
  · rw [if_neg (fun e => by rcases e with e | e; exact h e; exact h2 e), if_neg (fun e => h2 (this.2 e))]
theorem lst_at (s : List UInt8) : lst s = (spl s).getD ((spl s).length - 1) [] := by
  rw [lst, List.getLastD_eq_getLast?, List.getD_eq_getElem?_getD, List.getLast?_eq_getElem?]

set_option maxHeartbeats 1000000 in
theorem begins_any (s : List UInt8) (hs : s.length < 4294967281) (a : Addr) (m : Int) (w : World) (hg : Gl w a m) :
    Calls Tryd.prog 49 #[.string (bs s)] w fun e w' => e = .returned (.bool (beg s)) ∧ Below w.heap.size w w' := by
  have HS := Lib.hid (split_any s hs m w hg.mx)
  have HG := Lib.hid hg
  have hn : 1 ≤ (spl s).length := by rw [spl_length]; omega
  have hn2 : (spl s).length ≤ s.length + 1 := by rw [spl_length]; have := List.count_le_length (a := (46 : UInt8)) (l := s); omega
  have hla := lst_at s
  have hll := lst_len s
  have b1 := beg_many s
  have b2 := beg_ahead s
  have b3 := beg_size s
  have b4 := beg_last s
  obtain ⟨L, hL⟩ : ∃ L, L = spl s := ⟨_, rfl⟩
  rw [← hL] at HS hn hn2 hla b1 b4
  have hB : Below w.heap.size w (w.alloc (.cells (strs L) 9)) := (Below.refl _ _).alloc (Nat.le_refl _) _
  have hg1 := hg.below hB (Nat.le_refl _)
  have HG1 := Lib.hid hg1
  clear hg hg1 hL
  rcases Nat.lt_or_ge 8 L.length with h8 | h8
  · have hf := b1 h8
    have HF := Lib.hid hf
    have q : decide (8 < (L.length : Int)) = true := by simp; omega
    clear b1 b2 b3 b4 h8 hf
    go_enter Tryd.func49, Tryd.ntmps49
    go_wp2_with (go_at_call 43; refine HS.out.mono ?_; rintro e w' ⟨rfl, rfl⟩)
    go_ret
    exact ⟨by rw [HF.out]; rfl, hB⟩
  have q : decide (8 < (L.length : Int)) = false := by simp; omega
  obtain ⟨k, hk⟩ : ∃ k, L.length = k + 1 := ⟨L.length - 1, by omega⟩
  rw [show L.length - 1 = k by omega] at hla
  have e1 : (L.length : Int) - 1 = (k : Int) := by omega
  have e2 : (0 : Int) ≤ (k : Int) ∧ (k : Int) < (L.length : Int) := by omega
  have w1 : IntKind.i64.wrap (k : Int) = (k : Int) := IntWalk.i64_in _ (by omega)
  have hx := (blk_new w (strs L) 9).cell k _ (strs_at L k (by omega))
  rw [← hla] at hx
  have hah : ahd s = s.take (s.length - (lst s).length) := rfl
  obtain ⟨j, hj⟩ : ∃ j : Nat, j = s.length - (lst s).length := ⟨_, rfl⟩
  rw [← hj] at hah
  have e3 : (s.length : Int) - ((lst s).length : Int) = (j : Int) := by omega
  have w2 : IntKind.i64.wrap (j : Int) = (j : Int) := IntWalk.i64_in _ (by omega)
  have hsl := fun wx => bs_take s j (by omega) wx
  rw [← hah] at hsl
  have HT := Lib.hid (show ∀ wx, Calls Tryd.prog 58 #[.string (bs (ahd s)), .string ⟨#[46]⟩] wx fun e w' => e = .returned (.string (bs (Lib.trimSuffix (ahd s) [46]))) ∧ w' = wx from fun wx => Tryd.strings_TrimSuffix (bs (ahd s)) ⟨#[46]⟩ wx (by rw [bs_size, hah]; simp; omega))
  have HN := Lib.hid (named_any (Lib.trimSuffix (ahd s) [46]) (by rw [Lib.trimSuffix]; split <;> (rw [hah]; simp; omega)) a m _ HG1.out)
  have HFin := Lib.hid (fun (h : (lst s).length ≤ 16) => named_any (lst s ++ ([97] : List UInt8).take (need (lst s))) (by have := need_le (lst s); simp; omega) a m)
  have hnq := need_eq (lst s)
  have hnz := need_nil
  obtain ⟨l, hl⟩ : ∃ l, l = lst s := ⟨_, rfl⟩
  obtain ⟨A, hA⟩ : ∃ A, A = ahd s := ⟨_, rfl⟩
  have s1 : (bs s).size = s.length := rfl
  rw [← hl] at hx e3 HFin hnq b3 b4 hll
  rw [← hA] at hsl HT HN b2 b4
  have s2 : (bs l).size = l.length := rfl
  have t1 : (bs l).toList = l := ByteArray.toList_mk l
  have t2 : (bs A).toList = A := ByteArray.toList_mk A
  have t3 : (⟨#[]⟩ : ByteArray).toList = [] := ByteArray.toList_mk []
  have HI := Lib.hid (fun i h wx => bs_at l i h wx)
  obtain ⟨tm, htm⟩ : ∃ t, t = nmOk (Lib.trimSuffix A [46]) := ⟨_, rfl⟩
  rw [← htm] at HN b2 b4
  have HSl := Lib.hid hsl
  have e4 : l.length ≤ 4294967281 := by omega
  have e5 : s.length ≤ 4294967281 := by omega
  have hk1 := show chk false a = er a from rfl
  have hk2 := show chk true a = .nilIface from rfl
  clear hla hah hj hl hA htm b1 hsl hk
  -- what stands ahead of the last label
  rcases (show (A ≠ [] ∧ tm = false) ∨ (A = [] ∧ True) ∨ (A ≠ [] ∧ tm = true) by
    by_cases h : A = []
    · exact .inr (.inl ⟨h, trivial⟩)
    · cases tm
      · exact .inl ⟨h, rfl⟩
      · exact .inr (.inr ⟨h, rfl⟩)) with ⟨hA, rfl⟩ | hc
  · have hf := b2 hA rfl
    have HF := Lib.hid hf
    have qA : (A == []) = false := by simpa using hA
    have hsl := fun wx => HSl.out wx
    clear hf b2 b3 b4 hA
    go_enter Tryd.func49, Tryd.ntmps49
    go_wp2_with (first
      | (go_at_call 43; refine HS.out.mono ?_; rintro e w' ⟨rfl, rfl⟩)
      | (go_at_call 58; refine (HT.out _).mono ?_; rintro e w' ⟨rfl, rfl⟩)
      | (go_at_call 18; refine HN.out.mono ?_; rintro e w2 ⟨rfl, hB2⟩))
    go_ret
    exact ⟨by rw [HF.out]; rfl, hB.trans (hB2.mono hB.size)⟩
  have h8' : L.length ≤ 8 := h8
  have hok : A ≠ [] → tm = true := by
    rcases hc with ⟨h, _⟩ | ⟨_, h⟩
    · exact fun e => absurd h e
    · exact fun _ => h
  have hcase : ∃ nd : Nat, need l = nd ∧ ((l = [] ∧ nd = 1) ∨ (l ≠ [] ∧ (l.getD (l.length - 1) 0).toNat = 45 ∧ nd = 1) ∨ (l ≠ [] ∧ (l.getD (l.length - 1) 0).toNat ≠ 45 ∧ nd = 0)) := by
    by_cases h : l = []
    · exact ⟨1, by rw [h]; exact hnz, .inl ⟨h, rfl⟩⟩
    · by_cases h2 : (l.getD (l.length - 1) 0).toNat = 45
      · exact ⟨1, by rw [hnq h, if_pos h2], .inr (.inl ⟨h, h2, rfl⟩)⟩
      · exact ⟨0, by rw [hnq h, if_neg h2], .inr (.inr ⟨h, h2, rfl⟩)⟩
  obtain ⟨nd, hnd, hcs⟩ := hcase
  rw [hnd] at b3 b4 HFin
  clear hnq hnz hnd
  rcases hc with ⟨hA, _⟩ | ⟨hA, rfl⟩
  · rcases hcs with ⟨hl, rfl⟩ | ⟨hl, hy, rfl⟩ | ⟨hl, hy, rfl⟩
    · rcases Nat.lt_or_ge 16 (l.length + 1) with h16 | h16
      · rw [hl] at h16; simp at h16
      · rcases Nat.lt_or_ge 63 (s.length + 1) with h63 | h63
        · have qA : (A == []) = true := by simpa using hA
          have hsl := fun wx => HSl.out wx
          have ql : (l == []) = true := by simpa using hl
          have hl0 : l.length = 0 := by rw [hl]; rfl
          have hL0 := Lib.hid hl0
          have v1 : IntKind.i64.wrap ((l.length : Int) + 1) = (l.length : Int) + 1 := IntWalk.i64_in _ (by omega)
          have v2 : IntKind.i64.wrap ((s.length : Int) + 1) = (s.length : Int) + 1 := IntWalk.i64_in _ (by omega)
          have z1 : decide (16 < (l.length : Int) + 1) = false := by simp; omega
          have z2 : decide (63 < (s.length : Int) + 1) = true := by simp; omega
          have hf := b3 (.inr (by omega))
          have HF := Lib.hid hf
          clear hf b2 b3 b4 hl0 hl hA hok
          go_enter Tryd.func49, Tryd.ntmps49
          go_wp2_with (first
            | (go_at_call 43; refine HS.out.mono ?_; rintro e w' ⟨rfl, rfl⟩))
          go_ret
          exact ⟨by rw [HF.out]; rfl, hB⟩
        · have qA : (A == []) = true := by simpa using hA
          have hsl := fun wx => HSl.out wx
          have ql : (l == []) = true := by simpa using hl
          have hl0 : l.length = 0 := by rw [hl]; rfl
          have hL0 := Lib.hid hl0
          have v1 : IntKind.i64.wrap ((l.length : Int) + 1) = (l.length : Int) + 1 := IntWalk.i64_in _ (by omega)
          have v2 : IntKind.i64.wrap ((s.length : Int) + 1) = (s.length : Int) + 1 := IntWalk.i64_in _ (by omega)
          have z1 : decide (16 < (l.length : Int) + 1) = false := by simp; omega
          have z2 : decide (63 < (s.length : Int) + 1) = false := by simp; omega
          have hf := b4 h8' hok (by omega)
          have HF := Lib.hid hf
          have HX := Lib.hid (HFin.out (by omega))
          have hsa : ∀ wx, (Instr.slice 9 (.string ⟨#[97]⟩) none (some (.int .i64 1)) none).run Tryd.prog wx = .ok (.string (bs (([97] : List UInt8).take 1))) wx := fun wx => bs_take [97] 1 (by decide) wx
          have s5 : (bs (([97] : List UInt8).take 1)).size = 1 := rfl
          have c1 : bs l ++ bs (([97] : List UInt8).take 1) = bs (l ++ ([97] : List UInt8).take 1) := bs_cat2 _ _
          generalize hX : ([97] : List UInt8).take 1 = X at *
          obtain ⟨lx, hlx⟩ : ∃ z, z = l ++ X := ⟨_, rfl⟩
          rw [← hlx] at c1 HX HF
          clear hf b2 b3 b4 hl0 hX hlx HFin hl hA hok
          cases hfin : nmOk lx
          all_goals
            rw [hfin] at HX HF
            clear hfin
            go_enter Tryd.func49, Tryd.ntmps49
            go_wp2_with (first
              | (go_at_call 43; refine HS.out.mono ?_; rintro e w' ⟨rfl, rfl⟩)
              | (go_at_call 18; refine (HX.out _ HG1.out).mono ?_; rintro e w3 ⟨rfl, hB3⟩))
            go_ret
            exact ⟨by rw [HF.out]; rfl, hB.trans (hB3.mono hB.size)⟩
    · rcases Nat.lt_or_ge 16 (l.length + 1) with h16 | h16
      · have qA : (A == []) = true := by simpa using hA
        have hsl := fun wx => HSl.out wx
        have ql : (l == []) = false := by simpa using hl
        have hl0 : 0 < l.length := List.length_pos_iff.2 hl
        obtain ⟨i, hi⟩ : ∃ i, l.length = i + 1 := ⟨l.length - 1, by omega⟩
        rw [show l.length - 1 = i by omega] at hy
        have hix := fun wx => HI.out i (by omega) wx
        generalize (l.getD i 0).toNat = y at *
        have f1 : (l.length : Int) - 1 = (i : Int) := by omega
        have f2 : (0 : Int) ≤ (i : Int) ∧ (i : Int) < (l.length : Int) := by omega
        have w3 : IntKind.i64.wrap (i : Int) = (i : Int) := IntWalk.i64_in _ (by omega)
        have qy : ((y : Int) == 45) = true := by simp; omega
        have v1 : IntKind.i64.wrap ((l.length : Int) + 1) = (l.length : Int) + 1 := IntWalk.i64_in _ (by omega)
        have v2 : IntKind.i64.wrap ((s.length : Int) + 1) = (s.length : Int) + 1 := IntWalk.i64_in _ (by omega)
        have z1 : decide (16 < (l.length : Int) + 1) = true := by simp; omega
        have hf := b3 (.inl (by omega))
        have HF := Lib.hid hf
        clear hf b2 b3 b4 hl0 hl hA hok hy hi
        go_enter Tryd.func49, Tryd.ntmps49
        go_wp2_with (first
          | (go_at_call 43; refine HS.out.mono ?_; rintro e w' ⟨rfl, rfl⟩))
        go_ret
        exact ⟨by rw [HF.out]; rfl, hB⟩
      · rcases Nat.lt_or_ge 63 (s.length + 1) with h63 | h63
        · have qA : (A == []) = true := by simpa using hA
          have hsl := fun wx => HSl.out wx
          have ql : (l == []) = false := by simpa using hl
          have hl0 : 0 < l.length := List.length_pos_iff.2 hl
          obtain ⟨i, hi⟩ : ∃ i, l.length = i + 1 := ⟨l.length - 1, by omega⟩
          rw [show l.length - 1 = i by omega] at hy
          have hix := fun wx => HI.out i (by omega) wx
          generalize (l.getD i 0).toNat = y at *
          have f1 : (l.length : Int) - 1 = (i : Int) := by omega
          have f2 : (0 : Int) ≤ (i : Int) ∧ (i : Int) < (l.length : Int) := by omega
          have w3 : IntKind.i64.wrap (i : Int) = (i : Int) := IntWalk.i64_in _ (by omega)
          have qy : ((y : Int) == 45) = true := by simp; omega
          have v1 : IntKind.i64.wrap ((l.length : Int) + 1) = (l.length : Int) + 1 := IntWalk.i64_in _ (by omega)
          have v2 : IntKind.i64.wrap ((s.length : Int) + 1) = (s.length : Int) + 1 := IntWalk.i64_in _ (by omega)
          have z1 : decide (16 < (l.length : Int) + 1) = false := by simp; omega
          have z2 : decide (63 < (s.length : Int) + 1) = true := by simp; omega
          have hf := b3 (.inr (by omega))
          have HF := Lib.hid hf
          clear hf b2 b3 b4 hl0 hl hA hok hy hi
          go_enter Tryd.func49, Tryd.ntmps49
          go_wp2_with (first
            | (go_at_call 43; refine HS.out.mono ?_; rintro e w' ⟨rfl, rfl⟩))
          go_ret
          exact ⟨by rw [HF.out]; rfl, hB⟩
        · have qA : (A == []) = true := by simpa using hA
          have hsl := fun wx => HSl.out wx
          have ql : (l == []) = false := by simpa using hl
          have hl0 : 0 < l.length := List.length_pos_iff.2 hl
          obtain ⟨i, hi⟩ : ∃ i, l.length = i + 1 := ⟨l.length - 1, by omega⟩
          rw [show l.length - 1 = i by omega] at hy
          have hix := fun wx => HI.out i (by omega) wx
          generalize (l.getD i 0).toNat = y at *
          have f1 : (l.length : Int) - 1 = (i : Int) := by omega
          have f2 : (0 : Int) ≤ (i : Int) ∧ (i : Int) < (l.length : Int) := by omega
          have w3 : IntKind.i64.wrap (i : Int) = (i : Int) := IntWalk.i64_in _ (by omega)
          have qy : ((y : Int) == 45) = true := by simp; omega
          have v1 : IntKind.i64.wrap ((l.length : Int) + 1) = (l.length : Int) + 1 := IntWalk.i64_in _ (by omega)
          have v2 : IntKind.i64.wrap ((s.length : Int) + 1) = (s.length : Int) + 1 := IntWalk.i64_in _ (by omega)
          have z1 : decide (16 < (l.length : Int) + 1) = false := by simp; omega
          have z2 : decide (63 < (s.length : Int) + 1) = false := by simp; omega
          have hf := b4 h8' hok (by omega)
          have HF := Lib.hid hf
          have HX := Lib.hid (HFin.out (by omega))
          have hsa : ∀ wx, (Instr.slice 9 (.string ⟨#[97]⟩) none (some (.int .i64 1)) none).run Tryd.prog wx = .ok (.string (bs (([97] : List UInt8).take 1))) wx := fun wx => bs_take [97] 1 (by decide) wx
          have s5 : (bs (([97] : List UInt8).take 1)).size = 1 := rfl
          have c1 : bs l ++ bs (([97] : List UInt8).take 1) = bs (l ++ ([97] : List UInt8).take 1) := bs_cat2 _ _
          generalize hX : ([97] : List UInt8).take 1 = X at *
          obtain ⟨lx, hlx⟩ : ∃ z, z = l ++ X := ⟨_, rfl⟩
          rw [← hlx] at c1 HX HF
          clear hf b2 b3 b4 hl0 hX hlx HFin hl hA hok hy hi
          cases hfin : nmOk lx
          all_goals
            rw [hfin] at HX HF
            clear hfin
            go_enter Tryd.func49, Tryd.ntmps49
            go_wp2_with (first
              | (go_at_call 43; refine HS.out.mono ?_; rintro e w' ⟨rfl, rfl⟩)
              | (go_at_call 18; refine (HX.out _ HG1.out).mono ?_; rintro e w3 ⟨rfl, hB3⟩))
            go_ret
            exact ⟨by rw [HF.out]; rfl, hB.trans (hB3.mono hB.size)⟩
    · rcases Nat.lt_or_ge 16 (l.length + 0) with h16 | h16
      · have qA : (A == []) = true := by simpa using hA
        have hsl := fun wx => HSl.out wx
        have ql : (l == []) = false := by simpa using hl
        have hl0 : 0 < l.length := List.length_pos_iff.2 hl
        obtain ⟨i, hi⟩ : ∃ i, l.length = i + 1 := ⟨l.length - 1, by omega⟩
        rw [show l.length - 1 = i by omega] at hy
        have hix := fun wx => HI.out i (by omega) wx
        generalize (l.getD i 0).toNat = y at *
        have f1 : (l.length : Int) - 1 = (i : Int) := by omega
        have f2 : (0 : Int) ≤ (i : Int) ∧ (i : Int) < (l.length : Int) := by omega
        have w3 : IntKind.i64.wrap (i : Int) = (i : Int) := IntWalk.i64_in _ (by omega)
        have qy : ((y : Int) == 45) = false := by simp; omega
        have v1 : IntKind.i64.wrap ((l.length : Int)) = (l.length : Int) := IntWalk.i64_in _ (by omega)
        have v2 : IntKind.i64.wrap ((s.length : Int)) = (s.length : Int) := IntWalk.i64_in _ (by omega)
        have z1 : decide (16 < (l.length : Int)) = true := by simp; omega
        have hf := b3 (.inl (by omega))
        have HF := Lib.hid hf
        clear hf b2 b3 b4 hl0 hl hA hok hy hi
        go_enter Tryd.func49, Tryd.ntmps49
        go_wp2_with (first
          | (go_at_call 43; refine HS.out.mono ?_; rintro e w' ⟨rfl, rfl⟩))
        go_ret
        exact ⟨by rw [HF.out]; rfl, hB⟩
      · rcases Nat.lt_or_ge 63 (s.length + 0) with h63 | h63
        · have qA : (A == []) = true := by simpa using hA
          have hsl := fun wx => HSl.out wx
          have ql : (l == []) = false := by simpa using hl
          have hl0 : 0 < l.length := List.length_pos_iff.2 hl
          obtain ⟨i, hi⟩ : ∃ i, l.length = i + 1 := ⟨l.length - 1, by omega⟩
          rw [show l.length - 1 = i by omega] at hy
          have hix := fun wx => HI.out i (by omega) wx
          generalize (l.getD i 0).toNat = y at *
          have f1 : (l.length : Int) - 1 = (i : Int) := by omega
          have f2 : (0 : Int) ≤ (i : Int) ∧ (i : Int) < (l.length : Int) := by omega
          have w3 : IntKind.i64.wrap (i : Int) = (i : Int) := IntWalk.i64_in _ (by omega)
          have qy : ((y : Int) == 45) = false := by simp; omega
          have v1 : IntKind.i64.wrap ((l.length : Int)) = (l.length : Int) := IntWalk.i64_in _ (by omega)
          have v2 : IntKind.i64.wrap ((s.length : Int)) = (s.length : Int) := IntWalk.i64_in _ (by omega)
          have z1 : decide (16 < (l.length : Int)) = false := by simp; omega
          have z2 : decide (63 < (s.length : Int)) = true := by simp; omega
          have hf := b3 (.inr (by omega))
          have HF := Lib.hid hf
          clear hf b2 b3 b4 hl0 hl hA hok hy hi
          go_enter Tryd.func49, Tryd.ntmps49
          go_wp2_with (first
            | (go_at_call 43; refine HS.out.mono ?_; rintro e w' ⟨rfl, rfl⟩))
          go_ret
          exact ⟨by rw [HF.out]; rfl, hB⟩
        · have qA : (A == []) = true := by simpa using hA
          have hsl := fun wx => HSl.out wx
          have ql : (l == []) = false := by simpa using hl
          have hl0 : 0 < l.length := List.length_pos_iff.2 hl
          obtain ⟨i, hi⟩ : ∃ i, l.length = i + 1 := ⟨l.length - 1, by omega⟩
          rw [show l.length - 1 = i by omega] at hy
          have hix := fun wx => HI.out i (by omega) wx
          generalize (l.getD i 0).toNat = y at *
          have f1 : (l.length : Int) - 1 = (i : Int) := by omega
          have f2 : (0 : Int) ≤ (i : Int) ∧ (i : Int) < (l.length : Int) := by omega
          have w3 : IntKind.i64.wrap (i : Int) = (i : Int) := IntWalk.i64_in _ (by omega)
          have qy : ((y : Int) == 45) = false := by simp; omega
          have v1 : IntKind.i64.wrap ((l.length : Int)) = (l.length : Int) := IntWalk.i64_in _ (by omega)
          have v2 : IntKind.i64.wrap ((s.length : Int)) = (s.length : Int) := IntWalk.i64_in _ (by omega)
          have z1 : decide (16 < (l.length : Int)) = false := by simp; omega
          have z2 : decide (63 < (s.length : Int)) = false := by simp; omega
          have hf := b4 h8' hok (by omega)
          have HF := Lib.hid hf
          have HX := Lib.hid (HFin.out (by omega))
          have hsa : ∀ wx, (Instr.slice 9 (.string ⟨#[97]⟩) none (some (.int .i64 0)) none).run Tryd.prog wx = .ok (.string (bs (([97] : List UInt8).take 0))) wx := fun wx => bs_take [97] 0 (by decide) wx
          have s5 : (bs (([97] : List UInt8).take 0)).size = 0 := rfl
          have c1 : bs l ++ bs (([97] : List UInt8).take 0) = bs (l ++ ([97] : List UInt8).take 0) := bs_cat2 _ _
          generalize hX : ([97] : List UInt8).take 0 = X at *
          obtain ⟨lx, hlx⟩ : ∃ z, z = l ++ X := ⟨_, rfl⟩
          rw [← hlx] at c1 HX HF
          clear hf b2 b3 b4 hl0 hX hlx HFin hl hA hok hy hi
          cases hfin : nmOk lx
          all_goals
            rw [hfin] at HX HF
            clear hfin
            go_enter Tryd.func49, Tryd.ntmps49
            go_wp2_with (first
              | (go_at_call 43; refine HS.out.mono ?_; rintro e w' ⟨rfl, rfl⟩)
              | (go_at_call 18; refine (HX.out _ HG1.out).mono ?_; rintro e w3 ⟨rfl, hB3⟩))
            go_ret
            exact ⟨by rw [HF.out]; rfl, hB.trans (hB3.mono hB.size)⟩
  · rcases hcs with ⟨hl, rfl⟩ | ⟨hl, hy, rfl⟩ | ⟨hl, hy, rfl⟩
    · rcases Nat.lt_or_ge 16 (l.length + 1) with h16 | h16
      · rw [hl] at h16; simp at h16
      · rcases Nat.lt_or_ge 63 (s.length + 1) with h63 | h63
        · have qA : (A == []) = false := by simpa using hA
          have hsl := fun wx => HSl.out wx
          have ql : (l == []) = true := by simpa using hl
          have hl0 : l.length = 0 := by rw [hl]; rfl
          have hL0 := Lib.hid hl0
          have v1 : IntKind.i64.wrap ((l.length : Int) + 1) = (l.length : Int) + 1 := IntWalk.i64_in _ (by omega)
          have v2 : IntKind.i64.wrap ((s.length : Int) + 1) = (s.length : Int) + 1 := IntWalk.i64_in _ (by omega)
          have z1 : decide (16 < (l.length : Int) + 1) = false := by simp; omega
          have z2 : decide (63 < (s.length : Int) + 1) = true := by simp; omega
          have hf := b3 (.inr (by omega))
          have HF := Lib.hid hf
          clear hf b2 b3 b4 hl0 hl hA hok
          go_enter Tryd.func49, Tryd.ntmps49
          go_wp2_with (first
            | (go_at_call 43; refine HS.out.mono ?_; rintro e w' ⟨rfl, rfl⟩)
            | (go_at_call 58; refine (HT.out _).mono ?_; rintro e w' ⟨rfl, rfl⟩)
            | (go_at_call 18; refine HN.out.mono ?_; rintro e w2 ⟨rfl, hB2⟩))
          go_ret
          exact ⟨by rw [HF.out]; rfl, hB.trans (hB2.mono hB.size)⟩
        · have qA : (A == []) = false := by simpa using hA
          have hsl := fun wx => HSl.out wx
          have ql : (l == []) = true := by simpa using hl
          have hl0 : l.length = 0 := by rw [hl]; rfl
          have hL0 := Lib.hid hl0
          have v1 : IntKind.i64.wrap ((l.length : Int) + 1) = (l.length : Int) + 1 := IntWalk.i64_in _ (by omega)
          have v2 : IntKind.i64.wrap ((s.length : Int) + 1) = (s.length : Int) + 1 := IntWalk.i64_in _ (by omega)
          have z1 : decide (16 < (l.length : Int) + 1) = false := by simp; omega
          have z2 : decide (63 < (s.length : Int) + 1) = false := by simp; omega
          have hf := b4 h8' hok (by omega)
          have HF := Lib.hid hf
          have HX := Lib.hid (HFin.out (by omega))
          have hsa : ∀ wx, (Instr.slice 9 (.string ⟨#[97]⟩) none (some (.int .i64 1)) none).run Tryd.prog wx = .ok (.string (bs (([97] : List UInt8).take 1))) wx := fun wx => bs_take [97] 1 (by decide) wx
          have s5 : (bs (([97] : List UInt8).take 1)).size = 1 := rfl
          have c1 : bs l ++ bs (([97] : List UInt8).take 1) = bs (l ++ ([97] : List UInt8).take 1) := bs_cat2 _ _
          generalize hX : ([97] : List UInt8).take 1 = X at *
          obtain ⟨lx, hlx⟩ : ∃ z, z = l ++ X := ⟨_, rfl⟩
          rw [← hlx] at c1 HX HF
          clear hf b2 b3 b4 hl0 hX hlx HFin hl hA hok
          cases hfin : nmOk lx
          all_goals
            rw [hfin] at HX HF
            clear hfin
            go_enter Tryd.func49, Tryd.ntmps49
            go_wp2_with (first
              | (go_at_call 43; refine HS.out.mono ?_; rintro e w' ⟨rfl, rfl⟩)
              | (go_at_call 58; refine (HT.out _).mono ?_; rintro e w' ⟨rfl, rfl⟩)
              | (go_at_call 18; first
                | ((with_reducible refine HN.out.mono ?_); rintro e w2 ⟨rfl, hB2⟩; have hg2 := HG1.out.below hB2 (Nat.le_refl _))
                | ((with_reducible refine (HX.out _ hg2).mono ?_); rintro e w3 ⟨rfl, hB3⟩)))
            go_ret
            have h2 := hB.trans (hB2.mono hB.size)
            exact ⟨by rw [HF.out]; rfl, h2.trans (hB3.mono h2.size)⟩
    · rcases Nat.lt_or_ge 16 (l.length + 1) with h16 | h16
      · have qA : (A == []) = false := by simpa using hA
        have hsl := fun wx => HSl.out wx
        have ql : (l == []) = false := by simpa using hl
        have hl0 : 0 < l.length := List.length_pos_iff.2 hl
        obtain ⟨i, hi⟩ : ∃ i, l.length = i + 1 := ⟨l.length - 1, by omega⟩
        rw [show l.length - 1 = i by omega] at hy
        have hix := fun wx => HI.out i (by omega) wx
        generalize (l.getD i 0).toNat = y at *
        have f1 : (l.length : Int) - 1 = (i : Int) := by omega
        have f2 : (0 : Int) ≤ (i : Int) ∧ (i : Int) < (l.length : Int) := by omega
        have w3 : IntKind.i64.wrap (i : Int) = (i : Int) := IntWalk.i64_in _ (by omega)
        have qy : ((y : Int) == 45) = true := by simp; omega
        have v1 : IntKind.i64.wrap ((l.length : Int) + 1) = (l.length : Int) + 1 := IntWalk.i64_in _ (by omega)
        have v2 : IntKind.i64.wrap ((s.length : Int) + 1) = (s.length : Int) + 1 := IntWalk.i64_in _ (by omega)
        have z1 : decide (16 < (l.length : Int) + 1) = true := by simp; omega
        have hf := b3 (.inl (by omega))
        have HF := Lib.hid hf
        clear hf b2 b3 b4 hl0 hl hA hok hy hi
        go_enter Tryd.func49, Tryd.ntmps49
        go_wp2_with (first
          | (go_at_call 43; refine HS.out.mono ?_; rintro e w' ⟨rfl, rfl⟩)
          | (go_at_call 58; refine (HT.out _).mono ?_; rintro e w' ⟨rfl, rfl⟩)
          | (go_at_call 18; refine HN.out.mono ?_; rintro e w2 ⟨rfl, hB2⟩))
        go_ret
        exact ⟨by rw [HF.out]; rfl, hB.trans (hB2.mono hB.size)⟩
      · rcases Nat.lt_or_ge 63 (s.length + 1) with h63 | h63
        · have qA : (A == []) = false := by simpa using hA
          have hsl := fun wx => HSl.out wx
          have ql : (l == []) = false := by simpa using hl
          have hl0 : 0 < l.length := List.length_pos_iff.2 hl
          obtain ⟨i, hi⟩ : ∃ i, l.length = i + 1 := ⟨l.length - 1, by omega⟩
          rw [show l.length - 1 = i by omega] at hy
          have hix := fun wx => HI.out i (by omega) wx
          generalize (l.getD i 0).toNat = y at *
          have f1 : (l.length : Int) - 1 = (i : Int) := by omega
          have f2 : (0 : Int) ≤ (i : Int) ∧ (i : Int) < (l.length : Int) := by omega
          have w3 : IntKind.i64.wrap (i : Int) = (i : Int) := IntWalk.i64_in _ (by omega)
          have qy : ((y : Int) == 45) = true := by simp; omega
          have v1 : IntKind.i64.wrap ((l.length : Int) + 1) = (l.length : Int) + 1 := IntWalk.i64_in _ (by omega)
          have v2 : IntKind.i64.wrap ((s.length : Int) + 1) = (s.length : Int) + 1 := IntWalk.i64_in _ (by omega)
          have z1 : decide (16 < (l.length : Int) + 1) = false := by simp; omega
          have z2 : decide (63 < (s.length : Int) + 1) = true := by simp; omega
          have hf := b3 (.inr (by omega))
          have HF := Lib.hid hf
          clear hf b2 b3 b4 hl0 hl hA hok hy hi
          go_enter Tryd.func49, Tryd.ntmps49
          go_wp2_with (first
            | (go_at_call 43; refine HS.out.mono ?_; rintro e w' ⟨rfl, rfl⟩)
            | (go_at_call 58; refine (HT.out _).mono ?_; rintro e w' ⟨rfl, rfl⟩)
            | (go_at_call 18; refine HN.out.mono ?_; rintro e w2 ⟨rfl, hB2⟩))
          go_ret
          exact ⟨by rw [HF.out]; rfl, hB.trans (hB2.mono hB.size)⟩
        · have qA : (A == []) = false := by simpa using hA
          have hsl := fun wx => HSl.out wx
          have ql : (l == []) = false := by simpa using hl
          have hl0 : 0 < l.length := List.length_pos_iff.2 hl
          obtain ⟨i, hi⟩ : ∃ i, l.length = i + 1 := ⟨l.length - 1, by omega⟩
          rw [show l.length - 1 = i by omega] at hy
          have hix := fun wx => HI.out i (by omega) wx
          generalize (l.getD i 0).toNat = y at *
          have f1 : (l.length : Int) - 1 = (i : Int) := by omega
          have f2 : (0 : Int) ≤ (i : Int) ∧ (i : Int) < (l.length : Int) := by omega
          have w3 : IntKind.i64.wrap (i : Int) = (i : Int) := IntWalk.i64_in _ (by omega)
          have qy : ((y : Int) == 45) = true := by simp; omega
          have v1 : IntKind.i64.wrap ((l.length : Int) + 1) = (l.length : Int) + 1 := IntWalk.i64_in _ (by omega)
          have v2 : IntKind.i64.wrap ((s.length : Int) + 1) = (s.length : Int) + 1 := IntWalk.i64_in _ (by omega)
          have z1 : decide (16 < (l.length : Int) + 1) = false := by simp; omega
          have z2 : decide (63 < (s.length : Int) + 1) = false := by simp; omega
          have hf := b4 h8' hok (by omega)
          have HF := Lib.hid hf
          have HX := Lib.hid (HFin.out (by omega))
          have hsa : ∀ wx, (Instr.slice 9 (.string ⟨#[97]⟩) none (some (.int .i64 1)) none).run Tryd.prog wx = .ok (.string (bs (([97] : List UInt8).take 1))) wx := fun wx => bs_take [97] 1 (by decide) wx
          have s5 : (bs (([97] : List UInt8).take 1)).size = 1 := rfl
          have c1 : bs l ++ bs (([97] : List UInt8).take 1) = bs (l ++ ([97] : List UInt8).take 1) := bs_cat2 _ _
          generalize hX : ([97] : List UInt8).take 1 = X at *
          obtain ⟨lx, hlx⟩ : ∃ z, z = l ++ X := ⟨_, rfl⟩
          rw [← hlx] at c1 HX HF
          clear hf b2 b3 b4 hl0 hX hlx HFin hl hA hok hy hi
          cases hfin : nmOk lx
          all_goals
            rw [hfin] at HX HF
            clear hfin
            go_enter Tryd.func49, Tryd.ntmps49
            go_wp2_with (first
              | (go_at_call 43; refine HS.out.mono ?_; rintro e w' ⟨rfl, rfl⟩)
              | (go_at_call 58; refine (HT.out _).mono ?_; rintro e w' ⟨rfl, rfl⟩)
              | (go_at_call 18; first
                | ((with_reducible refine HN.out.mono ?_); rintro e w2 ⟨rfl, hB2⟩; have hg2 := HG1.out.below hB2 (Nat.le_refl _))
                | ((with_reducible refine (HX.out _ hg2).mono ?_); rintro e w3 ⟨rfl, hB3⟩)))
            go_ret
            have h2 := hB.trans (hB2.mono hB.size)
            exact ⟨by rw [HF.out]; rfl, h2.trans (hB3.mono h2.size)⟩
    · rcases Nat.lt_or_ge 16 (l.length + 0) with h16 | h16
      · have qA : (A == []) = false := by simpa using hA
        have hsl := fun wx => HSl.out wx
        have ql : (l == []) = false := by simpa using hl
        have hl0 : 0 < l.length := List.length_pos_iff.2 hl
        obtain ⟨i, hi⟩ : ∃ i, l.length = i + 1 := ⟨l.length - 1, by omega⟩
        rw [show l.length - 1 = i by omega] at hy
        have hix := fun wx => HI.out i (by omega) wx
        generalize (l.getD i 0).toNat = y at *
        have f1 : (l.length : Int) - 1 = (i : Int) := by omega
        have f2 : (0 : Int) ≤ (i : Int) ∧ (i : Int) < (l.length : Int) := by omega
        have w3 : IntKind.i64.wrap (i : Int) = (i : Int) := IntWalk.i64_in _ (by omega)
        have qy : ((y : Int) == 45) = false := by simp; omega
        have v1 : IntKind.i64.wrap ((l.length : Int)) = (l.length : Int) := IntWalk.i64_in _ (by omega)
        have v2 : IntKind.i64.wrap ((s.length : Int)) = (s.length : Int) := IntWalk.i64_in _ (by omega)
        have z1 : decide (16 < (l.length : Int)) = true := by simp; omega
        have hf := b3 (.inl (by omega))
        have HF := Lib.hid hf
        clear hf b2 b3 b4 hl0 hl hA hok hy hi
        go_enter Tryd.func49, Tryd.ntmps49
        go_wp2_with (first
          | (go_at_call 43; refine HS.out.mono ?_; rintro e w' ⟨rfl, rfl⟩)
          | (go_at_call 58; refine (HT.out _).mono ?_; rintro e w' ⟨rfl, rfl⟩)
          | (go_at_call 18; refine HN.out.mono ?_; rintro e w2 ⟨rfl, hB2⟩))
        go_ret
        exact ⟨by rw [HF.out]; rfl, hB.trans (hB2.mono hB.size)⟩
      · rcases Nat.lt_or_ge 63 (s.length + 0) with h63 | h63
        · have qA : (A == []) = false := by simpa using hA
          have hsl := fun wx => HSl.out wx
          have ql : (l == []) = false := by simpa using hl
          have hl0 : 0 < l.length := List.length_pos_iff.2 hl
          obtain ⟨i, hi⟩ : ∃ i, l.length = i + 1 := ⟨l.length - 1, by omega⟩
          rw [show l.length - 1 = i by omega] at hy
          have hix := fun wx => HI.out i (by omega) wx
          generalize (l.getD i 0).toNat = y at *
          have f1 : (l.length : Int) - 1 = (i : Int) := by omega
          have f2 : (0 : Int) ≤ (i : Int) ∧ (i : Int) < (l.length : Int) := by omega
          have w3 : IntKind.i64.wrap (i : Int) = (i : Int) := IntWalk.i64_in _ (by omega)
          have qy : ((y : Int) == 45) = false := by simp; omega
          have v1 : IntKind.i64.wrap ((l.length : Int)) = (l.length : Int) := IntWalk.i64_in _ (by omega)
          have v2 : IntKind.i64.wrap ((s.length : Int)) = (s.length : Int) := IntWalk.i64_in _ (by omega)
          have z1 : decide (16 < (l.length : Int)) = false := by simp; omega
          have z2 : decide (63 < (s.length : Int)) = true := by simp; omega
          have hf := b3 (.inr (by omega))
          have HF := Lib.hid hf
          clear hf b2 b3 b4 hl0 hl hA hok hy hi
          go_enter Tryd.func49, Tryd.ntmps49
          go_wp2_with (first
            | (go_at_call 43; refine HS.out.mono ?_; rintro e w' ⟨rfl, rfl⟩)
            | (go_at_call 58; refine (HT.out _).mono ?_; rintro e w' ⟨rfl, rfl⟩)
            | (go_at_call 18; refine HN.out.mono ?_; rintro e w2 ⟨rfl, hB2⟩))
          go_ret
          exact ⟨by rw [HF.out]; rfl, hB.trans (hB2.mono hB.size)⟩
        · have qA : (A == []) = false := by simpa using hA
          have hsl := fun wx => HSl.out wx
          have ql : (l == []) = false := by simpa using hl
          have hl0 : 0 < l.length := List.length_pos_iff.2 hl
          obtain ⟨i, hi⟩ : ∃ i, l.length = i + 1 := ⟨l.length - 1, by omega⟩
          rw [show l.length - 1 = i by omega] at hy
          have hix := fun wx => HI.out i (by omega) wx
          generalize (l.getD i 0).toNat = y at *
          have f1 : (l.length : Int) - 1 = (i : Int) := by omega
          have f2 : (0 : Int) ≤ (i : Int) ∧ (i : Int) < (l.length : Int) := by omega
          have w3 : IntKind.i64.wrap (i : Int) = (i : Int) := IntWalk.i64_in _ (by omega)
          have qy : ((y : Int) == 45) = false := by simp; omega
          have v1 : IntKind.i64.wrap ((l.length : Int)) = (l.length : Int) := IntWalk.i64_in _ (by omega)
          have v2 : IntKind.i64.wrap ((s.length : Int)) = (s.length : Int) := IntWalk.i64_in _ (by omega)
          have z1 : decide (16 < (l.length : Int)) = false := by simp; omega
          have z2 : decide (63 < (s.length : Int)) = false := by simp; omega
          have hf := b4 h8' hok (by omega)
          have HF := Lib.hid hf
          have HX := Lib.hid (HFin.out (by omega))
          have hsa : ∀ wx, (Instr.slice 9 (.string ⟨#[97]⟩) none (some (.int .i64 0)) none).run Tryd.prog wx = .ok (.string (bs (([97] : List UInt8).take 0))) wx := fun wx => bs_take [97] 0 (by decide) wx
          have s5 : (bs (([97] : List UInt8).take 0)).size = 0 := rfl
          have c1 : bs l ++ bs (([97] : List UInt8).take 0) = bs (l ++ ([97] : List UInt8).take 0) := bs_cat2 _ _
          generalize hX : ([97] : List UInt8).take 0 = X at *
          obtain ⟨lx, hlx⟩ : ∃ z, z = l ++ X := ⟨_, rfl⟩
          rw [← hlx] at c1 HX HF
          clear hf b2 b3 b4 hl0 hX hlx HFin hl hA hok hy hi
          cases hfin : nmOk lx
          all_goals
            rw [hfin] at HX HF
            clear hfin
            go_enter Tryd.func49, Tryd.ntmps49
            go_wp2_with (first
              | (go_at_call 43; refine HS.out.mono ?_; rintro e w' ⟨rfl, rfl⟩)
              | (go_at_call 58; refine (HT.out _).mono ?_; rintro e w' ⟨rfl, rfl⟩)
              | (go_at_call 18; first
                | ((with_reducible refine HN.out.mono ?_); rintro e w2 ⟨rfl, hB2⟩; have hg2 := HG1.out.below hB2 (Nat.le_refl _))
                | ((with_reducible refine (HX.out _ hg2).mono ?_); rintro e w3 ⟨rfl, hB3⟩)))
            go_ret
            have h2 := hB.trans (hB2.mono hB.size)
            exact ⟨by rw [HF.out]; rfl, h2.trans (hB3.mono h2.size)⟩
end Go.Proofs.YtfphfljndhideaaDoor
