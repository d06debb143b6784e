/- LabelUnder: the walk. -/
import Derived.Test.YtfphfljndhideaaDoorQ
set_option linter.unusedVariables false
set_option linter.unusedSimpArgs false
namespace Go.Proofs.YtfphfljndhideaaDoor
open Go.RowKit Jw Lab

set_option maxHeartbeats 1000000 in
theorem underLaw_flat (x y : List UInt8) (L : List (List UInt8)) (v : Value) (w : World) (hr : Rs w v L) (hno : ∀ n c, v = .slice none n c → n = 0 ∧ c = 0) (hL : ∀ p ∈ L, p.length ≤ 9223372036854775807) (a : Addr) (m : Int) (hg : Gl w a m)
    (h1 : x.length ≤ 200) (h2 : y.length ≤ 200) (h3 : L.length ≤ 30) (hx : patOk x = true) (hy : patOk y = true) (hw : wld x = false) :
    Calls Tryd.prog 7 #[.string (bs x), .string (bs y), v] w fun e w' => e = .returned (.bool true) ∧ Below w.heap.size w w' := by
  have s1 : (bs x).size = x.length := rfl
  have s2 : (bs y).size = y.length := rfl
  have HR := Lib.hid hr
  obtain ⟨ao, cap, rfl, hao⟩ := hr
  have HAO := Lib.hid hao
  have HNO := Lib.hid hno
  have HL := Lib.hid hL
  have HG := Lib.hid hg
  have HA := Lib.hid (alive_any w a m hg)
  have q1 : decide (200 < (x.length : Int)) = false := by simp; omega
  have q2 : decide (200 < (y.length : Int)) = false := by simp; omega
  have q3 : decide (30 < (L.length : Int)) = false := by simp; omega
  have HU := Lib.hid (fun w2 (h : Gl w2 a m) => under_any x y (by omega) (by omega) a m w2 h)
  have HP1 := Lib.hid (rpat_good x (by omega) hx)
  have HP2 := Lib.hid (rpat_good y (by omega) hy)
  have HLaw := Lib.hid (under_law L hx hy)
  have HFin := Lib.hid (show ∀ w1 w2 w3 w4, Below w.heap.size w w1 → Below w1.heap.size w1 w2 → Below w2.heap.size w2 w3 → Below w3.heap.size w3 w4 → Below w.heap.size w w4 from fun w1 w2 w3 w4 b1 b2 b3 b4 => by
    have h2 := b1.trans (b2.mono b1.size)
    have h3 := h2.trans (b3.mono h2.size)
    exact h3.trans (b4.mono h3.size))
  have H3 := Lib.hid h3
  have htl := tl_le x
  have HX := Lib.hid (fun n (hn : n.length < 4294967281) w2 (h : Gl w2 a m) => fits_any x n (by omega) hn a m w2 h)
  have HY := Lib.hid (fun n (hn : n.length < 4294967281) w2 (h : Gl w2 a m) => fits_any y n (by omega) hn a m w2 h)
  have HNl := Lib.hid (tried_len L x h1)
  have HNc := Lib.hid (tried_count L x)
  obtain ⟨t, ht⟩ : ∃ t, t = tl x := ⟨_, rfl⟩
  have htr : tried L x = if wld x then nms (L ++ [[97], [98], [48]]) t else [x] := by rw [tried, ht]
  rw [← ht] at HP1 htl
  have s3 : (bs t).size = t.length := rfl
  have s4 : t.length ≤ 4294967281 := by omega
  have HT := Lib.hid htl
  obtain ⟨N, hN⟩ : ∃ N, N = tried L x := ⟨_, rfl⟩
  rw [← hN] at HLaw htr HNl HNc
  obtain ⟨i0, hi, hz0, hz1, hz2⟩ := info_parts' info9
  rw [hw] at HP1 htr
  have HTR := Lib.hid htr
  generalize undr x y = un at *
  generalize wld y = wy at *
  generalize tl y = ty at *
  clear hg hao hno hL h1 h2 h3 hx hy ht htr hN htl
  go_enter Tryd.func7, Tryd.ntmps7
  rw [if_neg (by simp)] at HTR
  go_upto_region 19 with (first
     | (go_at_call 13; refine HA.out.mono ?_; rintro e w1 ⟨rfl, hB⟩; have hg1 := HG.out.below hB (Nat.le_refl _))
     | (go_at_call 24; refine (HU.out _ hg1).mono ?_; rintro e w2 ⟨rfl, hB2⟩)
     | (go_at_call 20; first
       | ((with_reducible refine (HP1.out _).mono ?_); rintro e w3 ⟨rfl, hB3⟩)
       | ((with_reducible refine (HP2.out _).mono ?_); rintro e w4 ⟨rfl, hB4⟩; have hB5 := HFin.out _ _ _ _ hB hB2 hB3 hB4; clear hB hB2 hB3 hB4 hg1 q1 q2 q3 HU HP1 HP2 HA HFin)))
  obtain ⟨wN, hwN⟩ : ∃ wN, wN = w4.alloc (.cells (strs [x]) 9) := ⟨_, rfl⟩
  have hRN : Rs wN (.slice (some ⟨w4.heap.size, 0, none⟩) 1 1) N := by
    rw [HTR.out, hwN]
    exact ⟨_, 1, rfl, fun _ => ⟨w4.heap.size, 0, rfl, (blk_new w4 (strs [x]) 9).lt, fun k hk => by
      rw [Nat.zero_add]
      exact (blk_new w4 (strs [x]) 9).cell k _ (strs_at [x] k hk)⟩⟩
  have hBN : Below w.heap.size w wN := by rw [hwN]; exact hB5.alloc hB5.size _
  show Code.wp _ _ _ _ (w4.alloc (.cells (strs [x]) 9))
  rw [← hwN]
  clear hwN hB5
  generalize Value.slice (some ⟨w4.heap.size, 0, none⟩) 1 1 = vN at hRN ⊢
  have HRN := Lib.hid hRN
  obtain ⟨aoN, capN, rfl, haN⟩ := hRN
  have HAN := Lib.hid haN
  have HBN := Lib.hid hBN
  have hN33 : N.length ≤ 33 := by have := HNc.out; have := H3.out; omega
  clear haN hBN
  go_upto_region 21 with fail
  go_loopw [17, 18, 20, 86] (fun al so _ i wr => ∃ (k : Nat), k ≤ N.length ∧ i = n64 k ∧ al = .bool (alln x y (N.take k)) ∧ so = .bool (somen x (N.take k)) ∧ Below wN.heap.size wN wr) (fun _ _ _ i _ => N.length - (intOf i).toNat)
  case atStart => exact ⟨0, by omega, rfl, rfl, rfl, Below.refl _ _⟩
  case round =>
    obtain ⟨k, hk, rfl, rfl, rfl, hB⟩ := hrel
    by_cases hlk : k < N.length
    · obtain ⟨b, off, rfl, hb, hc⟩ := HAN.out (by omega)
      have hx := (hB.cell (p := ⟨b, off + k, none⟩) hb).trans (hc k hlk)
      obtain ⟨n, hn⟩ : ∃ n, n = N.getD k [] := ⟨_, rfl⟩
      have hnl : n.length < 4294967281 := HNl.out n (hn ▸ getD_mem N k [] hlk)
      have f1 := alln_snoc x y N k hlk
      have f2 := somen_snoc x N k hlk
      rw [← hn] at hx f1 f2
      have ck : ((k : Int) + 1) ≤ 4294967290 := by omega
      have hgr := (HG.out.below HBN.out (Nat.le_refl _)).below hB (Nat.le_refl _)
      have HF1 := Lib.hid (HX.out n hnl wr hgr)
      have HF2 := Lib.hid (fun w2 (h2 : Gl w2 a m) => HY.out n hnl w2 h2)
      have HGr := Lib.hid hgr
      have HC := Lib.hid hc
      generalize alln x y (N.take k) = A at *
      generalize somen x (N.take k) = S at *
      clear hc hn hnl hgr
      cases hf : fits x n with
      | false =>
        rw [hf] at HF1 f1 f2
        have hz1 : alln x y (N.take (k + 1)) = A := by rw [f1]; simp
        have hz2 : somen x (N.take (k + 1)) = S := by rw [f2]; simp
        have HZ1 := Lib.hid hz1
        have HZ2 := Lib.hid hz2
        clear hf f1 f2 hz1 hz2
        go_wp2_with (go_at_call 14; refine HF1.out.mono ?_; rintro e w6 ⟨rfl, hB6⟩)
        go_roundw
        case rel => exact ⟨k + 1, by omega, by go_num, by rw [HZ1.out], by rw [HZ2.out], hB.trans (hB6.mono hB.size)⟩
        case measure => simp [intOf]; omega
      | true =>
        rw [hf] at HF1 f1 f2
        have hz2 : somen x (N.take (k + 1)) = true := by rw [f2]; simp
        have HZ2 := Lib.hid hz2
        cases A with
        | false =>
          have hz1 : alln x y (N.take (k + 1)) = false := by rw [f1]; simp
          have HZ1 := Lib.hid hz1
          clear hf f1 f2 hz1 hz2
          go_wp2_with (go_at_call 14; refine HF1.out.mono ?_; rintro e w6 ⟨rfl, hB6⟩)
          go_roundw
          case rel => exact ⟨k + 1, by omega, by go_num, by rw [HZ1.out], by rw [HZ2.out], hB.trans (hB6.mono hB.size)⟩
          case measure => simp [intOf]; omega
        | true =>
          have hz1 : alln x y (N.take (k + 1)) = fits y n := by rw [f1]; simp
          have HZ1 := Lib.hid hz1
          clear hf f1 f2 hz1 hz2
          go_wp2_with (go_at_call 14; first
            | ((with_reducible refine HF1.out.mono ?_); rintro e w6 ⟨rfl, hB6⟩; have hg6 := HGr.out.below hB6 (Nat.le_refl _))
            | ((with_reducible refine (HF2.out _ hg6).mono ?_); rintro e w7 ⟨rfl, hB7⟩))
          have hB8 := hB.trans (hB6.mono hB.size)
          go_roundw
          case rel => exact ⟨k + 1, by omega, by go_num, by rw [HZ1.out], by rw [HZ2.out], hB8.trans (hB7.mono hB8.size)⟩
          case measure => simp [intOf]; omega
    · obtain rfl : k = N.length := by omega
      have law := HLaw.out
      have hBB := HBN.out.trans (hB.mono HBN.out.size)
      rw [List.take_length]
      generalize alln x y N = A at *
      generalize somen x N = S at *
      clear HLaw HAN HNl HX HY
      cases un with
      | true =>
        obtain rfl := law.1 rfl
        clear law
        go_wp2
        go_ret
        exact ⟨rfl, hBB⟩
      | false =>
        obtain ⟨rfl, rfl⟩ := law.2 rfl
        clear law
        go_wp2
        go_ret
        exact ⟨rfl, hBB⟩

set_option maxHeartbeats 1000000 in
theorem underLaw_wild (x y : List UInt8) (L : List (List UInt8)) (v : Value) (w : World) (hr : Rs w v L) (hno : ∀ n c, v = .slice none n c → n = 0 ∧ c = 0) (hL : ∀ p ∈ L, p.length ≤ 9223372036854775807) (a : Addr) (m : Int) (hg : Gl w a m)
    (h1 : x.length ≤ 200) (h2 : y.length ≤ 200) (h3 : L.length ≤ 30) (hx : patOk x = true) (hy : patOk y = true) (hw : wld x = true) :
    Calls Tryd.prog 7 #[.string (bs x), .string (bs y), v] w fun e w' => e = .returned (.bool true) ∧ Below w.heap.size w w' := by
  have s1 : (bs x).size = x.length := rfl
  have s2 : (bs y).size = y.length := rfl
  have HR := Lib.hid hr
  obtain ⟨ao, cap, rfl, hao⟩ := hr
  have HAO := Lib.hid hao
  have HNO := Lib.hid hno
  have HL := Lib.hid hL
  have HG := Lib.hid hg
  have HA := Lib.hid (alive_any w a m hg)
  have q1 : decide (200 < (x.length : Int)) = false := by simp; omega
  have q2 : decide (200 < (y.length : Int)) = false := by simp; omega
  have q3 : decide (30 < (L.length : Int)) = false := by simp; omega
  have HU := Lib.hid (fun w2 (h : Gl w2 a m) => under_any x y (by omega) (by omega) a m w2 h)
  have HP1 := Lib.hid (rpat_good x (by omega) hx)
  have HP2 := Lib.hid (rpat_good y (by omega) hy)
  have HLaw := Lib.hid (under_law L hx hy)
  have HFin := Lib.hid (show ∀ w1 w2 w3 w4, Below w.heap.size w w1 → Below w1.heap.size w1 w2 → Below w2.heap.size w2 w3 → Below w3.heap.size w3 w4 → Below w.heap.size w w4 from fun w1 w2 w3 w4 b1 b2 b3 b4 => by
    have h2 := b1.trans (b2.mono b1.size)
    have h3 := h2.trans (b3.mono h2.size)
    exact h3.trans (b4.mono h3.size))
  have H3 := Lib.hid h3
  have htl := tl_le x
  have HX := Lib.hid (fun n (hn : n.length < 4294967281) w2 (h : Gl w2 a m) => fits_any x n (by omega) hn a m w2 h)
  have HY := Lib.hid (fun n (hn : n.length < 4294967281) w2 (h : Gl w2 a m) => fits_any y n (by omega) hn a m w2 h)
  have HNl := Lib.hid (tried_len L x h1)
  have HNc := Lib.hid (tried_count L x)
  obtain ⟨t, ht⟩ : ∃ t, t = tl x := ⟨_, rfl⟩
  have htr : tried L x = if wld x then nms (L ++ [[97], [98], [48]]) t else [x] := by rw [tried, ht]
  rw [← ht] at HP1 htl
  have s3 : (bs t).size = t.length := rfl
  have s4 : t.length ≤ 4294967281 := by omega
  have HT := Lib.hid htl
  obtain ⟨N, hN⟩ : ∃ N, N = tried L x := ⟨_, rfl⟩
  rw [← hN] at HLaw htr HNl HNc
  obtain ⟨i0, hi, hz0, hz1, hz2⟩ := info_parts' info9
  rw [hw] at HP1 htr
  have HTR := Lib.hid htr
  generalize undr x y = un at *
  generalize wld y = wy at *
  generalize tl y = ty at *
  clear hg hao hno hL h1 h2 h3 hx hy ht htr hN htl
  go_enter Tryd.func7, Tryd.ntmps7
  rw [if_pos rfl] at HTR
  go_upto_region 13 with (first
     | (go_at_call 13; refine HA.out.mono ?_; rintro e w1 ⟨rfl, hB⟩; have hg1 := HG.out.below hB (Nat.le_refl _))
     | (go_at_call 24; refine (HU.out _ hg1).mono ?_; rintro e w2 ⟨rfl, hB2⟩)
     | (go_at_call 20; first
       | ((with_reducible refine (HP1.out _).mono ?_); rintro e w3 ⟨rfl, hB3⟩)
       | ((with_reducible refine (HP2.out _).mono ?_); rintro e w4 ⟨rfl, hB4⟩; have hB5 := HFin.out _ _ _ _ hB hB2 hB3 hB4; clear hB hB2 hB3 hB4 hg1 q1 q2 q3 HU HP1 HP2 HA HFin)))
  have e1 : (w4.alloc (.cells (strs [x]) 9)).heap.size = w4.heap.size + 1 := by simp
  obtain ⟨wA, hwA⟩ : ∃ wA, wA = (w4.alloc (.cells (strs [x]) 9)).alloc (.cells (strs []) 9) := ⟨_, rfl⟩
  have hg0 : w4.heap.size + 2 ≤ wA.heap.size := by rw [hwA]; simp
  have hOn : wA.ownsRow w.heap.size 9 1 (.slice (some ⟨w4.heap.size + 1, 0, none⟩) 0 0) 0 (sv []) := by
    rw [hwA, ← e1]
    exact ⟨rfl, .inr ⟨_, 0, strs [], rfl, by have := hB5.size; omega, blk_new _ _ _, Nat.le_refl _, by decide, rfl, rfl⟩⟩
  have hBA : Below w.heap.size w wA := by rw [hwA]; exact (hB5.alloc hB5.size _).alloc (by have := hB5.size; omega) _
  have hO1 : (wA.alloc (.cells (strs []) 9)).ownsRow wA.heap.size 9 1 (.slice (some ⟨wA.heap.size, 0, none⟩) 0 0) 0 (sv []) :=
    ⟨rfl, .inr ⟨_, 0, strs [], rfl, Nat.le_refl _, blk_new _ _ _, Nat.le_refl _, by decide, rfl, rfl⟩⟩
  have hBA2 := hBA.alloc hBA.size (.cells (strs []) 9)
  have hOn2 := hOn.alloc (.cells (strs []) 9)
  show Code.wp _ _ _ _ ((w4.alloc (.cells (strs [x]) 9)).alloc (.cells (strs []) 9))
  rw [← hwA]
  have hA0 := hBA.size
  have HO1 := Lib.hid hO1
  have HOn2 := Lib.hid hOn2
  clear hwA hB5 e1 hOn hBA hO1 hOn2
  cases ao with
  | none =>
    obtain ⟨hl0, rfl⟩ := HNO.out _ _ rfl
    have HL0 := Lib.hid hl0
    clear hl0
    have hO2 : (wA.alloc (.cells (strs []) 9)).ownsRow wA.heap.size 9 1 (.slice (some ⟨wA.heap.size, 0, none⟩) 0 0) L.length (sv L) := by
      rw [HL0.out, List.eq_nil_of_length_eq_zero HL0.out]
      exact HO1.out
    have hOn5 := HOn2.out
    have hB5' := hBA2
    have h5s : wA.heap.size ≤ (wA.alloc (.cells (strs []) 9)).heap.size := by simp
    clear HOn2 hBA2
    have HO2 := Lib.hid hO2
    have HOn5 := Lib.hid hOn5
    clear hO2 hOn5
    go_wp2_with (at_builtin; first | refine wpList_append_own_none rfl (.tmp 63) (.tmp 64) 24 rfl wA.heap.size 9 i0 1 Tryd.underlying24 hi _ 0 _ rfl HO1.out (by show Value.slice none L.length 0 = _; rw [HL0.out]) ?_ | refine wpList_append_own _ rfl (.tmp 65) (.tmp 66) 24 rfl wA.heap.size 9 i0 _ 1 16 Tryd.underlying24 hi hz0 hz1 hz2 rfl (by decide) _ L.length _ rfl (HO2.out.alloc _) ⟨wA.heap.size + 1, 0, none⟩ 3 3 (sv [[97], [98], [48]]) rfl rfl ?c1 ?c2 ?c3 ?c4 ?c5 ?_)
    case c1 =>
      intro j u hj
      have hk := blk_new (wA.alloc (.cells (strs []) 9)) (strs [[97], [98], [48]]) 9
      rw [show (wA.alloc (.cells (strs []) 9)).heap.size = wA.heap.size + 1 by simp] at hk
      rw [addr_add, Nat.zero_add]
      exact hk.cell j u (by simpa [strs, sv] using hj)
    case c2 => intro u hu; simp [sv] at hu; rcases hu with rfl | rfl | rfl <;> rfl
    case c3 => have := H3.out; unfold maxLen; omega
    case c4 => have := H3.out; omega
    case c5 => simp; omega
    · intro v6 w6 hown6 hgrow6 _
      have hB6 := (hB5'.alloc hB5'.size (.cells (strs [[97], [98], [48]]) 9)).grown hgrow6 (by have := hB5'.size; simp; omega) (fun g hg => by have := own_base HO2.out g hg; omega)
      have hOn6 := (HOn5.out.alloc (.cells (strs [[97], [98], [48]]) 9)).kept hgrow6 (.inr (fun e => by have := (show wA.heap.size ≤ w4.heap.size + 1 from own_base HO2.out _ e.symm); omega))
      obtain ⟨gM, capM, rfl, hgM, hgMl⟩ := hown6.form (by omega)
      generalize hml : L.length + 3 = ml at hown6 ⊢
      obtain ⟨M, hM⟩ : ∃ M, M = L ++ [[97], [98], [48]] := ⟨_, rfl⟩
      have hMl : M.length = ml := by rw [hM, ← hml]; simp
      have hOM : w6.ownsRow wA.heap.size 9 1 (.slice (some ⟨gM, 0, none⟩) (ml) capM) (ml) (sv M) := by rw [hM]; simpa [sv] using hown6
      rw [← hM] at HTR
      have hM9 : ∀ p ∈ M, p.length ≤ 9223372036854775807 := fun p hp => by
        rw [hM] at hp
        rcases List.mem_append.1 hp with h | h
        · exact HL.out p h
        · simp only [List.mem_cons, List.not_mem_nil, or_false] at h
          rcases h with rfl | rfl | rfl <;> simp
      have HM9 := Lib.hid hM9
      have hM33 : ml ≤ 33 := by have := H3.out; omega
      have HMl := Lib.hid hMl
      have hgg : w4.heap.size + 1 ≠ gM := by omega
      clear hown6 hgrow6 hM HL HOn5 HO2 hM9 hml hMl
      go_upto_region 14 with fail
      go_loopw [14, 16, 69] (fun v _ i wr => ∃ (k : Nat), k ≤ ml ∧ i = n64 k ∧ wr.ownsRow w.heap.size 9 1 v (nms (M.take k) t).length (sv (nms (M.take k) t)) ∧ v.ownBlock ≠ some gM ∧ wr.ownsRow wA.heap.size 9 1 (.slice (some ⟨gM, 0, none⟩) (ml) capM) (ml) (sv M) ∧ Below w.heap.size w wr) (fun _ _ i _ => ml - (intOf i).toNat)
      case atStart => exact ⟨0, by omega, rfl, by exact hOn6, (fun e => hgg (Option.some.inj e)), by exact hOM, by exact hB6⟩
      case round =>
        clear hOn6 hOM hB6
        obtain ⟨k, hk, rfl, hown, hne, hOM, hB⟩ := hrel
        have HB := Lib.hid hB
        by_cases hlk : k < ml
        · have hlk' : k < M.length := by have := HMl.out; omega
          have hx := ((own_cell hOM k hlk).1).trans (sv_at M k hlk')
          obtain ⟨h, hh⟩ : ∃ h, h = M.getD k [] := ⟨_, rfl⟩
          have hhl : h.length ≤ 9223372036854775807 := HM9.out h (hh ▸ getD_mem M k [] hlk')
          have hsn := nms_snoc M t k hlk'
          rw [← hh] at hx hsn
          have s5 : (bs h).size = h.length := rfl
          have ck : ((k : Int) + 1) ≤ 4294967290 := by omega
          have hle : (nms (M.take k) t).length ≤ 33 := by
            have := nms_le (M.take k) t
            have h2 := List.length_take_le k M
            omega
          have HOM := Lib.hid hOM
          clear hOM hh
          by_cases h100 : h.length < 100
          · rw [if_pos h100] at hsn
            have q : decide ((h.length : Int) < 100) = true := by simp; omega
            have c1 : bs h ++ (⟨#[46]⟩ : ByteArray) = bs (h ++ [46]) := bs_cat h [46]
            have c2 : bs (h ++ [46]) ++ bs t = bs (h ++ 46 :: t) := by rw [bs_cat]; simp
            have s6 : (bs (h ++ [46])).size = h.length + 1 := by rw [bs_size]; simp
            have s7 : h.length ≤ 4294967281 := by omega
            obtain ⟨ht2, hht⟩ : ∃ z, z = h ++ 46 :: t := ⟨_, rfl⟩
            rw [← hht] at c2 hsn
            obtain ⟨A, hA⟩ : ∃ A, A = nms (M.take k) t := ⟨_, rfl⟩
            rw [← hA] at hown hsn hle
            have HO := Lib.hid hown
            have HS := Lib.hid hsn
            have HNE := Lib.hid hne
            have HLE := Lib.hid hle
            clear h100 hhl hown hsn hht hA hne hle hlk'
            go_wp2_with (at_builtin; refine wpList_append_lies _ rfl (.tmp 76) (.tmp 81) 24 rfl w.heap.size 9 i0 _ 1 16 Tryd.underlying24 hi hz0 hz1 hz2 rfl (by decide) _ A.length _ rfl (HO.out.alloc _) ⟨wr.heap.size, 0, none⟩ 1 1 (sv [ht2]) rfl rfl ?c1 ?c2 (by decide) ?c3 ?c4 ?c5 _ rfl ?_)
            case c1 => intro j u hj; rw [addr_add, Nat.zero_add]; exact (blk_new wr (strs [ht2]) 9).cell j u (by simpa [strs, sv] using hj)
            case c2 => intro u hu; simp [sv] at hu; rw [hu]; rfl
            case c3 => have := HLE.out; unfold maxLen; omega
            case c4 => have := HLE.out; omega
            case c5 => have := HB.out.size; simp; omega
            · intro g cap' w7 hown7 hgrow7 hat _
              have hB7 := (HB.out.alloc HB.out.size (.cells (strs [ht2]) 9)).grown hgrow7 (by have := HB.out.size; simp; omega) (fun g hg => own_base HO.out g hg)
              have hOM7 := (HOM.out.alloc (.cells (strs [ht2]) 9)).kept hgrow7 (.inr (fun e => HNE.out e.symm))
              have hne7 : g ≠ gM := by
                rintro rfl
                rcases hat with e | e
                · exact HNE.out e
                · have := (HOM.out.lt g rfl).2
                  omega
              have HW := Lib.hid hown7
              clear hown7 hgrow7 hat
              go_wp2_with fail
              go_roundw
              case rel =>
                refine ⟨k + 1, by omega, by go_num, ?_, (fun e => hne7 (Option.some.inj e)), hOM7, hB7⟩
                rw [HS.out]
                have := HW.out
                simpa [sv] using this
              case measure => simp [intOf]; omega
          · rw [if_neg h100] at hsn
            have q : decide ((h.length : Int) < 100) = false := by simp; omega
            have HS := Lib.hid hsn
            have HO := Lib.hid hown
            clear h100 hhl hown hsn hle hlk'
            go_wp2_with fail
            go_roundw
            case rel => exact ⟨k + 1, by omega, by go_num, by rw [HS.out]; exact HO.out, hne, HOM.out, HB.out⟩
            case measure => simp [intOf]; omega
        · obtain rfl : k = ml := by omega
          rw [List.take_of_length_le (by have := HMl.out; omega), ← HTR.out] at hown
          have hRN := Rs.own hown
          obtain ⟨wN, hwN⟩ : ∃ wN, wN = wr := ⟨_, rfl⟩
          rw [← hwN] at hRN hB ⊢
          have hBN := hB
          clear hown hOM hne HB hB hwN
          have HRN := Lib.hid hRN
          obtain ⟨aoN, capN, rfl, haN⟩ := hRN
          have HAN := Lib.hid haN
          have HBN := Lib.hid hBN
          have hN33 : N.length ≤ 33 := by have := HNc.out; have := H3.out; omega
          clear haN hBN
          go_upto_region 21 with fail
          go_loopw [17, 18, 20, 86] (fun al so _ i wr => ∃ (k : Nat), k ≤ N.length ∧ i = n64 k ∧ al = .bool (alln x y (N.take k)) ∧ so = .bool (somen x (N.take k)) ∧ Below wN.heap.size wN wr) (fun _ _ _ i _ => N.length - (intOf i).toNat)
          case atStart => exact ⟨0, by omega, rfl, rfl, rfl, Below.refl _ _⟩
          case round =>
            obtain ⟨k, hk, rfl, rfl, rfl, hB⟩ := hrel
            by_cases hlk : k < N.length
            · obtain ⟨b, off, rfl, hb, hc⟩ := HAN.out (by omega)
              have hx := (hB.cell (p := ⟨b, off + k, none⟩) hb).trans (hc k hlk)
              obtain ⟨n, hn⟩ : ∃ n, n = N.getD k [] := ⟨_, rfl⟩
              have hnl : n.length < 4294967281 := HNl.out n (hn ▸ getD_mem N k [] hlk)
              have f1 := alln_snoc x y N k hlk
              have f2 := somen_snoc x N k hlk
              rw [← hn] at hx f1 f2
              have ck : ((k : Int) + 1) ≤ 4294967290 := by omega
              have hgr := (HG.out.below HBN.out (Nat.le_refl _)).below hB (Nat.le_refl _)
              have HF1 := Lib.hid (HX.out n hnl wr hgr)
              have HF2 := Lib.hid (fun w2 (h2 : Gl w2 a m) => HY.out n hnl w2 h2)
              have HGr := Lib.hid hgr
              have HC := Lib.hid hc
              generalize alln x y (N.take k) = A at *
              generalize somen x (N.take k) = S at *
              clear hc hn hnl hgr
              cases hf : fits x n with
              | false =>
                rw [hf] at HF1 f1 f2
                have hz1 : alln x y (N.take (k + 1)) = A := by rw [f1]; simp
                have hz2 : somen x (N.take (k + 1)) = S := by rw [f2]; simp
                have HZ1 := Lib.hid hz1
                have HZ2 := Lib.hid hz2
                clear hf f1 f2 hz1 hz2
                go_wp2_with (go_at_call 14; refine HF1.out.mono ?_; rintro e w6 ⟨rfl, hB6⟩)
                go_roundw
                case rel => exact ⟨k + 1, by omega, by go_num, by rw [HZ1.out], by rw [HZ2.out], hB.trans (hB6.mono hB.size)⟩
                case measure => simp [intOf]; omega
              | true =>
                rw [hf] at HF1 f1 f2
                have hz2 : somen x (N.take (k + 1)) = true := by rw [f2]; simp
                have HZ2 := Lib.hid hz2
                cases A with
                | false =>
                  have hz1 : alln x y (N.take (k + 1)) = false := by rw [f1]; simp
                  have HZ1 := Lib.hid hz1
                  clear hf f1 f2 hz1 hz2
                  go_wp2_with (go_at_call 14; refine HF1.out.mono ?_; rintro e w6 ⟨rfl, hB6⟩)
                  go_roundw
                  case rel => exact ⟨k + 1, by omega, by go_num, by rw [HZ1.out], by rw [HZ2.out], hB.trans (hB6.mono hB.size)⟩
                  case measure => simp [intOf]; omega
                | true =>
                  have hz1 : alln x y (N.take (k + 1)) = fits y n := by rw [f1]; simp
                  have HZ1 := Lib.hid hz1
                  clear hf f1 f2 hz1 hz2
                  go_wp2_with (go_at_call 14; first
                    | ((with_reducible refine HF1.out.mono ?_); rintro e w6 ⟨rfl, hB6⟩; have hg6 := HGr.out.below hB6 (Nat.le_refl _))
                    | ((with_reducible refine (HF2.out _ hg6).mono ?_); rintro e w7 ⟨rfl, hB7⟩))
                  have hB8 := hB.trans (hB6.mono hB.size)
                  go_roundw
                  case rel => exact ⟨k + 1, by omega, by go_num, by rw [HZ1.out], by rw [HZ2.out], hB8.trans (hB7.mono hB8.size)⟩
                  case measure => simp [intOf]; omega
            · obtain rfl : k = N.length := by omega
              have law := HLaw.out
              have hBB := HBN.out.trans (hB.mono HBN.out.size)
              rw [List.take_length]
              generalize alln x y N = A at *
              generalize somen x N = S at *
              clear HLaw HAN HNl HX HY
              cases un with
              | true =>
                obtain rfl := law.1 rfl
                clear law
                go_wp2
                go_ret
                exact ⟨rfl, hBB⟩
              | false =>
                obtain ⟨rfl, rfl⟩ := law.2 rfl
                clear law
                go_wp2
                go_ret
                exact ⟨rfl, hBB⟩
  | some ad =>
    have hcell : ∀ j u, (sv L)[j]? = some u → (wA.alloc (.cells (strs []) 9)).cell? (ad.add j) = some u := fun j u hj => by
      have hjl : j < L.length := by
        have := (List.getElem?_eq_some_iff.1 hj).1
        simpa [sv] using this
      rw [sv_at L j hjl] at hj
      obtain ⟨b, off, hbo, hb, hc⟩ := HAO.out (by omega)
      obtain rfl : ad = ⟨b, off, none⟩ := Option.some.inj hbo
      rw [addr_add, (hBA2.cell (p := ⟨b, off + j, none⟩) hb).trans (hc j hjl)]
      exact hj
    have HCell := Lib.hid hcell
    clear hcell
    go_wp2_with (at_builtin; refine wpList_append_own _ rfl (.tmp 63) (.tmp 64) 24 rfl wA.heap.size 9 i0 _ 1 16 Tryd.underlying24 hi hz0 hz1 hz2 rfl (by decide) _ 0 _ rfl HO1.out ad L.length cap (sv L) rfl (by simp [sv]) ?d1 ?d2 ?d3 ?d4 ?d5 ?_)
    case d1 => exact HCell.out
    case d2 => intro u hu; obtain ⟨p, _, rfl⟩ := List.mem_map.1 hu; rfl
    case d3 => have := H3.out; unfold maxLen; omega
    case d4 => have := H3.out; omega
    case d5 => simp
    intro v5 w5 hown5 hgrow5 _
    have hO2 : w5.ownsRow wA.heap.size 9 1 v5 L.length (sv L) := by simpa [sv] using hown5
    have hB5' := hBA2.grown hgrow5 (by simp; omega) (fun g hg => by simp [Value.ownBlock] at hg; omega)
    have hOn5 := HOn2.out.kept hgrow5 (.inr (fun e => by simp [Value.ownBlock] at e; omega))
    have h5s : wA.heap.size ≤ w5.heap.size := by have := hgrow5.size; simp at this; omega
    clear hown5 hgrow5 HO1 HOn2 hBA2 HCell
    have HO2 := Lib.hid hO2
    have HOn5 := Lib.hid hOn5
    clear hO2 hOn5
    go_wp2_with (at_builtin; refine wpList_append_own _ rfl (.tmp 65) (.tmp 66) 24 rfl wA.heap.size 9 i0 _ 1 16 Tryd.underlying24 hi hz0 hz1 hz2 rfl (by decide) _ L.length _ rfl (HO2.out.alloc _) ⟨w5.heap.size, 0, none⟩ 3 3 (sv [[97], [98], [48]]) rfl rfl ?c1 ?c2 ?c3 ?c4 ?c5 ?_)
    case c1 =>
      intro j u hj
      have hk := blk_new w5 (strs [[97], [98], [48]]) 9
      rw [show w5.heap.size = w5.heap.size by simp] at hk
      rw [addr_add, Nat.zero_add]
      exact hk.cell j u (by simpa [strs, sv] using hj)
    case c2 => intro u hu; simp [sv] at hu; rcases hu with rfl | rfl | rfl <;> rfl
    case c3 => have := H3.out; unfold maxLen; omega
    case c4 => have := H3.out; omega
    case c5 => simp; omega
    · intro v6 w6 hown6 hgrow6 _
      have hB6 := (hB5'.alloc hB5'.size (.cells (strs [[97], [98], [48]]) 9)).grown hgrow6 (by have := hB5'.size; simp; omega) (fun g hg => by have := own_base HO2.out g hg; omega)
      have hOn6 := (HOn5.out.alloc (.cells (strs [[97], [98], [48]]) 9)).kept hgrow6 (.inr (fun e => by have := (show wA.heap.size ≤ w4.heap.size + 1 from own_base HO2.out _ e.symm); omega))
      obtain ⟨gM, capM, rfl, hgM, hgMl⟩ := hown6.form (by omega)
      generalize hml : L.length + 3 = ml at hown6 ⊢
      obtain ⟨M, hM⟩ : ∃ M, M = L ++ [[97], [98], [48]] := ⟨_, rfl⟩
      have hMl : M.length = ml := by rw [hM, ← hml]; simp
      have hOM : w6.ownsRow wA.heap.size 9 1 (.slice (some ⟨gM, 0, none⟩) (ml) capM) (ml) (sv M) := by rw [hM]; simpa [sv] using hown6
      rw [← hM] at HTR
      have hM9 : ∀ p ∈ M, p.length ≤ 9223372036854775807 := fun p hp => by
        rw [hM] at hp
        rcases List.mem_append.1 hp with h | h
        · exact HL.out p h
        · simp only [List.mem_cons, List.not_mem_nil, or_false] at h
          rcases h with rfl | rfl | rfl <;> simp
      have HM9 := Lib.hid hM9
      have hM33 : ml ≤ 33 := by have := H3.out; omega
      have HMl := Lib.hid hMl
      have hgg : w4.heap.size + 1 ≠ gM := by omega
      clear hown6 hgrow6 hM HL HOn5 HO2 hM9 hml hMl
      go_upto_region 14 with fail
      go_loopw [14, 16, 69] (fun v _ i wr => ∃ (k : Nat), k ≤ ml ∧ i = n64 k ∧ wr.ownsRow w.heap.size 9 1 v (nms (M.take k) t).length (sv (nms (M.take k) t)) ∧ v.ownBlock ≠ some gM ∧ wr.ownsRow wA.heap.size 9 1 (.slice (some ⟨gM, 0, none⟩) (ml) capM) (ml) (sv M) ∧ Below w.heap.size w wr) (fun _ _ i _ => ml - (intOf i).toNat)
      case atStart => exact ⟨0, by omega, rfl, by exact hOn6, (fun e => hgg (Option.some.inj e)), by exact hOM, by exact hB6⟩
      case round =>
        clear hOn6 hOM hB6
        obtain ⟨k, hk, rfl, hown, hne, hOM, hB⟩ := hrel
        have HB := Lib.hid hB
        by_cases hlk : k < ml
        · have hlk' : k < M.length := by have := HMl.out; omega
          have hx := ((own_cell hOM k hlk).1).trans (sv_at M k hlk')
          obtain ⟨h, hh⟩ : ∃ h, h = M.getD k [] := ⟨_, rfl⟩
          have hhl : h.length ≤ 9223372036854775807 := HM9.out h (hh ▸ getD_mem M k [] hlk')
          have hsn := nms_snoc M t k hlk'
          rw [← hh] at hx hsn
          have s5 : (bs h).size = h.length := rfl
          have ck : ((k : Int) + 1) ≤ 4294967290 := by omega
          have hle : (nms (M.take k) t).length ≤ 33 := by
            have := nms_le (M.take k) t
            have h2 := List.length_take_le k M
            omega
          have HOM := Lib.hid hOM
          clear hOM hh
          by_cases h100 : h.length < 100
          · rw [if_pos h100] at hsn
            have q : decide ((h.length : Int) < 100) = true := by simp; omega
            have c1 : bs h ++ (⟨#[46]⟩ : ByteArray) = bs (h ++ [46]) := bs_cat h [46]
            have c2 : bs (h ++ [46]) ++ bs t = bs (h ++ 46 :: t) := by rw [bs_cat]; simp
            have s6 : (bs (h ++ [46])).size = h.length + 1 := by rw [bs_size]; simp
            have s7 : h.length ≤ 4294967281 := by omega
            obtain ⟨ht2, hht⟩ : ∃ z, z = h ++ 46 :: t := ⟨_, rfl⟩
            rw [← hht] at c2 hsn
            obtain ⟨A, hA⟩ : ∃ A, A = nms (M.take k) t := ⟨_, rfl⟩
            rw [← hA] at hown hsn hle
            have HO := Lib.hid hown
            have HS := Lib.hid hsn
            have HNE := Lib.hid hne
            have HLE := Lib.hid hle
            clear h100 hhl hown hsn hht hA hne hle hlk'
            go_wp2_with (at_builtin; refine wpList_append_lies _ rfl (.tmp 76) (.tmp 81) 24 rfl w.heap.size 9 i0 _ 1 16 Tryd.underlying24 hi hz0 hz1 hz2 rfl (by decide) _ A.length _ rfl (HO.out.alloc _) ⟨wr.heap.size, 0, none⟩ 1 1 (sv [ht2]) rfl rfl ?c1 ?c2 (by decide) ?c3 ?c4 ?c5 _ rfl ?_)
            case c1 => intro j u hj; rw [addr_add, Nat.zero_add]; exact (blk_new wr (strs [ht2]) 9).cell j u (by simpa [strs, sv] using hj)
            case c2 => intro u hu; simp [sv] at hu; rw [hu]; rfl
            case c3 => have := HLE.out; unfold maxLen; omega
            case c4 => have := HLE.out; omega
            case c5 => have := HB.out.size; simp; omega
            · intro g cap' w7 hown7 hgrow7 hat _
              have hB7 := (HB.out.alloc HB.out.size (.cells (strs [ht2]) 9)).grown hgrow7 (by have := HB.out.size; simp; omega) (fun g hg => own_base HO.out g hg)
              have hOM7 := (HOM.out.alloc (.cells (strs [ht2]) 9)).kept hgrow7 (.inr (fun e => HNE.out e.symm))
              have hne7 : g ≠ gM := by
                rintro rfl
                rcases hat with e | e
                · exact HNE.out e
                · have := (HOM.out.lt g rfl).2
                  omega
              have HW := Lib.hid hown7
              clear hown7 hgrow7 hat
              go_wp2_with fail
              go_roundw
              case rel =>
                refine ⟨k + 1, by omega, by go_num, ?_, (fun e => hne7 (Option.some.inj e)), hOM7, hB7⟩
                rw [HS.out]
                have := HW.out
                simpa [sv] using this
              case measure => simp [intOf]; omega
          · rw [if_neg h100] at hsn
            have q : decide ((h.length : Int) < 100) = false := by simp; omega
            have HS := Lib.hid hsn
            have HO := Lib.hid hown
            clear h100 hhl hown hsn hle hlk'
            go_wp2_with fail
            go_roundw
            case rel => exact ⟨k + 1, by omega, by go_num, by rw [HS.out]; exact HO.out, hne, HOM.out, HB.out⟩
            case measure => simp [intOf]; omega
        · obtain rfl : k = ml := by omega
          rw [List.take_of_length_le (by have := HMl.out; omega), ← HTR.out] at hown
          have hRN := Rs.own hown
          obtain ⟨wN, hwN⟩ : ∃ wN, wN = wr := ⟨_, rfl⟩
          rw [← hwN] at hRN hB ⊢
          have hBN := hB
          clear hown hOM hne HB hB hwN
          have HRN := Lib.hid hRN
          obtain ⟨aoN, capN, rfl, haN⟩ := hRN
          have HAN := Lib.hid haN
          have HBN := Lib.hid hBN
          have hN33 : N.length ≤ 33 := by have := HNc.out; have := H3.out; omega
          clear haN hBN
          go_upto_region 21 with fail
          go_loopw [17, 18, 20, 86] (fun al so _ i wr => ∃ (k : Nat), k ≤ N.length ∧ i = n64 k ∧ al = .bool (alln x y (N.take k)) ∧ so = .bool (somen x (N.take k)) ∧ Below wN.heap.size wN wr) (fun _ _ _ i _ => N.length - (intOf i).toNat)
          case atStart => exact ⟨0, by omega, rfl, rfl, rfl, Below.refl _ _⟩
          case round =>
            obtain ⟨k, hk, rfl, rfl, rfl, hB⟩ := hrel
            by_cases hlk : k < N.length
            · obtain ⟨b, off, rfl, hb, hc⟩ := HAN.out (by omega)
              have hx := (hB.cell (p := ⟨b, off + k, none⟩) hb).trans (hc k hlk)
              obtain ⟨n, hn⟩ : ∃ n, n = N.getD k [] := ⟨_, rfl⟩
              have hnl : n.length < 4294967281 := HNl.out n (hn ▸ getD_mem N k [] hlk)
              have f1 := alln_snoc x y N k hlk
              have f2 := somen_snoc x N k hlk
              rw [← hn] at hx f1 f2
              have ck : ((k : Int) + 1) ≤ 4294967290 := by omega
              have hgr := (HG.out.below HBN.out (Nat.le_refl _)).below hB (Nat.le_refl _)
              have HF1 := Lib.hid (HX.out n hnl wr hgr)
              have HF2 := Lib.hid (fun w2 (h2 : Gl w2 a m) => HY.out n hnl w2 h2)
              have HGr := Lib.hid hgr
              have HC := Lib.hid hc
              generalize alln x y (N.take k) = A at *
              generalize somen x (N.take k) = S at *
              clear hc hn hnl hgr
              cases hf : fits x n with
              | false =>
                rw [hf] at HF1 f1 f2
                have hz1 : alln x y (N.take (k + 1)) = A := by rw [f1]; simp
                have hz2 : somen x (N.take (k + 1)) = S := by rw [f2]; simp
                have HZ1 := Lib.hid hz1
                have HZ2 := Lib.hid hz2
                clear hf f1 f2 hz1 hz2
                go_wp2_with (go_at_call 14; refine HF1.out.mono ?_; rintro e w6 ⟨rfl, hB6⟩)
                go_roundw
                case rel => exact ⟨k + 1, by omega, by go_num, by rw [HZ1.out], by rw [HZ2.out], hB.trans (hB6.mono hB.size)⟩
                case measure => simp [intOf]; omega
              | true =>
                rw [hf] at HF1 f1 f2
                have hz2 : somen x (N.take (k + 1)) = true := by rw [f2]; simp
                have HZ2 := Lib.hid hz2
                cases A with
                | false =>
                  have hz1 : alln x y (N.take (k + 1)) = false := by rw [f1]; simp
                  have HZ1 := Lib.hid hz1
                  clear hf f1 f2 hz1 hz2
                  go_wp2_with (go_at_call 14; refine HF1.out.mono ?_; rintro e w6 ⟨rfl, hB6⟩)
                  go_roundw
                  case rel => exact ⟨k + 1, by omega, by go_num, by rw [HZ1.out], by rw [HZ2.out], hB.trans (hB6.mono hB.size)⟩
                  case measure => simp [intOf]; omega
                | true =>
                  have hz1 : alln x y (N.take (k + 1)) = fits y n := by rw [f1]; simp
                  have HZ1 := Lib.hid hz1
                  clear hf f1 f2 hz1 hz2
                  go_wp2_with (go_at_call 14; first
                    | ((with_reducible refine HF1.out.mono ?_); rintro e w6 ⟨rfl, hB6⟩; have hg6 := HGr.out.below hB6 (Nat.le_refl _))
                    | ((with_reducible refine (HF2.out _ hg6).mono ?_); rintro e w7 ⟨rfl, hB7⟩))
                  have hB8 := hB.trans (hB6.mono hB.size)
                  go_roundw
                  case rel => exact ⟨k + 1, by omega, by go_num, by rw [HZ1.out], by rw [HZ2.out], hB8.trans (hB7.mono hB8.size)⟩
                  case measure => simp [intOf]; omega
            · obtain rfl : k = N.length := by omega
              have law := HLaw.out
              have hBB := HBN.out.trans (hB.mono HBN.out.size)
              rw [List.take_length]
              generalize alln x y N = A at *
              generalize somen x N = S at *
              clear HLaw HAN HNl HX HY
              cases un with
              | true =>
                obtain rfl := law.1 rfl
                clear law
                go_wp2
                go_ret
                exact ⟨rfl, hBB⟩
              | false =>
                obtain ⟨rfl, rfl⟩ := law.2 rfl
                clear law
                go_wp2
                go_ret
                exact ⟨rfl, hBB⟩

theorem underLaw_walk (x y : List UInt8) (L : List (List UInt8)) (v : Value) (w : World) (hr : Rs w v L) (hno : ∀ n c, v = .slice none n c → n = 0 ∧ c = 0) (hL : ∀ p ∈ L, p.length ≤ 9223372036854775807) (a : Addr) (m : Int) (hg : Gl w a m) :
    Calls Tryd.prog 7 #[.string (bs x), .string (bs y), v] w fun e w' => e = .returned (.bool true) ∧ Below w.heap.size w w' := by
  by_cases h : 200 < x.length ∨ 200 < y.length ∨ 30 < L.length
  · exact underLaw_no x y L v w hr a m hg h
  have h1 : x.length ≤ 200 := Nat.le_of_not_lt fun e => h (.inl e)
  have h2 : y.length ≤ 200 := Nat.le_of_not_lt fun e => h (.inr (.inl e))
  have h3 : L.length ≤ 30 := Nat.le_of_not_lt fun e => h (.inr (.inr e))
  cases hb : patOk x && patOk y with
  | false => exact underLaw_bad x y L v w hr a m hg h1 h2 h3 hb
  | true =>
    rw [Bool.and_eq_true] at hb
    cases hw : wld x with
    | false => exact underLaw_flat x y L v w hr hno hL a m hg h1 h2 h3 hb.1 hb.2 hw
    | true => exact underLaw_wild x y L v w hr hno hL a m hg h1 h2 h3 hb.1 hb.2 hw
end Go.Proofs.YtfphfljndhideaaDoor
