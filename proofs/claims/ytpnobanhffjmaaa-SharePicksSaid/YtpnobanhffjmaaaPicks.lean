/- SharePicks: the walk. -/
import Derived.Test.YtpnobanhffjmaaaR2
import Derived.Laws.AppendOwnNone
set_option linter.unusedVariables false
set_option linter.unusedSimpArgs false
namespace Go.Proofs.Ytpnobanhffjmaaa
open Go.RowKit Jw Go.Deep
attribute [local go_sem] run_store_float max2_mx min2_mn max_mx min_mn

theorem make_cap (i0 : TypeInfo) (hi : Try.prog.info? 27 = some i0) (hz0 : i0.zero = some (.agg #[.float .f64 0, .float .f64 0])) (hz1 : i0.size = 2) (hz2 : i0.bytes = 16) (n : Nat) (hn : n ≤ 1000) (wx : World) :
    (Instr.makeSlice 24 (.int .i64 0) (.int .i64 ((n : Int) + 2))).run Try.prog wx = .ok (.slice (some ⟨wx.heap.size, 0, none⟩) 0 (n + 2)) (wx.alloc (.cells (madeCells #[fl 0, fl 0] ((n + 2) * 2)) 27)) := by
  have h := run_make (P := Try.prog) wx 24 27 i0 _ Try.underlying24 hi hz0 .i64 .i64 0 ((n : Int) + 2) (by omega) (by omega) (by rw [hz2]; omega) (by omega)
  rw [hz1, show ((n : Int) + 2).toNat = n + 2 from by omega] at h
  exact h
theorem made_own (w : World) (base n : Nat) (h : base ≤ w.heap.size) (hn : n ≤ 1000) : (w.alloc (.cells (madeCells #[fl 0, fl 0] ((n + 2) * 2)) 27)).ownsRow base 27 2 (.slice (some ⟨w.heap.size, 0, none⟩) 0 (n + 2)) 0 [] :=
  ⟨rfl, .inr ⟨w.heap.size, n + 2, _, rfl, h, blk_new w _ 27, Nat.zero_le _, by unfold maxLen; omega, by rw [size_madeCells], by simp⟩⟩

/-- What lies behind the list. -/
def tl2 : List (Nat × Nat) := [(4613937818241073152, 0), (0, 4616189618054758400)]

theorem shs_news {w : World} {b off : Nat} {l : List (Nat × Nat)} (hc : ∀ k, k < l.length → w.cell? ⟨b, off + k * 2, none⟩ = some (fl (l.getD k (0, 0)).1) ∧ w.cell? ⟨b, off + k * 2 + 1, none⟩ = some (fl (l.getD k (0, 0)).2)) :
    ∀ j u, (shs l)[j]? = some u → w.cell? ((⟨b, off, none⟩ : Addr).add j) = some u := by
  intro j u hj
  have hj' : j < l.length * 2 := by
    have := shs_length l
    rcases Nat.lt_or_ge j (shs l).length with h | h
    · omega
    · rw [List.getElem?_eq_none h] at hj; cases hj
  have hq := shs_at l (j / 2) (by omega)
  have hcq := hc (j / 2) (by omega)
  rw [addr_add]
  rcases Nat.mod_two_eq_zero_or_one j with h | h
  · have : j = j / 2 * 2 := by omega
    rw [this] at hj
    rw [hq.1] at hj
    cases hj
    rw [this]
    have e2 : j / 2 * 2 / 2 = j / 2 := by omega
    rw [e2]
    exact hcq.1
  · have : j = j / 2 * 2 + 1 := by omega
    rw [this] at hj
    rw [hq.2] at hj
    cases hj
    rw [this, ← Nat.add_assoc]
    have e2 : (j / 2 * 2 + 1) / 2 = j / 2 := by omega
    rw [e2]
    exact hcq.2

theorem news4 {w : World} {a b c d : Value} {t : TypeId} : ∀ j u, [a, b, c, d][j]? = some u → (w.alloc (.cells #[a, b, c, d] t)).cell? ((⟨w.heap.size, 0, none⟩ : Addr).add j) = some u := by
  intro j u hj
  rw [addr_add, Nat.zero_add]
  exact (blk_new w #[a, b, c, d] t).cell j u (by simpa using hj)

set_option maxRecDepth 100000 in
set_option maxHeartbeats 2000000 in
theorem picks_walk (w : World) (ao : Option Addr) (l : List (Nat × Nat)) (cap : Nat) (hp : RdS w (.slice ao l.length cap) l) (hlen : l.length ≤ 9223372036854775807) :
    Calls Try.prog 6 #[.slice ao l.length cap] w fun e w' => e = .returned (.bool true) ∧ Below w.heap.size w w' := by
  have HR := Lib.hid hp
  clear hp
  obtain ⟨i0, hi, hz0, hz1, hz2⟩ := info_parts info27
  go_enter Try.func6, Try.ntmps6
  go_wp2_with fail
  refine (alive_yes w).mono ?_
  rintro e w1 ⟨rfl, hB⟩
  by_cases hlong : 500 < l.length
  · go_wp2
    go_ret
    exact ⟨rfl, hB⟩
  have hlb : decide ((500 : Int) < (l.length : Int)) = false := by simp; omega
  go_upto_region 5 with fail
  have HR1 := Lib.hid (HR.out.below hB (Nat.le_refl _))
  have HRw := HR
  go_cut [3] (fun s wx => wx.ownsRow w.heap.size 27 2 s (l.length + 2) (shs (l ++ tl2)) ∧ Below w.heap.size w wx)
  case first =>
    obtain ⟨n, hn⟩ : ∃ n, n = l.length := ⟨_, rfl⟩
    have hmk := make_cap i0 hi hz0 hz1 hz2 n (by omega)
    have hO := made_own w1 w.heap.size n hB.size (by omega)
    have hB1 := hB.alloc hB.size (.cells (madeCells #[fl 0, fl 0] ((n + 2) * 2)) 27)
    have hzb := blk_new w1 (madeCells #[fl 0, fl 0] ((n + 2) * 2)) 27
    obtain ⟨cs, ecs⟩ : ∃ cs, cs = madeCells #[fl 0, fl 0] ((n + 2) * 2) := ⟨_, rfl⟩
    rw [← ecs] at hmk hO hB1 hzb
    rw [hn] at hmk hO
    have HO := Lib.hid hO
    have hsz := hB.size
    clear ecs hn hO hzb
    obtain ⟨ao', cap', e1, h0, hrd⟩ := HR1.out
    obtain ⟨rfl, rfl⟩ : ao = ao' ∧ cap = cap' := by injection e1 with e1 e3 e4; exact ⟨e1, e4⟩
    have H0 := Lib.hid h0
    have HRD := Lib.hid hrd
    clear e1 h0 hrd
    cases ao with
    | none =>
      obtain ⟨hl0, rfl⟩ := H0.out rfl
      have hnil := List.eq_nil_of_length_eq_zero hl0
      have hO2 : (w1.alloc (.cells cs 27)).ownsRow w.heap.size 27 2 (.slice (some ⟨w1.heap.size, 0, none⟩) 0 (l.length + 2)) l.length (shs l) := by
        rw [hl0, hnil]
        have := HO.out
        rw [hl0] at this
        exact this
      have HO2 := Lib.hid hO2
      have HL0 := Lib.hid hl0
      clear hO2 hnil H0 HRD HR HR1 HRw hl0
      go_wp2_with (at_builtin; first
        | refine wpList_append_own_none rfl (.tmp 20) (.tmp 21) 24 rfl w.heap.size 27 i0 2 Try.underlying24 hi _ l.length _ rfl HO2.out (by show Value.slice none l.length 0 = _; rw [HL0.out]) ?_
        | refine wpList_append_own _ rfl (.tmp 22) (.tmp 25) 24 rfl w.heap.size 27 i0 _ 2 16 Try.underlying24 hi hz0 hz1 hz2 rfl (by decide) _ l.length _ rfl (HO2.out.alloc _) ⟨w1.heap.size + 1, 0, none⟩ 2 2 [fl 4613937818241073152, fl 0, fl 0, fl 4616189618054758400] rfl rfl ?c1 ?c2 ?c3 ?c4 ?c5 ?_)
      case c1 =>
        intro j u hj
        have h := news4 (w := w1.alloc (.cells cs 27)) (t := 27) j u hj
        rw [show (w1.alloc (.cells cs 27)).heap.size = w1.heap.size + 1 from by simp] at h
        exact h
      case c2 => intro u hu; simp at hu; rcases hu with rfl | rfl | rfl | rfl <;> rfl
      case c3 => unfold maxLen; omega
      case c4 => omega
      case c5 => simp; omega
      · intro v' w3 hown' hgrow _
        have hB4 := (hB1.alloc hB1.size (.cells #[fl 4613937818241073152, fl 0, fl 0, fl 4616189618054758400] 27)).grown hgrow (by simp; omega) (by intro g hg; simp [Value.ownBlock] at hg; omega)
        have HW := Lib.hid hown'
        clear hown' hgrow
        go_wp2_with fail
        go_meet
        exact ⟨by rw [shs_append]; exact HW.out, hB4⟩
    | some a =>
      clear H0 HR HR1 HRw
      go_wp2_with (at_builtin; refine wpList_append_own _ rfl (.tmp 20) (.tmp 21) 24 rfl w.heap.size 27 i0 _ 2 16 Try.underlying24 hi hz0 hz1 hz2 rfl (by decide) _ 0 [] rfl HO.out a l.length cap (shs l) rfl (shs_length l) ?c1 (shs_one l) ?c2 ?c3 ?c4 ?_)
      case c1 =>
        by_cases hn : l.length = 0
        · have : shs l = [] := by rw [List.eq_nil_of_length_eq_zero hn]; rfl
          rw [this]
          intro j u hj
          cases hj
        · obtain ⟨b, off, e, hlt, hc⟩ := HRD.out hn
          injection e with e
          subst e
          exact shs_news (fun k hk => ⟨(((Below.refl w1.heap.size w1).alloc (Nat.le_refl _) _).cell (p := ⟨b, off + k * 2, none⟩) hlt).trans (hc k hk).1, (((Below.refl w1.heap.size w1).alloc (Nat.le_refl _) _).cell (p := ⟨b, off + k * 2 + 1, none⟩) hlt).trans (hc k hk).2⟩)
      case c2 => unfold maxLen; omega
      case c3 => omega
      case c4 => simp; omega
      · intro va w2 howna hgrow _
        have hB3 := hB1.grown hgrow (by simp; omega) (by intro g hg; simp [Value.ownBlock] at hg; omega)
        have HO2 := Lib.hid howna
        have hsz2 := hB3.size
        clear howna hgrow
        go_wp2_with (at_builtin; refine wpList_append_own _ rfl (.tmp 22) (.tmp 25) 24 rfl w.heap.size 27 i0 _ 2 16 Try.underlying24 hi hz0 hz1 hz2 rfl (by decide) _ l.length _ rfl (HO2.out.alloc _) ⟨w2.heap.size, 0, none⟩ 2 2 [fl 4613937818241073152, fl 0, fl 0, fl 4616189618054758400] rfl rfl ?d1 ?d2 ?d3 ?d4 ?d5 ?_)
        case d1 => exact news4
        case d2 => intro u hu; simp at hu; rcases hu with rfl | rfl | rfl | rfl <;> rfl
        case d3 => unfold maxLen; omega
        case d4 => omega
        case d5 => simp; omega
        · intro v' w3 hown' hgrow _
          have hB4 := (hB3.alloc hB3.size (.cells #[fl 4613937818241073152, fl 0, fl 0, fl 4616189618054758400] 27)).grown hgrow (by simp; omega) (by intro g hg; have := own_lt HO2.out hg; omega)
          have HW := Lib.hid hown'
          clear hown' hgrow
          go_wp2_with fail
          go_meet
          exact ⟨by rw [shs_append]; exact HW.out, hB4⟩
  case rest =>
    clear hB
    obtain ⟨hO, hB⟩ := hcut
    obtain ⟨L, eL⟩ : ∃ L, L = l ++ tl2 := ⟨_, rfl⟩
    have hLl : L.length = l.length + 2 := by rw [eL]; simp [tl2]
    have hLat : ∀ k, k < l.length → L.getD k (0, 0) = l.getD k (0, 0) := by
      intro k hk
      rw [eL, List.getD_eq_getElem?_getD, List.getElem?_append_left hk, ← List.getD_eq_getElem?_getD]
    have hLn : (L.getD l.length (0, 0)).1 = 4613937818241073152 := by
      rw [eL, List.getD_eq_getElem?_getD, List.getElem?_append_right (Nat.le_refl _), Nat.sub_self]; rfl
    rw [← eL] at hO
    have hcap := hO.2
    have hrd := (OwnS.of_row (l := L) (by rw [hLl]; exact hO))
    rcases hrd with ⟨_, e⟩ | ⟨g, cp, rest, e4, hg, hO4⟩
    · rw [e] at hLl; simp at hLl
    have hcp : l.length + 2 ≤ cp := by
      rcases hcap with ⟨_, e⟩ | ⟨g', c', _, e, _, _, hle, _⟩
      · omega
      · rw [e] at e4; injection e4 with _ _ e6; omega
    rw [hLl] at e4
    subst e4
    have hgl := hO4.lt
    have hcells : ∀ k, k < L.length → wc.cell? ⟨g, 0 + k * 2, none⟩ = some (fl (L.getD k (0, 0)).1) ∧ wc.cell? ⟨g, 0 + k * 2 + 1, none⟩ = some (fl (L.getD k (0, 0)).2) := by
      intro k hk
      have hat := shs_at L k hk
      have hsl := shs_length L
      rw [Nat.zero_add]
      exact ⟨hO4.cell _ _ (by simp only [List.getElem?_toArray]; rw [List.getElem?_append_left (by omega)]; exact hat.1), hO4.cell _ _ (by simp only [List.getElem?_toArray]; rw [List.getElem?_append_left (by omega)]; exact hat.2)⟩
    have hin : RdS wc (.slice (some ⟨g, 0, none⟩) l.length cp) l := ⟨_, _, rfl, fun h => (by cases h), fun _ => ⟨g, 0, rfl, hgl, fun k hk => by
      have := hcells k (by omega)
      rw [hLat k hk] at this
      exact this⟩⟩
    have hlast := (hcells l.length (by omega)).1
    rw [hLn, Nat.zero_add] at hlast
    have HIN := Lib.hid hin
    have HL2 := Lib.hid hlast
    have hRc := Lib.hid (HR.out.below hB (Nat.le_refl _))
    clear hO hcap hO4 hcells hin hlast hLl hLat hLn eL HR1
    have hq3 : (ord 4613937818241073152 4613937818241073152 == some .eq) = true := by decide +kernel
    obtain ⟨n, hn⟩ : ∃ n, n = l.length := ⟨_, rfl⟩
    have hn5 : n ≤ 500 := by omega
    have hcp2 : n + 2 ≤ cp := by omega
    clear hcp hlb hlong
    go_wp2_with fail
    refine (pick_any _ l _ HIN.out (by omega)).mono ?_
    rintro e w2 ⟨v2, rfl, hO2, hB2⟩
    have hB3 := hB.trans (hB2.mono hB.size)
    have hsz2 := hB2.size
    have HO2 := Lib.hid hO2.read
    have HIN2 := Lib.hid (HIN.out.below hB2 (Nat.le_refl _))
    have HR2 := Lib.hid (hRc.out.below hB2 (Nat.le_refl _))
    have HL3 := Lib.hid ((hB2.cell (p := ⟨g, l.length * 2, none⟩) hgl).trans HL2.out)
    clear hO2 hB2 HIN hRc HL2 hB
    go_wp2_with fail
    refine (refpick_any _ l _ HR2.out (by omega)).mono ?_
    rintro e w3 ⟨v3, rfl, hO3, hB4⟩
    have hB5 := hB3.trans (hB4.mono hB3.size)
    have hsz3 := hB4.size
    have HO3 := Lib.hid hO3.read
    have HO2' := Lib.hid (HO2.out.below hB4 (Nat.le_refl _))
    have HIN3 := Lib.hid (HIN2.out.below hB4 (Nat.le_refl _))
    have HR3 := Lib.hid (HR2.out.below hB4 (Nat.le_refl _))
    have HL4 := Lib.hid ((hB4.cell (p := ⟨g, l.length * 2, none⟩) (by show g < _; omega)).trans HL3.out)
    clear hO3 hB4 HO2 HIN2 HR2 HL3 hB3
    go_wp2_with fail
    refine (reftotal_any _ l _ HR3.out (by omega)).mono ?_
    rintro e w4 ⟨rfl, hB6⟩
    have hB7 := hB5.trans (hB6.mono hB5.size)
    have hsz4 := hB6.size
    have HO2a := Lib.hid (HO2'.out.below hB6 (Nat.le_refl _))
    have HO3a := Lib.hid (HO3.out.below hB6 (Nat.le_refl _))
    have HIN4 := Lib.hid (HIN3.out.below hB6 (Nat.le_refl _))
    have HR4 := Lib.hid (HR3.out.below hB6 (Nat.le_refl _))
    have HL5 := Lib.hid ((hB6.cell (p := ⟨g, l.length * 2, none⟩) (by show g < _; omega)).trans HL4.out)
    clear hB6 HO2' HO3 HIN3 HR3 HL4 hB5
    obtain ⟨B, eB⟩ : ∃ B, B = (pickW l).1 := ⟨_, rfl⟩
    obtain ⟨T, eT⟩ : ∃ T, T = totW l := ⟨_, rfl⟩
    rw [← eB, ← eT]
    have ET := Lib.hid eT
    clear eB eT
    go_wp2_with fail
    refine (refsame_yes _ _ _ (pickW l).2 HO2a.out HO3a.out (by rw [pickW_length]; omega)).mono ?_
    rintro e w5 ⟨rfl, c5, rfl⟩
    go_wp2_with fail
    have hB8 : Below w.heap.size w (w4.drewN c5) := hB7.trans ⟨rfl, rfl, rfl, Nat.le_refl _, fun _ _ => rfl⟩
    refine (total_any _ l _ (by exact HR4.out) (by omega)).mono ?_
    rintro e w6 ⟨rfl, hB9⟩
    have hB10 := hB8.trans (hB9.mono hB8.size)
    have hsz5 : w4.heap.size ≤ w6.heap.size := hB9.size
    have HIN5 := Lib.hid (RdS.below (w := w4.drewN c5) (by exact HIN4.out) hB9 (Nat.le_refl _))
    have HR5 := Lib.hid (RdS.below (w := w4.drewN c5) (by exact HR4.out) hB9 (Nat.le_refl _))
    have HL6 := Lib.hid ((hB9.cell (p := ⟨g, l.length * 2, none⟩) (by show g < w4.heap.size; omega)).trans (by exact HL5.out))
    clear hB9 HIN4 HR4 HL5 hB7 hB8 HO2a HO3a
    rw [← ET.out]
    go_wp2_with fail
    refine (bits_any _ _).mono ?_
    rintro e w7 ⟨rfl, rfl⟩
    go_wp2_with fail
    refine (bits_any _ _).mono ?_
    rintro e w7 ⟨rfl, rfl⟩
    go_wp2_with fail
    refine (refsame_yes _ _ _ l HIN5.out HR5.out (by omega)).mono ?_
    rintro e w7 ⟨rfl, c7, rfl⟩
    have hl7 : (w6.drewN c7).cell? ⟨g, l.length * 2, none⟩ = some (fl 4613937818241073152) := HL6.out
    have hB11 : Below w.heap.size w (w6.drewN c7) := hB10.trans ⟨rfl, rfl, rfl, Nat.le_refl _, fun _ _ => rfl⟩
    have hl6 := HL6.out
    clear HIN5 HL6 hB10 HR HR5
    go_wp2_with fail
    go_loopw [82] (fun i wr => ∃ (k : Nat), k ≤ l.length ∧ i = n64 k ∧ Below w.heap.size w wr) (fun i _ => l.length - (intOf i).toNat)
    case atStart => exact ⟨0, Nat.zero_le _, rfl, hB11⟩
    case round =>
      clear hB11 hl6 hl7
      obtain ⟨k, hk, rfl, hB⟩ := hrel
      by_cases hlt : k < l.length
      · obtain ⟨ao', cap', e1, _, hrd⟩ := HRw.out
        obtain ⟨b', off, e2, hb', hc⟩ := hrd (by omega)
        obtain ⟨rfl, rfl⟩ : ao = ao' ∧ cap = cap' := by injection e1 with e1 e3 e4; exact ⟨e1, e4⟩
        clear e1 hrd
        subst e2
        have c1 := (hB.cell (p := ⟨b', off + k * 2, none⟩) hb').trans (hc k hlt).1
        have c2 := (hB.cell (p := ⟨b', off + k * 2 + 1, none⟩) hb').trans (hc k hlt).2
        obtain ⟨x, ex⟩ : ∃ x, x = (l.getD k (0, 0)).1 := ⟨_, rfl⟩
        obtain ⟨y, ey⟩ : ∃ y, y = (l.getD k (0, 0)).2 := ⟨_, rfl⟩
        rw [← ex] at c1
        rw [← ey] at c2
        clear ex ey hc
        have hB2 := hB.alloc hB.size (.cells #[fl x, fl y] 27)
        go_wp2_with fail
        go_quiet ((first
          | (go_at_call 12; refine quiet_eq (weight_any _ _))
          | (go_at_call 17; refine quiet_eq (bits_any _ _))
          | (go_at_call 19; refine quiet_eq (refweight_any _ _))))
        go_wp2
        go_roundw
        case rel => exact ⟨k + 1, by omega, by go_num, hB2.trans ⟨rfl, rfl, rfl, Nat.le_refl _, fun _ _ => rfl⟩⟩
        case measure => simp [intOf]; omega
      · obtain rfl : k = l.length := by omega
        go_wp2
        go_ret
        exact ⟨rfl, hB⟩
end Go.Proofs.Ytpnobanhffjmaaa
