/- DrumImages: the walk. -/
import Derived.Test.YtjjaghiihkdclaaDoorK
import Derived.Deep.CutBlock
set_option linter.unusedVariables false
set_option linter.unusedSimpArgs false
namespace Go.Proofs.YtjjaghiihkdclaaDoor
open Go.RowKit Jw

section
variable {w0 w w' : World} {b g b' g' n : Nat} {off ar : Bool} {l wr : Int} {L : List Int} {aR aP : Addr}
theorem from_st (h : Below w0.heap.size w0 w) (hT : Two w0 aR aP) (ao : Option Addr) (cap : Nat) (hr : Rb w (.slice ao L.length cap) L) (hl : L.length = n * 64) (hn : 1 ≤ n) (hn2 : n ≤ 4096) (hcap : L.length ≤ cap) (hcap2 : cap ≤ 9223372036854775807) :
    Calls Tryd.prog 17 #[.slice ao L.length cap] w fun e w' => e = .returned (.tuple #[pt (w.heap.size + 1), .nilIface]) ∧ St w0 w' (w.heap.size + 1) w.heap.size false false 0 n 0 L aR aP ∧ Below w.heap.size w w' :=
  (from_ok ao cap n L hr hl hn hn2 hcap hcap2).mono fun e w' ⟨he, hd, hb⟩ => ⟨he, ⟨h.trans (hb.mono h.size), hT.below (h.trans (hb.mono h.size)) (Nat.le_refl _), hd, by have := h.size; omega, h.size, hT⟩, hb⟩
theorem St.keep (h : St w0 w b g off ar l n wr L aR aP) (hf : Fr b' g' w w') (h1 : b ≠ b') (h2 : b ≠ g') (h3 : g ≠ b') (h4 : g ≠ g') (h5 : w0.heap.size ≤ b') (h6 : w0.heap.size ≤ g') : St w0 w' b g off ar l n wr L aR aP :=
  have hB := hf.below h.below h5 h6 h.below.size
  ⟨hB, h.base.below hB (Nat.le_refl _), h.dr.keep hf h1 h2 h3 h4, h.hb, h.hg, h.base⟩
/-- Both drums, and the argument. -/
structure Bo (w0 w : World) (b g q : Nat) (n : Nat) (wr : Int) (L Lc : List Int) (v : Value) (aR aP : Addr) : Prop where
  d : St w0 w b g false false 0 n 0 L aR aP
  c : St w0 w (q + 1) q false false 0 n wr Lc aR aP
  i : Rb w v L
/-- Both drums, the argument, and a block of its own. -/
structure Bp (w0 w : World) (b g q : Nat) (n : Nat) (wr : Int) (L Lc : List Int) (v : Value) (p : Nat) (B : List Int) (aR aP : Addr) : Prop where
  bo : Bo w0 w b g q n wr L Lc v aR aP
  k : Blk w p (row B) 31
section
variable {q len cap : Nat} {Lc B : List Int} {v : Value} {ao : Option Addr} {wI : World}
theorem Bo.bel (h : Bo w0 w b g q n wr L Lc v aR aP) (hb : Below w.heap.size w w') : Bo w0 w' b g q n wr L Lc v aR aP := ⟨h.d.bel hb, h.c.bel hb, h.i.below hb (Nat.le_refl _)⟩
theorem Bo.drew (h : Bo w0 w b g q n wr L Lc v aR aP) : Bo w0 w.drew b g q n wr L Lc v aR aP := h.bel ⟨rfl, rfl, rfl, Nat.le_refl _, fun _ _ => rfl⟩
theorem Bo.image_c (h : Bo w0 w b g q n wr L Lc v aR aP) (hn : 1 ≤ n) (hn2 : n ≤ 5000) :
    Calls Tryd.prog 16 #[pt (q + 1)] w fun e w' => ∃ u, e = .returned u ∧ Rb w' u Lc ∧ Bo w0 w' b g q n wr L Lc v aR aP :=
  (image_any h.c.dr hn hn2).mono fun e w' ⟨u, he, hr, hb⟩ => ⟨u, he, hr, h.bel hb⟩
theorem Bo.image_d (h : Bo w0 w b g q n wr L Lc v aR aP) (hn : 1 ≤ n) (hn2 : n ≤ 5000) :
    Calls Tryd.prog 16 #[pt b] w fun e w' => ∃ u, e = .returned u ∧ Rb w' u L ∧ Bo w0 w' b g q n wr L Lc v aR aP :=
  (image_any h.d.dr hn hn2).mono fun e w' ⟨u, he, hr, hb⟩ => ⟨u, he, hr, h.bel hb⟩
section
variable {p a : Nat} {C : List Int}
theorem Bp.bel (h : Bp w0 w b g q n wr L Lc v p B aR aP) (hb : Below w.heap.size w w') : Bp w0 w' b g q n wr L Lc v p B aR aP := ⟨h.bo.bel hb, h.k.below hb h.k.lt⟩
theorem Bp.drew (h : Bp w0 w b g q n wr L Lc v p B aR aP) : Bp w0 w.drew b g q n wr L Lc v p B aR aP := h.bel ⟨rfl, rfl, rfl, Nat.le_refl _, fun _ _ => rfl⟩
theorem Bp.set (h : Bp w0 w b g q n wr L Lc (.slice ao len cap) p B aR aP) (hw : Rb wI (.slice ao len cap) L) (hI : Below wI.heap.size wI w0) (hp : Put p (row C) 31 w w') (h1 : b ≠ p) (h2 : g ≠ p) (h3 : q ≠ p) (h4 : q + 1 ≠ p) (h5 : w0.heap.size ≤ p) : Bp w0 w' b g q n wr L Lc (.slice ao len cap) p C aR aP :=
  have hd := h.bo.d.other hp h1 h2 h5
  ⟨⟨hd, h.bo.c.other hp h4 h3 h5, hw.below (hI.trans (hd.below.mono hI.size)) (Nat.le_refl _)⟩, hp.blk⟩
theorem Bp.write (h : Bp w0 w b g q n 0 L Lc (.slice ao len cap) p B aR aP) (hw : Rb wI (.slice ao len cap) L) (hI : Below wI.heap.size wI w0) (ha : a < n) (hC : C.length = 64) (hbq : b < q) (hgq : g < q) (hpq : q + 1 < p) (h5 : w0.heap.size ≤ q) :
    Calls Tryd.prog 12 #[pt (q + 1), n64 a, .agg (row C)] w fun e w' => e = .returned .nilIface ∧ Bp w0 w' b g q n 1 L (put Lc a C) (.slice ao len cap) p B aR aP :=
  (write_free h.bo.c.dr ha hC (by omega)).mono fun e w' ⟨he, hf, hd⟩ =>
    have hd' := h.bo.d.keep hf (by omega) (by omega) (by omega) (by omega) (by omega) h5
    ⟨he, ⟨⟨hd', h.bo.c.fr hf hd, hw.below (hI.trans (hd'.below.mono hI.size)) (Nat.le_refl _)⟩, hf.keeps h.k (by omega) (by omega)⟩⟩
theorem Bp.image_d (h : Bp w0 w b g q n wr L Lc v p B aR aP) (hn : 1 ≤ n) (hn2 : n ≤ 5000) :
    Calls Tryd.prog 16 #[pt b] w fun e w' => ∃ u, e = .returned u ∧ Rb w' u L ∧ Bp w0 w' b g q n wr L Lc v p B aR aP :=
  (image_any h.bo.d.dr hn hn2).mono fun e w' ⟨u, he, hr, hb⟩ => ⟨u, he, hr, h.bel hb⟩
theorem Bp.read_c (h : Bp w0 w b g q n wr L Lc v p B aR aP) (ha : a < n) :
    Calls Tryd.prog 11 #[pt (q + 1), n64 a] w fun e w' => e = .returned (.tuple #[bk (get Lc a), .nilIface]) ∧ Bp w0 w' b g q n wr L Lc v p B aR aP :=
  (read_ok h.bo.c.dr ha).mono fun e w' ⟨he, hb⟩ => ⟨he, h.bel hb⟩
end
end
end

set_option maxRecDepth 100000 in
set_option maxHeartbeats 2000000 in
theorem images_walk (w : World) (aR aP : Addr) (hT : Two w aR aP) (at_ x : Int) (ao : Option Addr) (L : List Int) (cap : Nat)
    (hr : Rb w (.slice ao L.length cap) L) (hcap : L.length ≤ cap) (hcap2 : cap ≤ 9223372036854775807) :
    Calls Tryd.prog 6 #[.slice ao L.length cap, n64 at_, .int .u8 x] w fun e w' => e = .returned (.bool true) ∧ Below w.heap.size w w' := by
  have hz := zero31
  have hrn := row_ne
  have hrb := row_bl
  have HI := Lib.hid hr
  have H0 := Lib.hid hT
  clear hT hr
  go_enter Tryd.func6, Tryd.ntmps6
  go_wp2_with fail
  refine (alive_yes H0.out).mono ?_
  rintro e w1 ⟨rfl, hB1⟩
  have HB1 := Lib.hid hB1
  have H1 := Lib.hid (H0.out.below hB1 (Nat.le_refl _))
  clear hB1
  by_cases h0 : L.length = 0
  · have hb0 : ((L.length : Int) == 0) = true := by simp; exact List.eq_nil_of_length_eq_zero h0
    clear h0 hcap
    go_wp2
    go_ret
    exact ⟨rfl, HB1.out⟩
  have hb0 : ((L.length : Int) == 0) = false := by simp; intro h; rw [h] at h0; exact h0 rfl
  have ht : (L.length : Int).tmod 64 = ((L.length % 64 : Nat) : Int) := by rw [Int.tmod_eq_emod_of_nonneg (by omega)]; omega
  by_cases h64 : L.length % 64 ≠ 0
  · obtain ⟨r, hr⟩ : ∃ r, r = ((L.length % 64 : Nat) : Int) := ⟨_, rfl⟩
    rw [← hr] at ht
    have hb1 : (r != 0) = true := by rw [bne_iff_ne]; omega
    clear h0 hcap h64 hr
    go_wp2
    go_ret
    exact ⟨rfl, HB1.out⟩
  by_cases hbig : 12800 < L.length
  · obtain ⟨r, hr⟩ : ∃ r, r = ((L.length % 64 : Nat) : Int) := ⟨_, rfl⟩
    rw [← hr] at ht
    have hb1 : (r != 0) = false := by simp; omega
    clear h0 hcap h64 hr
    go_wp2
    go_ret
    exact ⟨rfl, HB1.out⟩
  obtain ⟨n, hn⟩ : ∃ n, L.length = n * 64 := ⟨L.length / 64, by omega⟩
  have hn1 : 1 ≤ n := by omega
  have hn2 : n ≤ 200 := by omega
  have hb3 : decide ((12800 : Int) < (L.length : Int)) = false := by simp; omega
  have ht1 : (L.length : Int).tmod 64 = 0 := by omega
  have HN := Lib.hid hn
  clear h0 h64 hbig hn ht
  go_wp2_with fail
  refine (from_st (Below.refl _ _) H1.out ao cap (HI.out.below HB1.out (Nat.le_refl _)) HN.out hn1 (by omega) hcap hcap2).mono ?_
  rintro e w2 ⟨rfl, hs, hb⟩
  have H2 := Lib.hid hs
  clear hs hb
  go_wp2_with fail
  refine (image_cap H2.out.dr hn1 (by omega)).mono ?_
  rintro e w3 ⟨ao3, cap3, rfl, hc3, hc4, hr3, hb3⟩
  have H3 := Lib.hid (H2.out.bel hb3)
  have HR3 := Lib.hid hr3
  have hz3 := hb3.size
  have hlb := H2.out.dr.d.lt
  clear hr3 hb3 H2
  go_wp2_with fail
  refine (from_st H3.out.below H1.out ao3 cap3 HR3.out HN.out hn1 (by omega) hc3 hc4).mono ?_
  rintro e w4 ⟨rfl, hs, hb⟩
  have H4 := Lib.hid (H3.out.bel hb)
  have HC := Lib.hid hs
  have hq : w1.heap.size + 1 < w3.heap.size := by omega
  clear hs hb H3 HR3
  obtain ⟨q, hqq⟩ : ∃ q, q = w3.heap.size := ⟨_, rfl⟩
  rw [← hqq] at HC hq ⊢
  clear hqq hz3 hlb
  go_upto_region 9 with fail
  have hI4 : Rb w4 (.slice ao L.length cap) L := HI.out.below (HB1.out.trans (H4.out.below.mono HB1.out.size)) (Nat.le_refl _)
  have hcv : ∀ W v, Rb W v L → (convert 40 9 v).run Tryd.prog W = .ok (.string (strOfNums L)) W := fun W v h => conv_str h
  have HBo := Lib.hid (show Bo w1 w4 (w1.heap.size + 1) w1.heap.size q n 0 L L (.slice ao L.length cap) aR aP from ⟨H4.out, HC.out, hI4⟩)
  clear H4 HC
  refine wp_region_held_drew (S := fun W => Rb W (.slice ao L.length cap) L) (by kernel_rfl) HBo.out.drew.i (fun hHeld => ?_)
  refine wpAnyH_take (i := 0) (v := ?_) rfl (by kernel_rfl) (by kernel_rfl) (by kernel_rfl) (fun _ _ _ h => h) (Or.inl ⟨by rfl, ?_⟩) (by assumption) ?_
  rotate_left 1
  · intro w hSw; (try dsimp only at hSw); go_simp; (try with_reducible rfl)
  try simp only [Act.put, List.setIfInBounds_toArray, List.set_cons_zero, List.set_cons_succ, List.getElem_toArray, List.getElem_cons_zero, List.getElem_cons_succ]
  refine wpAnyH_take (i := 1) (v := ?_) rfl (by kernel_rfl) (by kernel_rfl) (by kernel_rfl) (fun _ _ _ h => h) (Or.inl ⟨by rfl, ?_⟩) (by assumption) ?_
  rotate_left 1
  · intro w hSw; (try dsimp only at hSw); go_simp; (try with_reducible rfl)
  try simp only [Act.put, List.setIfInBounds_toArray, List.set_cons_zero, List.set_cons_succ, List.getElem_toArray, List.getElem_cons_zero, List.getElem_cons_succ]
  refine wpAnyH_take (i := 2) (v := ?_) rfl (by kernel_rfl) (by kernel_rfl) (by kernel_rfl) (fun _ _ _ h => h) (Or.inl ⟨by rfl, ?_⟩) (by assumption) ?_
  rotate_left 1
  · intro w hSw; (try dsimp only at hSw); go_simp; (try with_reducible rfl)
  try simp only [Act.put, List.setIfInBounds_toArray, List.set_cons_zero, List.set_cons_succ, List.getElem_toArray, List.getElem_cons_zero, List.getElem_cons_succ]
  refine wpAnyH_take (i := 3) (v := ?_) rfl (by kernel_rfl) (by kernel_rfl) (by kernel_rfl) (fun _ _ _ h => h) (Or.inl ⟨by rfl, ?_⟩) (by assumption) ?_
  rotate_left 1
  · intro w hSw; (try dsimp only at hSw); go_simp; (try with_reducible rfl)
  try simp only [Act.put, List.setIfInBounds_toArray, List.set_cons_zero, List.set_cons_succ, List.getElem_toArray, List.getElem_cons_zero, List.getElem_cons_succ]
  refine wpAnyH_take (i := 4) (v := ?_) rfl (by kernel_rfl) (by kernel_rfl) (by kernel_rfl) (fun _ _ _ h => h) (Or.inl ⟨by rfl, ?_⟩) (by assumption) ?_
  rotate_left 1
  · intro w hSw; (try dsimp only at hSw); go_simp; (try with_reducible rfl)
  try simp only [Act.put, List.setIfInBounds_toArray, List.set_cons_zero, List.set_cons_succ, List.getElem_toArray, List.getElem_cons_zero, List.getElem_cons_succ]
  refine wpAnyH_take (i := 5) (v := ?_) rfl (by kernel_rfl) (by kernel_rfl) (by kernel_rfl) (fun _ _ _ h => h) (Or.inl ⟨by rfl, ?_⟩) (by assumption) ?_
  rotate_left 1
  · intro w hSw; (try dsimp only at hSw); go_simp; (try with_reducible rfl)
  try simp only [Act.put, List.setIfInBounds_toArray, List.set_cons_zero, List.set_cons_succ, List.getElem_toArray, List.getElem_cons_zero, List.getElem_cons_succ]
  refine wpAnyH_take (i := 6) (v := ?_) rfl (by kernel_rfl) (by kernel_rfl) (by kernel_rfl) (fun _ _ _ h => h) (Or.inl ⟨by rfl, ?_⟩) (by assumption) ?_
  rotate_left 1
  · intro w hSw; (try dsimp only at hSw); go_simp; (try with_reducible rfl)
  try simp only [Act.put, List.setIfInBounds_toArray, List.set_cons_zero, List.set_cons_succ, List.getElem_toArray, List.getElem_cons_zero, List.getElem_cons_succ]
  refine wpAnyH_take (i := 7) (v := ?_) rfl (by kernel_rfl) (by kernel_rfl) (by kernel_rfl) (fun _ _ _ h => h) (Or.inl ⟨by rfl, ?_⟩) (by assumption) ?_
  rotate_left 1
  · intro w hSw; (try dsimp only at hSw); go_simp; (try with_reducible rfl)
  try simp only [Act.put, List.setIfInBounds_toArray, List.set_cons_zero, List.set_cons_succ, List.getElem_toArray, List.getElem_cons_zero, List.getElem_cons_succ]
  refine wpAnyH_take (i := 10) (v := ?_) rfl (by kernel_rfl) (by kernel_rfl) (by kernel_rfl) (fun _ _ _ h => h) (Or.inl ⟨by rfl, ?_⟩) (by assumption) ?_
  rotate_left 1
  · intro w hSw; (try dsimp only at hSw); go_simp; (try with_reducible rfl)
  try simp only [Act.put, List.setIfInBounds_toArray, List.set_cons_zero, List.set_cons_succ, List.getElem_toArray, List.getElem_cons_zero, List.getElem_cons_succ]
  refine wpAnyH_take (i := 11) (v := ?_) rfl (by kernel_rfl) (by kernel_rfl) (by kernel_rfl) (fun _ _ _ h => h) (Or.inl ⟨by rfl, ?_⟩) (by assumption) ?_
  rotate_left 1
  · intro w hSw; (try dsimp only at hSw); go_simp; (try with_reducible rfl)
  try simp only [Act.put, List.setIfInBounds_toArray, List.set_cons_zero, List.set_cons_succ, List.getElem_toArray, List.getElem_cons_zero, List.getElem_cons_succ]
  refine wpAnyH_ready (rs := [8]) (by kernel_rfl) (by simp) ?_
  refine AllReadyH.cons rfl (fun K hK => ?_) AllReadyH.nil
  go_simp
  refine (HBo.out.drew.image_c hn1 (by omega)).mono ?_
  rintro e w5 ⟨v5, rfl, hr5, hBo5⟩
  refine hK.out _ _ hBo5.i (fun hHeld8 => ?_)
  clear hK K
  try simp only [Act.put, List.setIfInBounds_toArray, List.set_cons_zero, List.set_cons_succ, List.getElem_toArray, List.getElem_cons_zero, List.getElem_cons_succ]
  refine wpAnyH_ready (rs := [9]) (by kernel_rfl) (by simp) ?_
  refine AllReadyH.cons rfl (fun K hK => ?_) AllReadyH.nil
  have hc9 := hcv w5 v5 hr5
  go_simp
  refine hK.out _ _ hBo5.i (fun hHeld9 => ?_)
  clear hK K
  try simp only [Act.put, List.setIfInBounds_toArray, List.set_cons_zero, List.set_cons_succ, List.getElem_toArray, List.getElem_cons_zero, List.getElem_cons_succ]
  refine wpAnyH_take (i := 12) (v := ?_) rfl (by kernel_rfl) (by kernel_rfl) (by kernel_rfl) (fun _ _ _ h => h) (Or.inl ⟨by rfl, ?_⟩) (by assumption) ?_
  rotate_left 1
  · intro w hSw; (try dsimp only at hSw); go_simp; (try with_reducible rfl)
  try simp only [Act.put, List.setIfInBounds_toArray, List.set_cons_zero, List.set_cons_succ, List.getElem_toArray, List.getElem_cons_zero, List.getElem_cons_succ]
  refine wpAnyH_take (i := 13) (v := ?_) rfl (by kernel_rfl) (by kernel_rfl) (by kernel_rfl) (fun _ _ _ h => h) (Or.inl ⟨by rfl, ?_⟩) (by assumption) ?_
  rotate_left 1
  · intro w hSw; (try dsimp only at hSw); go_simp; (try with_reducible rfl)
  try simp only [Act.put, List.setIfInBounds_toArray, List.set_cons_zero, List.set_cons_succ, List.getElem_toArray, List.getElem_cons_zero, List.getElem_cons_succ]
  refine wpAnyH_done (by kernel_rfl) ?_ _
  have HB5 := Lib.hid hBo5
  have HCV := Lib.hid hcv
  clear hBo5 hHeld hHeld8 hHeld9 hr5 hcv hI4 HBo
  have hq2 : (L.length : Int).tdiv 64 = (n : Int) := by have := HN.out; rw [Int.tdiv_eq_ediv_of_nonneg (by omega)]; omega
  have hu := u64_same (n : Int) (by omega) (by omega)
  have hr1 := umod_range at_ n (by omega) (by omega)
  obtain ⟨a, ha⟩ : ∃ a : Nat, wrap64 ((IntKind.u64.wrap at_).tmod (n : Int)) = (a : Int) := ⟨(wrap64 ((IntKind.u64.wrap at_).tmod (n : Int))).toNat, by omega⟩
  have han : a < n := by omega
  clear hr1
  have hz5 := HB5.out.c.dr.d.lt
  have HST := Lib.hid (store_new w5 (zer 64) (zer_length 64))
  have HNB := Lib.hid (blk_new w5 (row (zer 64)) 31)
  have HB6 := Lib.hid (HB5.out.bel ((Below.refl _ _).alloc (Nat.le_refl _) (.cells (row (zer 64)) 31)))
  obtain ⟨p, hp⟩ : ∃ p, p = w5.heap.size := ⟨_, rfl⟩
  go_upto_block 0 with ((with_reducible refine wpList_store_run (w' := w5.alloc (.cells (row (zer 64)) 31)) ?_ 31 (.tmp 11) (.tmp 70) ?_ ⟨w5.heap.size, 0, none⟩ (.agg (row (zer 64))) ?_ ?_ ?_ ?_); rfl; rfl; rfl; rfl; exact HST.out)
  rw [← hp] at HNB hz5 ⊢
  generalize w5.alloc (.cells (row (zer 64)) 31) = w6 at *
  have HP := Lib.hid (show Bp w1 w6 (w1.heap.size + 1) w1.heap.size q n 0 L L (.slice ao L.length cap) p (fil x 0) aR aP from ⟨HB6.out, HNB.out⟩)
  have hwp := HB6.out.d.below.size
  clear HNB HB6 HB5 hp
  have hpq : q + 1 < p := by omega
  go_cut [] (fun wx => Bp w1 wx (w1.heap.size + 1) w1.heap.size q n 0 L L (.slice ao L.length cap) p (fil x 64) aR aP)
  case first =>
    go_wp2_with fail
    go_loopw [71] (fun i wr => ∃ (k : Nat), k ≤ 64 ∧ i = n64 k ∧ Bp w1 wr (w1.heap.size + 1) w1.heap.size q n 0 L L (.slice ao L.length cap) p (fil x k) aR aP) (fun i _ => 64 - (intOf i).toNat)
    case atStart => exact ⟨0, Nat.zero_le _, rfl, HP.out⟩
    case round =>
      clear HP
      obtain ⟨k, hk, rfl, hs⟩ := hrel
      have HS := Lib.hid hs
      clear hs
      by_cases hlt : k < 64
      · have c1 := HS.out.k.cell k _ (row_at (fil x k) k (by rw [fil_length x k hk]; exact hlt))
        have f1 := HS.out.k.free k
        have hi64 : (k : Int) < 64 := by omega
        go_wp2
        go_roundw
        case rel =>
          have hp := Put.of_set HS.out.k k (.int .u8 x)
          rw [fil_set x k hlt] at hp
          exact ⟨k + 1, by omega, by go_num, HS.out.set HI.out HB1.out hp (by omega) (by omega) (by omega) (by omega) (by omega)⟩
        case measure => simp [intOf]; omega
      · obtain rfl : k = 64 := by omega
        go_wp2_with fail
        go_meet
        exact HS.out
  case rest =>
    clear HP
    have HP := Lib.hid hcut
    clear hcut
    go_upto_region 18 with fail
    have HBL := Lib.hid (fil_length x 64 (Nat.le_refl _))
    refine wp_region_held_drew (S := fun W => Rb W (.slice ao L.length cap) L ∧ Blk W p (row (fil x 64)) 31) (by kernel_rfl) ⟨HP.out.drew.bo.i, HP.out.drew.k⟩ (fun hHeld => ?_)
    refine wpAnyH_take (i := 0) (v := ?_) rfl (by kernel_rfl) (by kernel_rfl) (by kernel_rfl) (fun _ _ _ h => h) (Or.inl ⟨by rfl, ?_⟩) (by assumption) ?_
    rotate_left 1
    · intro w hSw; (try dsimp only at hSw); go_simp; (try with_reducible rfl)
    try simp only [Act.put, List.setIfInBounds_toArray, List.set_cons_zero, List.set_cons_succ, List.getElem_toArray, List.getElem_cons_zero, List.getElem_cons_succ]
    refine wpAnyH_take (i := 1) (v := ?_) rfl (by kernel_rfl) (by kernel_rfl) (by kernel_rfl) (fun _ _ _ h => h) (Or.inl ⟨by rfl, ?_⟩) (by assumption) ?_
    rotate_left 1
    · intro w hSw; (try dsimp only at hSw); go_simp; (try with_reducible rfl)
    try simp only [Act.put, List.setIfInBounds_toArray, List.set_cons_zero, List.set_cons_succ, List.getElem_toArray, List.getElem_cons_zero, List.getElem_cons_succ]
    refine wpAnyH_take (i := 2) (v := .agg (row (fil x 64))) rfl (by kernel_rfl) (by kernel_rfl) (by kernel_rfl) (fun _ _ _ h => h) (Or.inl ⟨by rfl, ?_⟩) (by assumption) ?_
    · exact fun w hSw => exec_load 31 (.tmp 11) rfl ⟨p, 0, none⟩ _ rfl (load_one hSw.2 HBL.out)
    try simp only [Act.put, List.setIfInBounds_toArray, List.set_cons_zero, List.set_cons_succ, List.getElem_toArray, List.getElem_cons_zero, List.getElem_cons_succ]
    refine wpAnyH_ready (rs := [3]) (by kernel_rfl) (by simp) ?_
    refine AllReadyH.cons rfl (fun K hK => ?_) AllReadyH.nil
    go_simp
    refine (HP.out.drew.write HI.out HB1.out han HBL.out (by omega) (by omega) hpq (by omega)).mono ?_
    rintro e w7 ⟨rfl, hP7⟩
    refine hK.out _ _ ⟨hP7.bo.i, hP7.k⟩ (fun hHeld3 => ?_)
    clear hK K
    try simp only [Act.put, List.setIfInBounds_toArray, List.set_cons_zero, List.set_cons_succ, List.getElem_toArray, List.getElem_cons_zero, List.getElem_cons_succ]
    have hcv := HCV.out
    have hi7 := hP7.bo.i
    refine wpAnyH_take (i := 4) (v := ?_) rfl (by kernel_rfl) (by kernel_rfl) (by kernel_rfl) (fun _ _ _ h => h) (Or.inl ⟨by rfl, ?_⟩) (by assumption) ?_
    rotate_left 1
    · intro w hSw; (try dsimp only at hSw); go_simp; (try with_reducible rfl)
    try simp only [Act.put, List.setIfInBounds_toArray, List.set_cons_zero, List.set_cons_succ, List.getElem_toArray, List.getElem_cons_zero, List.getElem_cons_succ]
    refine wpAnyH_take (i := 5) (v := ?_) rfl (by kernel_rfl) (by kernel_rfl) (by kernel_rfl) (fun _ _ _ h => h) (Or.inl ⟨by rfl, ?_⟩) (by assumption) ?_
    rotate_left 1
    · intro w hSw; (try dsimp only at hSw); go_simp; (try with_reducible rfl)
    try simp only [Act.put, List.setIfInBounds_toArray, List.set_cons_zero, List.set_cons_succ, List.getElem_toArray, List.getElem_cons_zero, List.getElem_cons_succ]
    refine wpAnyH_take (i := 6) (v := ?_) rfl (by kernel_rfl) (by kernel_rfl) (by kernel_rfl) (fun _ _ _ h => h) (Or.inl ⟨by rfl, ?_⟩) (by assumption) ?_
    rotate_left 1
    · intro w hSw; (try dsimp only at hSw); go_simp; (try with_reducible rfl)
    try simp only [Act.put, List.setIfInBounds_toArray, List.set_cons_zero, List.set_cons_succ, List.getElem_toArray, List.getElem_cons_zero, List.getElem_cons_succ]
    refine wpAnyH_take (i := 9) (v := ?_) rfl (by kernel_rfl) (by kernel_rfl) (by kernel_rfl) (fun _ _ _ h => h) (Or.inl ⟨by rfl, ?_⟩) (by assumption) ?_
    rotate_left 1
    · intro w hSw; (try dsimp only at hSw); go_simp; (try with_reducible rfl)
    try simp only [Act.put, List.setIfInBounds_toArray, List.set_cons_zero, List.set_cons_succ, List.getElem_toArray, List.getElem_cons_zero, List.getElem_cons_succ]
    refine wpAnyH_take (i := 10) (v := ?_) rfl (by kernel_rfl) (by kernel_rfl) (by kernel_rfl) (fun _ _ _ h => h) (Or.inl ⟨by rfl, ?_⟩) (by assumption) ?_
    rotate_left 1
    · intro w hSw; have hSw1 := hSw.1; clear hSw; go_simp; (try with_reducible rfl)
    try simp only [Act.put, List.setIfInBounds_toArray, List.set_cons_zero, List.set_cons_succ, List.getElem_toArray, List.getElem_cons_zero, List.getElem_cons_succ]
    refine wpAnyH_ready (rs := [7]) (by kernel_rfl) (by simp) ?_
    refine AllReadyH.cons rfl (fun K hK => ?_) AllReadyH.nil
    go_simp
    refine (hP7.image_d hn1 (by omega)).mono ?_
    rintro e w8 ⟨v8, rfl, hr8, hP8⟩
    refine hK.out _ _ ⟨hP8.bo.i, hP8.k⟩ (fun hHeld7 => ?_)
    clear hK K
    try simp only [Act.put, List.setIfInBounds_toArray, List.set_cons_zero, List.set_cons_succ, List.getElem_toArray, List.getElem_cons_zero, List.getElem_cons_succ]
    refine wpAnyH_ready (rs := [8]) (by kernel_rfl) (by simp) ?_
    refine AllReadyH.cons rfl (fun K hK => ?_) AllReadyH.nil
    have hc9 := hcv w8 v8 hr8
    go_simp
    refine hK.out _ _ ⟨hP8.bo.i, hP8.k⟩ (fun hHeld8 => ?_)
    clear hK K
    try simp only [Act.put, List.setIfInBounds_toArray, List.set_cons_zero, List.set_cons_succ, List.getElem_toArray, List.getElem_cons_zero, List.getElem_cons_succ]
    refine wpAnyH_take (i := 11) (v := ?_) rfl (by kernel_rfl) (by kernel_rfl) (by kernel_rfl) (fun _ _ _ h => h) (Or.inl ⟨by rfl, ?_⟩) (by assumption) ?_
    rotate_left 1
    · intro w hSw; (try dsimp only at hSw); go_simp; (try with_reducible rfl)
    try simp only [Act.put, List.setIfInBounds_toArray, List.set_cons_zero, List.set_cons_succ, List.getElem_toArray, List.getElem_cons_zero, List.getElem_cons_succ]
    refine wpAnyH_take (i := 12) (v := ?_) rfl (by kernel_rfl) (by kernel_rfl) (by kernel_rfl) (fun _ _ _ h => h) (Or.inl ⟨by rfl, ?_⟩) (by assumption) ?_
    rotate_left 1
    · intro w hSw; (try dsimp only at hSw); go_simp; (try with_reducible rfl)
    try simp only [Act.put, List.setIfInBounds_toArray, List.set_cons_zero, List.set_cons_succ, List.getElem_toArray, List.getElem_cons_zero, List.getElem_cons_succ]
    refine wpAnyH_done (by kernel_rfl) ?_ _
    have H8 := Lib.hid hP8
    clear hP8 hP7 hcv hr8 HP hHeld hHeld3 hHeld7 hHeld8 hc9 hi7
    go_wp2_with fail
    refine (H8.out.read_c han).mono ?_
    rintro e w9 ⟨rfl, hP9⟩
    have H9 := Lib.hid hP9
    clear hP9 H8
    rw [get_put L (fil x 64) a a n HN.out HBL.out han han, if_pos rfl]
    have HST := Lib.hid (store_new w9 (fil x 64) HBL.out)
    have HNB := Lib.hid (blk_new w9 (row (fil x 64)) 31)
    have H10 := Lib.hid (H9.out.bel ((Below.refl _ _).alloc (Nat.le_refl _) (.cells (row (fil x 64)) 31)))
    clear H9
    have HL1 := Lib.hid (load_one HNB.out HBL.out)
    have HL2 := Lib.hid (load_one H10.out.k HBL.out)
    have heq9 := eq_row (fil x 64) (fil x 64) HBL.out HBL.out
    rw [show (fil x 64 == fil x 64) = true from by simp] at heq9
    have K1 := Lib.hid (st_writes H10.out.bo.c)
    go_wp2_with (first
      | ((with_reducible refine wpList_store_run (w' := w9.alloc (.cells (row (fil x 64)) 31)) ?_ 31 (.tmp 13) (.tmp 95) ?_ ⟨w9.heap.size, 0, none⟩ (.agg (row (fil x 64))) ?_ ?_ ?_ ?_); rfl; rfl; rfl; rfl; exact HST.out)
      | ((with_reducible refine wpList_load_on ?_ 31 (.tmp 13) ?_ ⟨w9.heap.size, 0, none⟩ (.agg (row (fil x 64))) ?_ ?_ ?_); rfl; rfl; rfl; exact HL1.out)
      | ((with_reducible refine wpList_load_on ?_ 31 (.tmp 11) ?_ ⟨p, 0, none⟩ (.agg (row (fil x 64))) ?_ ?_ ?_); rfl; rfl; rfl; exact HL2.out))
    refine (writes_any H10.out.bo.c.dr.d).mono ?_
    rintro e w11 ⟨rfl, rfl⟩
    go_wp2_with fail
    refine (writes_any H10.out.bo.d.dr.d).mono ?_
    rintro e w11 ⟨rfl, rfl⟩
    have HF := Lib.hid (HB1.out.trans (H10.out.bo.d.below.mono HB1.out.size))
    clear H10 HNB HL1 HL2 K1 HST heq9
    go_wp2
    go_ret
    exact ⟨rfl, HF.out⟩
end Go.Proofs.YtjjaghiihkdclaaDoor
