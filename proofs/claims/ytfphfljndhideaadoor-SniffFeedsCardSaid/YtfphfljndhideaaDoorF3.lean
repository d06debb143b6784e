/- SniffFeeds: the walk. -/
import Derived.Test.YtfphfljndhideaaDoorF2
set_option linter.unusedVariables false
set_option linter.unusedSimpArgs false
namespace Go.Proofs.YtfphfljndhideaaDoor
open Go.RowKit Jw Lab
attribute [local go_sem] max2_mx min2_mn max_mx min_mn

theorem neq_er (a : Addr) (w : World) : (binOp .neq 28 (er a) (er a)).run Tryd.prog w = .ok (.bool false) w := by
  obtain ⟨i, j, hi, hc, hj, hs⟩ := info83
  simp only [binOp]
  simp [Op.equal, Op.maxDepth, run_equalIn_iface_ptr_same w 9998 a Tryd.underlying28 Tryd.underlying83 hi hc hj]
theorem rb_pre {w : World} {base g cp : Nat} {l m : List UInt8} (h : w.ownsRow base 5 1 (.slice (some ⟨g, 0, none⟩) (l ++ m).length cp) (l ++ m).length (bv (l ++ m))) : Rb w (.slice (some ⟨g, 0, none⟩) l.length cp) l :=
  ⟨_, _, rfl, fun hn => ⟨g, 0, rfl, (own_cell5 h 0 (by simp; omega)).2.2.1, fun k hk => by
    have := (own_cell5 h k (by simp; omega)).1.trans (bv_at (l ++ m) k (by simp; omega))
    rw [List.getD_eq_getElem?_getD, List.getElem?_append_left hk, ← List.getD_eq_getElem?_getD] at this
    rw [Nat.zero_add]
    exact this⟩⟩
/-- Where the second loop stands. -/
structure Fl (P : List (List UInt8)) (S : Int) (base p : Nat) (wL : World) (k n : Nat) (over : Bool) (i at_ ov : Value) (wr : World) : Prop where
  le : k ≤ P.length
  vi : i = n64 k
  va : at_ = n64 n
  vo : ov = .bool over
  fs : Fs p none wL wr
  sn : ∃ (st : Int) (ln : List UInt8) (lv : Value), Sn base p st ln lv wr ∧ (∀ g, lv.ownBlock = some g → wL.heap.size ≤ g) ∧
    ((over = false ∧ st = 0 ∧ ln = (P.take k).flatten ∧ n = ln.length ∧ (fd [] ln).2.1 = 0) ∨ (over = true ∧ st = S ∧ (st = 1 ∨ st = 2)))

set_option maxRecDepth 20000 in
set_option maxHeartbeats 4000000 in
theorem feedsLaw_0 (P : List (List UInt8)) (v : Value) (w : World) (hr : Rbb w v P) (hP : P.length ≤ 9223372036854775807) (hl : ∀ p ∈ P, p.length ≤ 9223372036854775807) (a a2 : Addr) (m : Int) (hg : Gl w a m) (hst : w.cell? ⟨1, 0, none⟩ = some (er a2))
    (E : Nat) (hw : wlk [] P.flatten = (P.flatten.length, false)) (hT : fd [] P.flatten = (P.flatten.length, 0, P.flatten)) (hE : E = P.flatten.length) :
    Calls Tryd.prog 11 #[v] w fun e w' => e = .returned (.bool true) ∧ Below w.heap.size w w' := by
  have HR := Lib.hid hr
  have HFew := Lib.hid (fun wx (h : Rbb wx v P) => few_any P v wx h hP hl)
  obtain ⟨ao, cap, rfl, hao⟩ := hr
  have HAO := Lib.hid hao
  have HG := Lib.hid hg.gb
  have HST := Lib.hid hst
  have HW := Lib.hid hw
  have HT := Lib.hid hT
  have HAl := Lib.hid (alive17_any w a m hg)
  have h3 := hg.low
  have HE := Lib.hid hE
  clear hg hst hw hT hao hl hE
  go_enter Tryd.func11, Tryd.ntmps11
  go_upto_region 3 with (go_at_call 25; refine HAl.out.mono ?_; rintro e w1 ⟨rfl, hB1⟩)
  have hfew := HFew.out w1 (HR.out.below hB1 (Nat.le_refl _))
  have HF1 := Lib.hid hfew
  have HB1 := Lib.hid hB1
  clear hfew hB1 HFew HAl
  go_upto_region 5 with (go_at_call 31; refine HF1.out.mono ?_; rintro e w2 ⟨⟨fb, rfl, hfb⟩, rfl⟩; have HFB := Lib.hid hfb; clear hfb; cases fb)
  · go_wp2
    go_ret
    exact ⟨rfl, HB1.out⟩
  have HSM := Lib.hid (show P.length + P.flatten.length ≤ 2000 by first | exact HFB.out rfl | exact HFB.out trivial)
  clear HFB HF1
  -- a sniffer, and all the bytes
  obtain ⟨p, hp⟩ : ∃ p, p = w1.heap.size := ⟨_, rfl⟩
  obtain ⟨w2, hw2⟩ : ∃ w2, w2 = w1.alloc (.cells #[n64 0, .slice none 0 0] 63) := ⟨_, rfl⟩
  have hbp : w.heap.size ≤ p := by rw [hp]; exact HB1.out.size
  have sn2 := new_sn w.heap.size w1 HB1.out.size
  have hB2 := HB1.out.alloc HB1.out.size (.cells #[n64 0, .slice none 0 0] 63)
  have e2 : w2.heap.size = p + 1 := by rw [hw2, hp]; simp
  rw [← hw2, ← hp] at sn2
  rw [← hw2] at hB2
  have o3 := empty_own (p + 1) w2 (by omega)
  have hB3 := hB2.alloc hB2.size (.cells #[] 5)
  have sn3 := sn2.below ((Below.refl w2.heap.size w2).alloc (Nat.le_refl _) (.cells #[] 5)) (Nat.le_refl _)
  have HO3 := Lib.hid o3
  have HB3 := Lib.hid hB3
  have HSn3 := Lib.hid sn3
  have HW2 := Lib.hid hw2
  have HP := Lib.hid hp
  have HE2 := Lib.hid e2
  have HBP := Lib.hid hbp
  clear sn2 hB2 o3 hB3 sn3 hw2 hp e2 hbp
  go_upto_region 6 with (go_at_call 27; refine (new_any _).mono ?_; rintro e w6 ⟨rfl, rfl⟩)
  rw [← HW2.out, ← HP.out]
  go_upto_region 8 with fail
  go_loopw [4, 6, 31] (fun s _ i wr => ∃ (k : Nat), k ≤ P.length ∧ i = n64 k ∧ wr.ownsRow (p + 1) 5 1 s (P.take k).flatten.length (bv (P.take k).flatten) ∧ Sn w.heap.size p 0 [] (.slice none 0 0) wr ∧ Below w.heap.size w wr) (fun _ _ i _ => P.length - (intOf i).toNat)
  case atStart => exact ⟨0, by omega, rfl, by exact HO3.out, by exact HSn3.out, by exact HB3.out⟩
  case round =>
    clear HO3 HSn3 HB3
    obtain ⟨k, hk, rfl, hown, hsn, hB⟩ := hrel
    have HO := Lib.hid hown
    have HSn := Lib.hid hsn
    have HBr := Lib.hid hB
    by_cases hlk : k < P.length
    · obtain ⟨ao', cap', ev, hcc⟩ := HR.out.below hB (Nat.le_refl _)
      injection ev with ev1 _ ev2
      subst ev1 ev2
      obtain ⟨b, off, rfl, hb, hc⟩ := hcc (by omega)
      obtain ⟨vk, hx, hrk, hnok⟩ := hc k hlk
      have hfl := flat_snoc P k hlk
      have hle := flat_le P (k + 1)
      rw [hfl, List.length_append] at hle
      generalize P.getD k [] = q at *
      obtain ⟨A, hA⟩ : ∃ A, A = (P.take k).flatten := ⟨_, rfl⟩
      rw [← hA] at HO hfl hle
      have HFl := Lib.hid hfl
      have HLe := Lib.hid hle
      have HRk := Lib.hid hrk
      have HNk := Lib.hid hnok
      have HCC := Lib.hid hcc
      have HC := Lib.hid hc
      have ck : ((k : Int) + 1) ≤ 4294967290 := by have := HSM.out; omega
      clear hown hsn hB hfl hle hrk hnok hcc hc hA
      go_wp2_with (at_builtin; refine wp_app_rb rfl (.tmp 35) (.tmp 36) rfl _ (p + 1) A q _ HO.out rfl _ rfl HRk.out HNk.out ?c1 ?c2 ?_)
      case c1 => have := HSM.out; have := HLe.out; omega
      case c2 => have := HSn.out.blk.lt; omega
      intro s' w5 o5 g5
      have o5' : w5.ownsRow (p + 1) 5 1 s' (A ++ q).length (bv (A ++ q)) := by rw [List.length_append]; exact o5
      have hb5 : Below (p + 1) wr w5 := grown_below g5 (fun g hg => (own_lo HO.out g hg).1) (by have := HSn.out.blk.lt; omega)
      have hsn5 := HSn.out.same (hb5.block p (by omega)) (fun g e => by simp [Value.ownBlock] at e)
      have hB5 := HBr.out.trans (hb5.mono (by have := HBP.out; omega))
      have HO5 := Lib.hid o5'
      have HSn5 := Lib.hid hsn5
      have HB5 := Lib.hid hB5
      clear o5 o5' g5 hb5 hsn5 hB5
      go_wp2
      go_roundw
      case rel => exact ⟨k + 1, by omega, by go_num, by rw [HFl.out]; exact HO5.out, HSn5.out, HB5.out⟩
      case measure => simp [intOf]; omega
    · obtain rfl : k = P.length := by omega
      rw [List.take_length] at hown
      clear HO HSn HBr
      obtain ⟨wL, hwL⟩ : ∃ x, x = wr := ⟨wr, rfl⟩
      subst hwL
      have hlo := own_lo hown
      have hform := hown.form
      have hcapA : ∀ g n c, u4 = .slice (some ⟨g, 0, none⟩) n c → n ≤ c := fun g n c e => by
        obtain ⟨_, ⟨e2, _⟩ | ⟨g', cap', cur, e2, _, _, hcp, _⟩⟩ := hown
        · rw [e2] at e; cases e
        · rw [e2] at e
          injection e with _ e3 e4
          omega
      have hRall := Rb.own hown
      obtain ⟨aoA, capA, hvA, hcA⟩ := hRall
      obtain ⟨N, hN⟩ : ∃ N, N = P.flatten.length := ⟨_, rfl⟩
      rw [← hN] at hvA hcA hform
      subst hvA
      have hwk := rwalk_any P.flatten (by have := HSM.out; omega) (.slice aoA N capA) wL ⟨aoA, capA, by rw [hN], by rw [← hN]; exact hcA⟩
      rw [HW.out] at hwk
      have HWk := Lib.hid hwk
      have HForm := Lib.hid hform
      have HCapA := Lib.hid hcapA
      have HcA := Lib.hid hcA
      have HN := Lib.hid hN
      have HSn := Lib.hid hsn
      have HB := Lib.hid hB
      have HLo := Lib.hid hlo
      clear hown hwk hform hcapA hcA hN hsn hB hlk hlo
      have qr : decide (N < N) = false := by simp
      obtain rfl : E = N := HE.out.trans HN.out.symm
      have HEb := Lib.hid (show E ≤ 4000 by have := HE.out; have := HSM.out; omega)
      rw [← HN.out] at HWk
      go_upto_region 20 with (go_at_call 32; refine HWk.out.mono ?_; rintro e w4 ⟨rfl, rfl⟩)
      go_loopw [11, 12, 58] (fun at_ ov i wr => ∃ (k n : Nat) (over : Bool), Fl P 0 w.heap.size p wL k n over i at_ ov wr) (fun _ _ i _ => P.length - (intOf i).toNat)
      case atStart => exact ⟨0, 0, false, by omega, rfl, rfl, rfl, Fs.refl _ _ _, 0, [], .slice none 0 0, HSn.out, (fun g e => by simp [Value.ownBlock] at e), .inl ⟨rfl, rfl, rfl, rfl, rfl⟩⟩
      case round =>
        obtain ⟨k, n, over, hk, rfl, rfl, rfl, hfs, st, ln1, lv, hsn, hlv, hcase⟩ := hrel
        by_cases hlk : k < P.length
        · have hBr : Below w.heap.size w wr := HB.out.trans (hfs.below HBP.out (fun k e => by cases e) HB.out.size)
          obtain ⟨b, off, rfl, hb, hc⟩ := HAO.out (by omega)
          obtain ⟨vk, hx0, hrk0, hnok⟩ := hc k hlk
          have hx := (hBr.cell (p := ⟨b, off + k, none⟩) hb).trans hx0
          have hrk := hrk0.below hBr (Nat.le_refl _)
          have hfl := flat_snoc P k hlk
          have hle := flat_le P (k + 1)
          rw [hfl, List.length_append] at hle
          have hall : P.flatten = (P.take k).flatten ++ P.getD k [] ++ (P.drop (k + 1)).flatten := by
            rw [← hfl, ← List.flatten_append, List.take_append_drop]
          obtain ⟨q, hq⟩ : ∃ q, q = P.getD k [] := ⟨_, rfl⟩
          rw [← hq] at hrk0 hrk hfl hle hall
          obtain ⟨A, hA⟩ : ∃ A, A = (P.take k).flatten := ⟨_, rfl⟩
          rw [← hA] at hfl hle hall hcase
          have hps := hsn.blk.lt
          have hlvs := own_lo hsn.own
          have ck : ((k : Int) + 1) ≤ 4294967290 := by have := HSM.out; omega
          have hq2 : q.length ≤ 2000 := by have := HSM.out; omega
          have hBy := bytes_any q vk wr hrk hnok (by omega)
          have hkept : ∀ w3 g3 cp3 w4, Below wr.heap.size wr w3 → w3.ownsRow wr.heap.size 5 1 (.slice (some ⟨g3, 0, none⟩) (q ++ tl6).length cp3) (q ++ tl6).length (bv (q ++ tl6)) → Fs p lv.ownBlock w3 w4 →
              Calls Tryd.prog 34 #[.slice (some ⟨g3, 0, none⟩) q.length cp3, vk] w4 fun e w' => e = .returned (.bool true) ∧ Below w4.heap.size w4 w' := fun w3 g3 cp3 w4 b3 o3 f4 => by
            have hg3 := own_lo o3 g3 rfl
            have b4 : Below w.heap.size w w4 := (hBr.trans (b3.mono hBr.size)).trans (f4.below HBP.out (fun k e => by have := hlv k e; have := HB.out.size; omega) (Nat.le_trans hBr.size b3.size))
            exact kept_any q vk w4 (hrk0.below b4 (Nat.le_refl _)) wr.heap.size g3 cp3 (own_same o3 (fun g hg => by
              have hgg : g3 = g := by simpa [Value.ownBlock] using hg
              subst hgg
              exact f4.other g3 hg3.2 (by omega) (fun e => by have := hlvs g3 e; omega))) (by omega)
          have hfsn : ∀ w3 w4, Below wr.heap.size wr w3 → Fs p lv.ownBlock w3 w4 → Fs p none wL w4 := fun w3 w4 b3 f4 => hfs.trans ((Fs.of_below b3).then f4) (fun k e => .inr (hlv k e))
          have hbel : ∀ wx, Fs p none wL wx → Below w.heap.size w wx := fun wx f => HB.out.trans (f.below HBP.out (fun k e => by cases e) HB.out.size)
          obtain ⟨aok, capk, rfl, _⟩ := hrk
          have HBy := Lib.hid hBy
          have HK := Lib.hid hkept
          have HFsn := Lib.hid hfsn
          have HBel := Lib.hid hbel
          have HFl := Lib.hid hfl
          have HLe := Lib.hid hle
          have HAl2 := Lib.hid hall
          have HA := Lib.hid hA
          have HSn1 := Lib.hid hsn
          have HLv := Lib.hid hlv
          have HLvs := Lib.hid hlvs
          have HBr := Lib.hid hBr
          have HPs := Lib.hid hps
          have HCC := Lib.hid hc
          have HX0 := Lib.hid hx0
          have HRk0 := Lib.hid hrk0
          clear hBy hkept hfsn hbel hfl hle hall hA hsn hlv hlvs hBr hps hc hx0 hrk0 hnok hq hfs
          rcases hcase with ⟨rfl, rfl, hlnA, hnn, hA0⟩ | ⟨rfl, rfl, h12⟩
          · have hlnA2 := hlnA.symm
            clear hlnA
            subst hlnA2
            subst hnn
            have hln : A.length + q.length ≤ 2000 := by have := HSM.out; have := HLe.out; omega
            have hpc := fd_piece A q (P.drop (k + 1)).flatten hA0
            rw [← HAl2.out, HT.out] at hpc
            have hlive := fd_live A [] (by simp) can_nil hA0
            have HLn := Lib.hid hln
            have hfeed : ∀ w3 g3 cp3, Below wr.heap.size wr w3 → w3.ownsRow wr.heap.size 5 1 (.slice (some ⟨g3, 0, none⟩) (q ++ tl6).length cp3) (q ++ tl6).length (bv (q ++ tl6)) →
                Calls Tryd.prog 28 #[.pointer (some ⟨p, 0, none⟩), .slice (some ⟨g3, 0, none⟩) q.length cp3] w3 fun e w' => e = .returned (.tuple #[n64 (fd A q).1, errv a (fd A q).2.1]) ∧ ∃ lv', Sn w.heap.size p (fd A q).2.1 (fd A q).2.2 lv' w' ∧ Fs p lv.ownBlock w3 w' ∧ (∀ k, lv'.ownBlock = some k → lv.ownBlock = some k ∨ w3.heap.size ≤ k) := fun w3 g3 cp3 b3 o3 => by
              have hg3 := own_lo o3 g3 rfl
              exact feed_any w.heap.size p A q lv _ w3 (HSn1.out.below b3 (Nat.le_refl _)) a m (HG.out.below (HBr.out.trans (b3.mono HBr.out.size))) (by have := HLn.out; omega) (rb_pre o3) (fun ad n c e => by
                injection e with e1
                injection e1 with e1
                subst e1
                exact ⟨by show g3 ≠ p; have := HPs.out; omega, fun e => by have := HLvs.out g3 e; omega⟩)
            clear hA0 hln hlive
            rcases hpc with ⟨h1, h2, h3', h4⟩ | ⟨h1, h2, h3', h4⟩
            · exfalso
              have : (fd A q).2.1 = 0 := by rw [← (Prod.mk.inj h2).2]
              exact h1 this
            · have hEE : P.flatten.length = E := HE.out.symm
              have hle3 : A.length + q.length ≤ E := by rw [← hEE]; exact h3'
              rw [h1] at hfeed
              have HFeed := Lib.hid hfeed
              have hlv2 := fd_live (A ++ q) [] (by simp) can_nil h2
              have hl66 : (A ++ q).length ≤ 66 := live_len (by simpa using hlv2.1) (by simpa using hlv2.2)
              have hal : (A ++ q).length = A.length + q.length := by simp
              obtain ⟨B, hB'⟩ : ∃ B, B = A ++ q := ⟨_, rfl⟩
              rw [← hB'] at HFeed h2 hl66 hal
              obtain ⟨d, hd⟩ : ∃ d : Nat, d = E - A.length := ⟨_, rfl⟩
              have b1 : d ≤ 4000 := by have := HEb.out; omega
              have b3 : A.length ≤ 2000 := by have := HLn.out; omega
              have e1 : (E : Int) - (A.length : Int) = (d : Int) := by omega
              have w1' : IntKind.i64.wrap (d : Int) = (d : Int) := IntWalk.i64_in _ (by omega)
              have hmn : mn (q.length : Int) (d : Int) = (q.length : Int) := by unfold mn; omega
              have e2 : (A.length : Int) + (q.length : Int) = (B.length : Int) := by omega
              have w2' : IntKind.i64.wrap (B.length : Int) = (B.length : Int) := IntWalk.i64_in _ (by omega)
              skip
              have qne : ((q.length : Int) != (q.length : Int)) = false := by simp
              have qne2 : ((B.length : Int) != (B.length : Int)) = false := by simp
              have q128 : decide (128 < (B.length : Int)) = false := by simp; omega
              have he0 : errv a 0 = .nilIface := rfl
              have HB' := Lib.hid hB'
              have HH2 := Lib.hid h2
              clear hfeed hlv2 hl66 hal hB' hd h1 h2 h3' h4 hle3 hEE
              go_wp2_with (first
                | (go_at_call 33; refine HBy.out.mono ?_; rintro e w3 ⟨g3, cp3, rfl, hcp3, ho3, hB3⟩)
                | (go_at_call 28; refine (HFeed.out w3 g3 cp3 hB3 ho3).mono ?_; rintro e w4 ⟨rfl, lv4, hs4, hf4, ho4⟩)
                | (go_at_call 34; refine (HK.out w3 g3 cp3 w4 hB3 ho3 hf4).mono ?_; rintro e w5 ⟨rfl, hB5⟩; have hs5 := hs4.below hB5 (Nat.le_refl _); have hfs5 : Fs p none wL w5 := (HFsn.out w3 w4 hB3 hf4).trans (Fs.of_below (ob := none) hB5) (fun _ e => by cases e); have HN5 := Lib.hid (name_no hs5 (.inl rfl)); have HBd := Lib.hid (show Calls Tryd.prog 30 #[.pointer (some ⟨p, 0, none⟩)] w5 fun e w' => e = .returned (.bool false) ∧ w' = w5 from bad_any hs5 (.inl rfl)); have HHe := Lib.hid (show Calls Tryd.prog 35 #[.pointer (some ⟨p, 0, none⟩)] w5 fun e w' => e = .returned (n64 B.length) ∧ w' = w5 from held_any hs5 (.inl rfl)))
                | (go_at_call 29; refine HN5.out.mono ?_; rintro e w6 ⟨rfl, rfl⟩)
                | (go_at_call 30; refine HBd.out.mono ?_; rintro e w7 ⟨rfl, rfl⟩)
                | (go_at_call 35; refine HHe.out.mono ?_; rintro e w8 ⟨rfl, rfl⟩))
              go_roundw
              case rel =>
                refine ⟨k + 1, B.length, false, by omega, by go_num, rfl, rfl, hfs5, 0, B, lv4, hs5, fun g e => ?_, .inl ⟨rfl, rfl, by rw [HFl.out, HB'.out], rfl, HH2.out⟩⟩
                rcases ho4 g e with h | h
                · exact HLv.out g h
                · exact Nat.le_trans (HFsn.out w3 w3 hB3 (Fs.refl _ _ _)).size h
              case measure => simp [intOf]; omega
          · rcases h12 with h | h <;> exact absurd h (by decide)
        · obtain rfl : k = P.length := by omega
          have hBe : Below w.heap.size w wr := HB.out.trans (hfs.below HBP.out (fun k e => by cases e) HB.out.size)
          clear hcase
          go_wp2
          go_ret
          exact ⟨rfl, hBe⟩

set_option maxRecDepth 20000 in
set_option maxHeartbeats 4000000 in
theorem feedsLaw_1 (P : List (List UInt8)) (v : Value) (w : World) (hr : Rbb w v P) (hP : P.length ≤ 9223372036854775807) (hl : ∀ p ∈ P, p.length ≤ 9223372036854775807) (a a2 : Addr) (m : Int) (hg : Gl w a m) (hst : w.cell? ⟨1, 0, none⟩ = some (er a2))
    (E : Nat) (hw : wlk [] P.flatten = (E, true)) (hT : fd [] P.flatten = (E, 1, P.flatten.take E)) (h5 : 5 ≤ E) (hEn : E ≤ P.flatten.length) :
    Calls Tryd.prog 11 #[v] w fun e w' => e = .returned (.bool true) ∧ Below w.heap.size w w' := by
  have HR := Lib.hid hr
  have HFew := Lib.hid (fun wx (h : Rbb wx v P) => few_any P v wx h hP hl)
  obtain ⟨ao, cap, rfl, hao⟩ := hr
  have HAO := Lib.hid hao
  have HG := Lib.hid hg.gb
  have HST := Lib.hid hst
  have HW := Lib.hid hw
  have HT := Lib.hid hT
  have HAl := Lib.hid (alive17_any w a m hg)
  have h3 := hg.low
  have H5 := Lib.hid h5
  have HEn := Lib.hid hEn
  clear hg hst hw hT hao hl h5 hEn
  go_enter Tryd.func11, Tryd.ntmps11
  go_upto_region 3 with (go_at_call 25; refine HAl.out.mono ?_; rintro e w1 ⟨rfl, hB1⟩)
  have hfew := HFew.out w1 (HR.out.below hB1 (Nat.le_refl _))
  have HF1 := Lib.hid hfew
  have HB1 := Lib.hid hB1
  clear hfew hB1 HFew HAl
  go_upto_region 5 with (go_at_call 31; refine HF1.out.mono ?_; rintro e w2 ⟨⟨fb, rfl, hfb⟩, rfl⟩; have HFB := Lib.hid hfb; clear hfb; cases fb)
  · go_wp2
    go_ret
    exact ⟨rfl, HB1.out⟩
  have HSM := Lib.hid (show P.length + P.flatten.length ≤ 2000 by first | exact HFB.out rfl | exact HFB.out trivial)
  clear HFB HF1
  -- a sniffer, and all the bytes
  obtain ⟨p, hp⟩ : ∃ p, p = w1.heap.size := ⟨_, rfl⟩
  obtain ⟨w2, hw2⟩ : ∃ w2, w2 = w1.alloc (.cells #[n64 0, .slice none 0 0] 63) := ⟨_, rfl⟩
  have hbp : w.heap.size ≤ p := by rw [hp]; exact HB1.out.size
  have sn2 := new_sn w.heap.size w1 HB1.out.size
  have hB2 := HB1.out.alloc HB1.out.size (.cells #[n64 0, .slice none 0 0] 63)
  have e2 : w2.heap.size = p + 1 := by rw [hw2, hp]; simp
  rw [← hw2, ← hp] at sn2
  rw [← hw2] at hB2
  have o3 := empty_own (p + 1) w2 (by omega)
  have hB3 := hB2.alloc hB2.size (.cells #[] 5)
  have sn3 := sn2.below ((Below.refl w2.heap.size w2).alloc (Nat.le_refl _) (.cells #[] 5)) (Nat.le_refl _)
  have HO3 := Lib.hid o3
  have HB3 := Lib.hid hB3
  have HSn3 := Lib.hid sn3
  have HW2 := Lib.hid hw2
  have HP := Lib.hid hp
  have HE2 := Lib.hid e2
  have HBP := Lib.hid hbp
  clear sn2 hB2 o3 hB3 sn3 hw2 hp e2 hbp
  go_upto_region 6 with (go_at_call 27; refine (new_any _).mono ?_; rintro e w6 ⟨rfl, rfl⟩)
  rw [← HW2.out, ← HP.out]
  go_upto_region 8 with fail
  go_loopw [4, 6, 31] (fun s _ i wr => ∃ (k : Nat), k ≤ P.length ∧ i = n64 k ∧ wr.ownsRow (p + 1) 5 1 s (P.take k).flatten.length (bv (P.take k).flatten) ∧ Sn w.heap.size p 0 [] (.slice none 0 0) wr ∧ Below w.heap.size w wr) (fun _ _ i _ => P.length - (intOf i).toNat)
  case atStart => exact ⟨0, by omega, rfl, by exact HO3.out, by exact HSn3.out, by exact HB3.out⟩
  case round =>
    clear HO3 HSn3 HB3
    obtain ⟨k, hk, rfl, hown, hsn, hB⟩ := hrel
    have HO := Lib.hid hown
    have HSn := Lib.hid hsn
    have HBr := Lib.hid hB
    by_cases hlk : k < P.length
    · obtain ⟨ao', cap', ev, hcc⟩ := HR.out.below hB (Nat.le_refl _)
      injection ev with ev1 _ ev2
      subst ev1 ev2
      obtain ⟨b, off, rfl, hb, hc⟩ := hcc (by omega)
      obtain ⟨vk, hx, hrk, hnok⟩ := hc k hlk
      have hfl := flat_snoc P k hlk
      have hle := flat_le P (k + 1)
      rw [hfl, List.length_append] at hle
      generalize P.getD k [] = q at *
      obtain ⟨A, hA⟩ : ∃ A, A = (P.take k).flatten := ⟨_, rfl⟩
      rw [← hA] at HO hfl hle
      have HFl := Lib.hid hfl
      have HLe := Lib.hid hle
      have HRk := Lib.hid hrk
      have HNk := Lib.hid hnok
      have HCC := Lib.hid hcc
      have HC := Lib.hid hc
      have ck : ((k : Int) + 1) ≤ 4294967290 := by have := HSM.out; omega
      clear hown hsn hB hfl hle hrk hnok hcc hc hA
      go_wp2_with (at_builtin; refine wp_app_rb rfl (.tmp 35) (.tmp 36) rfl _ (p + 1) A q _ HO.out rfl _ rfl HRk.out HNk.out ?c1 ?c2 ?_)
      case c1 => have := HSM.out; have := HLe.out; omega
      case c2 => have := HSn.out.blk.lt; omega
      intro s' w5 o5 g5
      have o5' : w5.ownsRow (p + 1) 5 1 s' (A ++ q).length (bv (A ++ q)) := by rw [List.length_append]; exact o5
      have hb5 : Below (p + 1) wr w5 := grown_below g5 (fun g hg => (own_lo HO.out g hg).1) (by have := HSn.out.blk.lt; omega)
      have hsn5 := HSn.out.same (hb5.block p (by omega)) (fun g e => by simp [Value.ownBlock] at e)
      have hB5 := HBr.out.trans (hb5.mono (by have := HBP.out; omega))
      have HO5 := Lib.hid o5'
      have HSn5 := Lib.hid hsn5
      have HB5 := Lib.hid hB5
      clear o5 o5' g5 hb5 hsn5 hB5
      go_wp2
      go_roundw
      case rel => exact ⟨k + 1, by omega, by go_num, by rw [HFl.out]; exact HO5.out, HSn5.out, HB5.out⟩
      case measure => simp [intOf]; omega
    · obtain rfl : k = P.length := by omega
      rw [List.take_length] at hown
      clear HO HSn HBr
      obtain ⟨wL, hwL⟩ : ∃ x, x = wr := ⟨wr, rfl⟩
      subst hwL
      have hlo := own_lo hown
      have hform := hown.form
      have hcapA : ∀ g n c, u4 = .slice (some ⟨g, 0, none⟩) n c → n ≤ c := fun g n c e => by
        obtain ⟨_, ⟨e2, _⟩ | ⟨g', cap', cur, e2, _, _, hcp, _⟩⟩ := hown
        · rw [e2] at e; cases e
        · rw [e2] at e
          injection e with _ e3 e4
          omega
      have hRall := Rb.own hown
      obtain ⟨aoA, capA, hvA, hcA⟩ := hRall
      obtain ⟨N, hN⟩ : ∃ N, N = P.flatten.length := ⟨_, rfl⟩
      rw [← hN] at hvA hcA hform
      subst hvA
      have hwk := rwalk_any P.flatten (by have := HSM.out; omega) (.slice aoA N capA) wL ⟨aoA, capA, by rw [hN], by rw [← hN]; exact hcA⟩
      rw [HW.out] at hwk
      have HWk := Lib.hid hwk
      have HForm := Lib.hid hform
      have HCapA := Lib.hid hcapA
      have HcA := Lib.hid hcA
      have HN := Lib.hid hN
      have HSn := Lib.hid hsn
      have HB := Lib.hid hB
      have HLo := Lib.hid hlo
      clear hown hwk hform hcapA hcA hN hsn hB hlk hlo
      obtain ⟨gA, capB, eA, hgA, hgA2⟩ := HForm.out (by have := HEn.out; have := H5.out; have := HN.out; omega)
      injection eA with eA1 _ eA2
      subst eA1 eA2
      have hNc := HCapA.out gA N capA rfl
      obtain ⟨em, hem⟩ : ∃ em : Nat, em = E - 1 := ⟨_, rfl⟩
      obtain ⟨nm, hnm⟩ : ∃ nm, nm = (P.flatten.take em).drop 3 := ⟨_, rfl⟩
      have hlenE : (P.flatten.take E).length = E := by have := HEn.out; simp only [List.length_take]; omega
      have hnm2 : ((P.flatten.take E).drop 3).take ((P.flatten.take E).length - 4) = nm := by
        have h5 := H5.out
        rw [hlenE, hnm, List.drop_take, List.drop_take, List.take_take, hem]
        congr 1
        omega
      have hnml : nm.length = em - 3 := by
        have h5 := H5.out
        have := HEn.out
        rw [hnm, List.length_drop, List.length_take]
        omega
      have hcv : ∀ wx, Fs p none wL wx → (convert 37 9 (.slice (some ⟨gA, 3, none⟩) (em - 3) (capA - 3))).run Tryd.prog wx = .ok (.string (bs nm)) wx := fun wx f => by
        rw [← hnml]
        refine rb_conv ⟨_, _, rfl, fun _ => ⟨gA, 3, rfl, Nat.lt_of_lt_of_le hgA2 f.size, fun j hj => ?_⟩⟩
        have h5 := H5.out
        have := HEn.out
        have hN' := HN.out
        obtain ⟨b, off, e, _, hc⟩ := HcA.out (by omega)
        injection e with e
        injection e with e1 e2
        subst e1 e2
        rw [World.cell?_of_block (w := wL) (f.other gA hgA2 (by omega) (fun e => by cases e)), show 3 + j = 0 + (3 + j) by omega, hc (3 + j) (by omega), hnm, List.getD_eq_getElem?_getD, List.getD_eq_getElem?_getD, List.getElem?_drop, List.getElem?_take_of_lt (by omega)]
      have f0 : (E : Int) - 1 = (em : Int) := by have := H5.out; omega
      have f00 : IntKind.i64.wrap (em : Int) = (em : Int) := IntWalk.i64_in _ (by have := HEn.out; have := HSM.out; omega)
      have f1 : em ≤ capA := by have := HEn.out; have := HN.out; omega
      have f2 : (3 : Int) ≤ (em : Int) := by have := H5.out; omega
      have f3 : ¬ capA = 3 := by have := HEn.out; have := HN.out; have := H5.out; omega
      have HNm := Lib.hid hnm2
      have HCv := Lib.hid hcv
      have HL5 := Lib.hid (show 5 ≤ (P.flatten.take E).length by have := H5.out; omega)
      have HL6 := Lib.hid (show (P.flatten.take E).length < 4294967281 by have := HEn.out; have := HSM.out; omega)
      have HEb := Lib.hid (show E ≤ 4000 by have := HEn.out; have := HSM.out; omega)
      clear hem hnm hlenE hnm2 hnml hcv hNc HForm HCapA
      go_upto_region 20 with (go_at_call 32; refine HWk.out.mono ?_; rintro e w4 ⟨rfl, rfl⟩)
      go_loopw [11, 12, 58] (fun at_ ov i wr => ∃ (k n : Nat) (over : Bool), Fl P 1 w.heap.size p wL k n over i at_ ov wr) (fun _ _ i _ => P.length - (intOf i).toNat)
      case atStart => exact ⟨0, 0, false, by omega, rfl, rfl, rfl, Fs.refl _ _ _, 0, [], .slice none 0 0, HSn.out, (fun g e => by simp [Value.ownBlock] at e), .inl ⟨rfl, rfl, rfl, rfl, rfl⟩⟩
      case round =>
        obtain ⟨k, n, over, hk, rfl, rfl, rfl, hfs, st, ln1, lv, hsn, hlv, hcase⟩ := hrel
        by_cases hlk : k < P.length
        · have hBr : Below w.heap.size w wr := HB.out.trans (hfs.below HBP.out (fun k e => by cases e) HB.out.size)
          obtain ⟨b, off, rfl, hb, hc⟩ := HAO.out (by omega)
          obtain ⟨vk, hx0, hrk0, hnok⟩ := hc k hlk
          have hx := (hBr.cell (p := ⟨b, off + k, none⟩) hb).trans hx0
          have hrk := hrk0.below hBr (Nat.le_refl _)
          have hfl := flat_snoc P k hlk
          have hle := flat_le P (k + 1)
          rw [hfl, List.length_append] at hle
          have hall : P.flatten = (P.take k).flatten ++ P.getD k [] ++ (P.drop (k + 1)).flatten := by
            rw [← hfl, ← List.flatten_append, List.take_append_drop]
          obtain ⟨q, hq⟩ : ∃ q, q = P.getD k [] := ⟨_, rfl⟩
          rw [← hq] at hrk0 hrk hfl hle hall
          obtain ⟨A, hA⟩ : ∃ A, A = (P.take k).flatten := ⟨_, rfl⟩
          rw [← hA] at hfl hle hall hcase
          have hps := hsn.blk.lt
          have hlvs := own_lo hsn.own
          have ck : ((k : Int) + 1) ≤ 4294967290 := by have := HSM.out; omega
          have hq2 : q.length ≤ 2000 := by have := HSM.out; omega
          have hBy := bytes_any q vk wr hrk hnok (by omega)
          have hkept : ∀ w3 g3 cp3 w4, Below wr.heap.size wr w3 → w3.ownsRow wr.heap.size 5 1 (.slice (some ⟨g3, 0, none⟩) (q ++ tl6).length cp3) (q ++ tl6).length (bv (q ++ tl6)) → Fs p lv.ownBlock w3 w4 →
              Calls Tryd.prog 34 #[.slice (some ⟨g3, 0, none⟩) q.length cp3, vk] w4 fun e w' => e = .returned (.bool true) ∧ Below w4.heap.size w4 w' := fun w3 g3 cp3 w4 b3 o3 f4 => by
            have hg3 := own_lo o3 g3 rfl
            have b4 : Below w.heap.size w w4 := (hBr.trans (b3.mono hBr.size)).trans (f4.below HBP.out (fun k e => by have := hlv k e; have := HB.out.size; omega) (Nat.le_trans hBr.size b3.size))
            exact kept_any q vk w4 (hrk0.below b4 (Nat.le_refl _)) wr.heap.size g3 cp3 (own_same o3 (fun g hg => by
              have hgg : g3 = g := by simpa [Value.ownBlock] using hg
              subst hgg
              exact f4.other g3 hg3.2 (by omega) (fun e => by have := hlvs g3 e; omega))) (by omega)
          have hfsn : ∀ w3 w4, Below wr.heap.size wr w3 → Fs p lv.ownBlock w3 w4 → Fs p none wL w4 := fun w3 w4 b3 f4 => hfs.trans ((Fs.of_below b3).then f4) (fun k e => .inr (hlv k e))
          have hbel : ∀ wx, Fs p none wL wx → Below w.heap.size w wx := fun wx f => HB.out.trans (f.below HBP.out (fun k e => by cases e) HB.out.size)
          obtain ⟨aok, capk, rfl, _⟩ := hrk
          have HBy := Lib.hid hBy
          have HK := Lib.hid hkept
          have HFsn := Lib.hid hfsn
          have HBel := Lib.hid hbel
          have HFl := Lib.hid hfl
          have HLe := Lib.hid hle
          have HAl2 := Lib.hid hall
          have HA := Lib.hid hA
          have HSn1 := Lib.hid hsn
          have HLv := Lib.hid hlv
          have HLvs := Lib.hid hlvs
          have HBr := Lib.hid hBr
          have HPs := Lib.hid hps
          have HCC := Lib.hid hc
          have HX0 := Lib.hid hx0
          have HRk0 := Lib.hid hrk0
          clear hBy hkept hfsn hbel hfl hle hall hA hsn hlv hlvs hBr hps hc hx0 hrk0 hnok hq hfs
          rcases hcase with ⟨rfl, rfl, hlnA, hnn, hA0⟩ | ⟨rfl, rfl, h12⟩
          · have hlnA2 := hlnA.symm
            clear hlnA
            subst hlnA2
            subst hnn
            have hln : A.length + q.length ≤ 2000 := by have := HSM.out; have := HLe.out; omega
            have hpc := fd_piece A q (P.drop (k + 1)).flatten hA0
            rw [← HAl2.out, HT.out] at hpc
            have hlive := fd_live A [] (by simp) can_nil hA0
            have HLn := Lib.hid hln
            have hfeed : ∀ w3 g3 cp3, Below wr.heap.size wr w3 → w3.ownsRow wr.heap.size 5 1 (.slice (some ⟨g3, 0, none⟩) (q ++ tl6).length cp3) (q ++ tl6).length (bv (q ++ tl6)) →
                Calls Tryd.prog 28 #[.pointer (some ⟨p, 0, none⟩), .slice (some ⟨g3, 0, none⟩) q.length cp3] w3 fun e w' => e = .returned (.tuple #[n64 (fd A q).1, errv a (fd A q).2.1]) ∧ ∃ lv', Sn w.heap.size p (fd A q).2.1 (fd A q).2.2 lv' w' ∧ Fs p lv.ownBlock w3 w' ∧ (∀ k, lv'.ownBlock = some k → lv.ownBlock = some k ∨ w3.heap.size ≤ k) := fun w3 g3 cp3 b3 o3 => by
              have hg3 := own_lo o3 g3 rfl
              exact feed_any w.heap.size p A q lv _ w3 (HSn1.out.below b3 (Nat.le_refl _)) a m (HG.out.below (HBr.out.trans (b3.mono HBr.out.size))) (by have := HLn.out; omega) (rb_pre o3) (fun ad n c e => by
                injection e with e1
                injection e1 with e1
                subst e1
                exact ⟨by show g3 ≠ p; have := HPs.out; omega, fun e => by have := HLvs.out g3 e; omega⟩)
            clear hA0 hln hlive
            rcases hpc with ⟨h1, h2, h3', h4⟩ | ⟨h1, h2, h3', h4⟩
            · obtain ⟨x1, hx1⟩ : ∃ x, x = (fd A q).1 := ⟨_, rfl⟩
              rw [← hx1] at h2 h3' h4
              obtain ⟨hE1, hS1⟩ := Prod.mk.inj h2
              have hfd : fd A q = (x1, 1, (P.flatten.take E)) := Prod.ext hx1.symm hS1.symm
              rw [hfd] at hfeed
              have HFeed := Lib.hid hfeed
              have b1 : x1 ≤ 2000 := by omega
              have b2 : E ≤ 4000 := by have := HLn.out; omega
              have b3 : A.length ≤ 2000 := by have := HLn.out; omega
              have e1 : (E : Int) - (A.length : Int) = (x1 : Int) := by omega
              have w1' : IntKind.i64.wrap (x1 : Int) = (x1 : Int) := IntWalk.i64_in _ (by omega)
              have hmn : mn (q.length : Int) (x1 : Int) = (x1 : Int) := by unfold mn; omega
              have e2 : (A.length : Int) + (x1 : Int) = (E : Int) := by omega
              have w2' : IntKind.i64.wrap (E : Int) = (E : Int) := IntWalk.i64_in _ (by omega)
              have qE : ((E : Int) == (E : Int)) = true := by simp
              have q3 : decide (0 < (q.length : Int)) = true := by simp; omega
              have q4 : decide (0 < (x1 : Int)) = true := by simp; omega
              have q3b : decide (0 < q.length) = true := by simp; omega
              have q3c : ¬ q = [] := fun e => by rw [e] at h4; simp at h4; omega
              have q4b : decide (0 < x1) = true := by simp; omega
              have qne : ((x1 : Int) != (x1 : Int)) = false := by simp
              have he1 : errv a 1 = .nilIface := rfl
              have he2 : errv a 2 = er a := rfl
              have hm := fun wx => neq_er a wx
              clear hfeed hx1 hE1 hS1 hfd h1 h2 h3' h4
              have H1Nm := Lib.hid (show ∀ wx, Fs p none wL wx → (convert 37 9 (.slice (some ⟨gA, 3, none⟩) (em - 3) (capA - 3))).run Tryd.prog wx = .ok (.string (bs nm)) wx from HCv.out)
              have qnm : (nm != nm) = false := by simp
              have tnm : (bs nm).toList = nm := ByteArray.toList_mk nm
              go_wp2_with (first
                | (go_at_call 33; refine HBy.out.mono ?_; rintro e w3 ⟨g3, cp3, rfl, hcp3, ho3, hB3⟩)
                | (go_at_call 28; refine (HFeed.out w3 g3 cp3 hB3 ho3).mono ?_; rintro e w4 ⟨rfl, lv4, hs4, hf4, ho4⟩)
                | (go_at_call 34; refine (HK.out w3 g3 cp3 w4 hB3 ho3 hf4).mono ?_; rintro e w5 ⟨rfl, hB5⟩; have hs5 := hs4.below hB5 (Nat.le_refl _); have hn5 := name_yes hs5 HL5.out HL6.out; rw [HNm.out] at hn5; have HN5 := Lib.hid hn5; clear hn5)
                | (go_at_call 29; refine HN5.out.mono ?_; rintro e w6 ⟨rfl, hB6⟩; have hs6 := hs5.below hB6 (Nat.le_refl _); have hfs6 : Fs p none wL w6 := ((HFsn.out w3 w4 hB3 hf4).trans (Fs.of_below (ob := none) hB5) (fun _ e => by cases e)).trans (Fs.of_below (ob := none) hB6) (fun _ e => by cases e); have hcv := H1Nm.out w6 hfs6; have HBd := Lib.hid (show Calls Tryd.prog 30 #[.pointer (some ⟨p, 0, none⟩)] w6 fun e w' => e = .returned (.bool false) ∧ w' = w6 from bad_any hs6 (.inr (.inl rfl))); have HHe := Lib.hid (show Calls Tryd.prog 35 #[.pointer (some ⟨p, 0, none⟩)] w6 fun e w' => e = .returned (n64 0) ∧ w' = w6 from held_any hs6 (.inr (.inl rfl))))
                | (go_at_call 30; refine HBd.out.mono ?_; rintro e w7 ⟨rfl, rfl⟩)
                | (go_at_call 35; refine HHe.out.mono ?_; rintro e w8 ⟨rfl, rfl⟩))
              go_roundw
              case rel =>
                refine ⟨k + 1, E, true, by omega, by go_num, rfl, rfl, hfs6, 1, _, lv4, hs6, fun g e => ?_, .inr ⟨rfl, rfl, .inl rfl⟩⟩
                rcases ho4 g e with h | h
                · exact HLv.out g h
                · exact Nat.le_trans (Nat.le_trans (HFsn.out w3 w3 hB3 (Fs.refl _ _ _)).size (Nat.le_refl _)) h
              case measure => simp [intOf]; omega
            · have hlt : A.length + q.length < E := h4 (show (1 : Int) ≠ 0 by decide)
              have hle3 : A.length + q.length ≤ E := h3'
              rw [h1] at hfeed
              have HFeed := Lib.hid hfeed
              have hlv2 := fd_live (A ++ q) [] (by simp) can_nil h2
              have hl66 : (A ++ q).length ≤ 66 := live_len (by simpa using hlv2.1) (by simpa using hlv2.2)
              have hal : (A ++ q).length = A.length + q.length := by simp
              obtain ⟨B, hB'⟩ : ∃ B, B = A ++ q := ⟨_, rfl⟩
              rw [← hB'] at HFeed h2 hl66 hal
              obtain ⟨d, hd⟩ : ∃ d : Nat, d = E - A.length := ⟨_, rfl⟩
              have b1 : d ≤ 4000 := by have := HEb.out; omega
              have b3 : A.length ≤ 2000 := by have := HLn.out; omega
              have e1 : (E : Int) - (A.length : Int) = (d : Int) := by omega
              have w1' : IntKind.i64.wrap (d : Int) = (d : Int) := IntWalk.i64_in _ (by omega)
              have hmn : mn (q.length : Int) (d : Int) = (q.length : Int) := by unfold mn; omega
              have e2 : (A.length : Int) + (q.length : Int) = (B.length : Int) := by omega
              have w2' : IntKind.i64.wrap (B.length : Int) = (B.length : Int) := IntWalk.i64_in _ (by omega)
              have qE : ((B.length : Int) == (E : Int)) = false := by simp; omega
              have qne : ((q.length : Int) != (q.length : Int)) = false := by simp
              have qne2 : ((B.length : Int) != (B.length : Int)) = false := by simp
              have q128 : decide (128 < (B.length : Int)) = false := by simp; omega
              have he0 : errv a 0 = .nilIface := rfl
              have HB' := Lib.hid hB'
              have HH2 := Lib.hid h2
              clear hfeed hlv2 hl66 hal hB' hd h1 h2 h3' h4 hle3 hlt
              go_wp2_with (first
                | (go_at_call 33; refine HBy.out.mono ?_; rintro e w3 ⟨g3, cp3, rfl, hcp3, ho3, hB3⟩)
                | (go_at_call 28; refine (HFeed.out w3 g3 cp3 hB3 ho3).mono ?_; rintro e w4 ⟨rfl, lv4, hs4, hf4, ho4⟩)
                | (go_at_call 34; refine (HK.out w3 g3 cp3 w4 hB3 ho3 hf4).mono ?_; rintro e w5 ⟨rfl, hB5⟩; have hs5 := hs4.below hB5 (Nat.le_refl _); have hfs5 : Fs p none wL w5 := (HFsn.out w3 w4 hB3 hf4).trans (Fs.of_below (ob := none) hB5) (fun _ e => by cases e); have HN5 := Lib.hid (name_no hs5 (.inl rfl)); have HBd := Lib.hid (show Calls Tryd.prog 30 #[.pointer (some ⟨p, 0, none⟩)] w5 fun e w' => e = .returned (.bool false) ∧ w' = w5 from bad_any hs5 (.inl rfl)); have HHe := Lib.hid (show Calls Tryd.prog 35 #[.pointer (some ⟨p, 0, none⟩)] w5 fun e w' => e = .returned (n64 B.length) ∧ w' = w5 from held_any hs5 (.inl rfl)))
                | (go_at_call 29; refine HN5.out.mono ?_; rintro e w6 ⟨rfl, rfl⟩)
                | (go_at_call 30; refine HBd.out.mono ?_; rintro e w7 ⟨rfl, rfl⟩)
                | (go_at_call 35; refine HHe.out.mono ?_; rintro e w8 ⟨rfl, rfl⟩))
              go_roundw
              case rel =>
                refine ⟨k + 1, B.length, false, by omega, by go_num, rfl, rfl, hfs5, 0, B, lv4, hs5, fun g e => ?_, .inl ⟨rfl, rfl, by rw [HFl.out, HB'.out], rfl, HH2.out⟩⟩
                rcases ho4 g e with h | h
                · exact HLv.out g h
                · exact Nat.le_trans (HFsn.out w3 w3 hB3 (Fs.refl _ _ _)).size h
              case measure => simp [intOf]; omega
          · have hm := fun wx => neq_er a2 wx
            have HShut := Lib.hid (show ∀ w3 v3, Below wr.heap.size wr w3 → Calls Tryd.prog 28 #[.pointer (some ⟨p, 0, none⟩), v3] w3 fun e w' => e = .returned (.tuple #[n64 0, er a2]) ∧ Below w3.heap.size w3 w' from fun w3 v3 b3 => feed_shut (HSn1.out.below b3 (Nat.le_refl _)) (.inl rfl) v3 a2 ((((HBr.out.trans (b3.mono HBr.out.size))).cell (p := ⟨1, 0, none⟩) (by show 1 < w.heap.size; omega)).trans HST.out))
            clear h12
            go_wp2_with (first
              | (go_at_call 33; refine HBy.out.mono ?_; rintro e w3 ⟨g3, cp3, rfl, hcp3, ho3, hB3⟩)
              | (go_at_call 28; refine (HShut.out w3 _ hB3).mono ?_; rintro e w4 ⟨rfl, hB4⟩; have hf4 : Fs p lv.ownBlock w3 w4 := Fs.of_below hB4)
              | (go_at_call 34; refine (HK.out w3 g3 cp3 w4 hB3 ho3 hf4).mono ?_; rintro e w5 ⟨rfl, hB5⟩; have hfs5 : Fs p none wL w5 := (HFsn.out w3 w4 hB3 hf4).trans (Fs.of_below (ob := none) hB5) (fun _ e => by cases e); have hn5 := ((HBel.out w5 hfs5).cell (p := ⟨1, 0, none⟩) (by show 1 < w.heap.size; omega)).trans HST.out))
            have hs5 := ((HSn1.out.below hB3 (Nat.le_refl _)).below hB4 (Nat.le_refl _)).below hB5 (Nat.le_refl _)
            go_roundw
            case rel => exact ⟨k + 1, n, true, by omega, by go_num, rfl, rfl, hfs5, _, ln1, lv, hs5, HLv.out, .inr ⟨rfl, rfl, .inl rfl⟩⟩
            case measure => simp [intOf]; omega
        · obtain rfl : k = P.length := by omega
          have hBe : Below w.heap.size w wr := HB.out.trans (hfs.below HBP.out (fun k e => by cases e) HB.out.size)
          clear hcase
          go_wp2
          go_ret
          exact ⟨rfl, hBe⟩

set_option maxRecDepth 20000 in
set_option maxHeartbeats 4000000 in
theorem feedsLaw_2 (P : List (List UInt8)) (v : Value) (w : World) (hr : Rbb w v P) (hP : P.length ≤ 9223372036854775807) (hl : ∀ p ∈ P, p.length ≤ 9223372036854775807) (a a2 : Addr) (m : Int) (hg : Gl w a m) (hst : w.cell? ⟨1, 0, none⟩ = some (er a2))
    (E : Nat) (r1 : Nat) (hw : wlk [] P.flatten = (r1, false)) (hT : fd [] P.flatten = (E, 2, [])) (hE : E = r1 + 1) (hEn : r1 < P.flatten.length) :
    Calls Tryd.prog 11 #[v] w fun e w' => e = .returned (.bool true) ∧ Below w.heap.size w w' := by
  have HR := Lib.hid hr
  have HFew := Lib.hid (fun wx (h : Rbb wx v P) => few_any P v wx h hP hl)
  obtain ⟨ao, cap, rfl, hao⟩ := hr
  have HAO := Lib.hid hao
  have HG := Lib.hid hg.gb
  have HST := Lib.hid hst
  have HW := Lib.hid hw
  have HT := Lib.hid hT
  have HAl := Lib.hid (alive17_any w a m hg)
  have h3 := hg.low
  have HE := Lib.hid hE
  have HEn := Lib.hid hEn
  clear hg hst hw hT hao hl hE hEn
  go_enter Tryd.func11, Tryd.ntmps11
  go_upto_region 3 with (go_at_call 25; refine HAl.out.mono ?_; rintro e w1 ⟨rfl, hB1⟩)
  have hfew := HFew.out w1 (HR.out.below hB1 (Nat.le_refl _))
  have HF1 := Lib.hid hfew
  have HB1 := Lib.hid hB1
  clear hfew hB1 HFew HAl
  go_upto_region 5 with (go_at_call 31; refine HF1.out.mono ?_; rintro e w2 ⟨⟨fb, rfl, hfb⟩, rfl⟩; have HFB := Lib.hid hfb; clear hfb; cases fb)
  · go_wp2
    go_ret
    exact ⟨rfl, HB1.out⟩
  have HSM := Lib.hid (show P.length + P.flatten.length ≤ 2000 by first | exact HFB.out rfl | exact HFB.out trivial)
  clear HFB HF1
  -- a sniffer, and all the bytes
  obtain ⟨p, hp⟩ : ∃ p, p = w1.heap.size := ⟨_, rfl⟩
  obtain ⟨w2, hw2⟩ : ∃ w2, w2 = w1.alloc (.cells #[n64 0, .slice none 0 0] 63) := ⟨_, rfl⟩
  have hbp : w.heap.size ≤ p := by rw [hp]; exact HB1.out.size
  have sn2 := new_sn w.heap.size w1 HB1.out.size
  have hB2 := HB1.out.alloc HB1.out.size (.cells #[n64 0, .slice none 0 0] 63)
  have e2 : w2.heap.size = p + 1 := by rw [hw2, hp]; simp
  rw [← hw2, ← hp] at sn2
  rw [← hw2] at hB2
  have o3 := empty_own (p + 1) w2 (by omega)
  have hB3 := hB2.alloc hB2.size (.cells #[] 5)
  have sn3 := sn2.below ((Below.refl w2.heap.size w2).alloc (Nat.le_refl _) (.cells #[] 5)) (Nat.le_refl _)
  have HO3 := Lib.hid o3
  have HB3 := Lib.hid hB3
  have HSn3 := Lib.hid sn3
  have HW2 := Lib.hid hw2
  have HP := Lib.hid hp
  have HE2 := Lib.hid e2
  have HBP := Lib.hid hbp
  clear sn2 hB2 o3 hB3 sn3 hw2 hp e2 hbp
  go_upto_region 6 with (go_at_call 27; refine (new_any _).mono ?_; rintro e w6 ⟨rfl, rfl⟩)
  rw [← HW2.out, ← HP.out]
  go_upto_region 8 with fail
  go_loopw [4, 6, 31] (fun s _ i wr => ∃ (k : Nat), k ≤ P.length ∧ i = n64 k ∧ wr.ownsRow (p + 1) 5 1 s (P.take k).flatten.length (bv (P.take k).flatten) ∧ Sn w.heap.size p 0 [] (.slice none 0 0) wr ∧ Below w.heap.size w wr) (fun _ _ i _ => P.length - (intOf i).toNat)
  case atStart => exact ⟨0, by omega, rfl, by exact HO3.out, by exact HSn3.out, by exact HB3.out⟩
  case round =>
    clear HO3 HSn3 HB3
    obtain ⟨k, hk, rfl, hown, hsn, hB⟩ := hrel
    have HO := Lib.hid hown
    have HSn := Lib.hid hsn
    have HBr := Lib.hid hB
    by_cases hlk : k < P.length
    · obtain ⟨ao', cap', ev, hcc⟩ := HR.out.below hB (Nat.le_refl _)
      injection ev with ev1 _ ev2
      subst ev1 ev2
      obtain ⟨b, off, rfl, hb, hc⟩ := hcc (by omega)
      obtain ⟨vk, hx, hrk, hnok⟩ := hc k hlk
      have hfl := flat_snoc P k hlk
      have hle := flat_le P (k + 1)
      rw [hfl, List.length_append] at hle
      generalize P.getD k [] = q at *
      obtain ⟨A, hA⟩ : ∃ A, A = (P.take k).flatten := ⟨_, rfl⟩
      rw [← hA] at HO hfl hle
      have HFl := Lib.hid hfl
      have HLe := Lib.hid hle
      have HRk := Lib.hid hrk
      have HNk := Lib.hid hnok
      have HCC := Lib.hid hcc
      have HC := Lib.hid hc
      have ck : ((k : Int) + 1) ≤ 4294967290 := by have := HSM.out; omega
      clear hown hsn hB hfl hle hrk hnok hcc hc hA
      go_wp2_with (at_builtin; refine wp_app_rb rfl (.tmp 35) (.tmp 36) rfl _ (p + 1) A q _ HO.out rfl _ rfl HRk.out HNk.out ?c1 ?c2 ?_)
      case c1 => have := HSM.out; have := HLe.out; omega
      case c2 => have := HSn.out.blk.lt; omega
      intro s' w5 o5 g5
      have o5' : w5.ownsRow (p + 1) 5 1 s' (A ++ q).length (bv (A ++ q)) := by rw [List.length_append]; exact o5
      have hb5 : Below (p + 1) wr w5 := grown_below g5 (fun g hg => (own_lo HO.out g hg).1) (by have := HSn.out.blk.lt; omega)
      have hsn5 := HSn.out.same (hb5.block p (by omega)) (fun g e => by simp [Value.ownBlock] at e)
      have hB5 := HBr.out.trans (hb5.mono (by have := HBP.out; omega))
      have HO5 := Lib.hid o5'
      have HSn5 := Lib.hid hsn5
      have HB5 := Lib.hid hB5
      clear o5 o5' g5 hb5 hsn5 hB5
      go_wp2
      go_roundw
      case rel => exact ⟨k + 1, by omega, by go_num, by rw [HFl.out]; exact HO5.out, HSn5.out, HB5.out⟩
      case measure => simp [intOf]; omega
    · obtain rfl : k = P.length := by omega
      rw [List.take_length] at hown
      clear HO HSn HBr
      obtain ⟨wL, hwL⟩ : ∃ x, x = wr := ⟨wr, rfl⟩
      subst hwL
      have hlo := own_lo hown
      have hform := hown.form
      have hcapA : ∀ g n c, u4 = .slice (some ⟨g, 0, none⟩) n c → n ≤ c := fun g n c e => by
        obtain ⟨_, ⟨e2, _⟩ | ⟨g', cap', cur, e2, _, _, hcp, _⟩⟩ := hown
        · rw [e2] at e; cases e
        · rw [e2] at e
          injection e with _ e3 e4
          omega
      have hRall := Rb.own hown
      obtain ⟨aoA, capA, hvA, hcA⟩ := hRall
      obtain ⟨N, hN⟩ : ∃ N, N = P.flatten.length := ⟨_, rfl⟩
      rw [← hN] at hvA hcA hform
      subst hvA
      have hwk := rwalk_any P.flatten (by have := HSM.out; omega) (.slice aoA N capA) wL ⟨aoA, capA, by rw [hN], by rw [← hN]; exact hcA⟩
      rw [HW.out] at hwk
      have HWk := Lib.hid hwk
      have HForm := Lib.hid hform
      have HCapA := Lib.hid hcapA
      have HcA := Lib.hid hcA
      have HN := Lib.hid hN
      have HSn := Lib.hid hsn
      have HB := Lib.hid hB
      have HLo := Lib.hid hlo
      clear hown hwk hform hcapA hcA hN hsn hB hlk hlo
      have qr : decide (r1 < N) = true := by have := HEn.out; have := HN.out; simp; omega
      have er1 : (r1 : Int) + 1 = (E : Int) := by have := HE.out; omega
      have HEb := Lib.hid (show E ≤ 4000 by have := HE.out; have := HEn.out; have := HSM.out; omega)
      have wr1 : IntKind.i64.wrap (E : Int) = (E : Int) := IntWalk.i64_in _ (by have := HE.out; have := HEn.out; have := HSM.out; omega)
      go_upto_region 20 with (go_at_call 32; refine HWk.out.mono ?_; rintro e w4 ⟨rfl, rfl⟩)
      go_loopw [11, 12, 58] (fun at_ ov i wr => ∃ (k n : Nat) (over : Bool), Fl P 2 w.heap.size p wL k n over i at_ ov wr) (fun _ _ i _ => P.length - (intOf i).toNat)
      case atStart => exact ⟨0, 0, false, by omega, rfl, rfl, rfl, Fs.refl _ _ _, 0, [], .slice none 0 0, HSn.out, (fun g e => by simp [Value.ownBlock] at e), .inl ⟨rfl, rfl, rfl, rfl, rfl⟩⟩
      case round =>
        obtain ⟨k, n, over, hk, rfl, rfl, rfl, hfs, st, ln1, lv, hsn, hlv, hcase⟩ := hrel
        by_cases hlk : k < P.length
        · have hBr : Below w.heap.size w wr := HB.out.trans (hfs.below HBP.out (fun k e => by cases e) HB.out.size)
          obtain ⟨b, off, rfl, hb, hc⟩ := HAO.out (by omega)
          obtain ⟨vk, hx0, hrk0, hnok⟩ := hc k hlk
          have hx := (hBr.cell (p := ⟨b, off + k, none⟩) hb).trans hx0
          have hrk := hrk0.below hBr (Nat.le_refl _)
          have hfl := flat_snoc P k hlk
          have hle := flat_le P (k + 1)
          rw [hfl, List.length_append] at hle
          have hall : P.flatten = (P.take k).flatten ++ P.getD k [] ++ (P.drop (k + 1)).flatten := by
            rw [← hfl, ← List.flatten_append, List.take_append_drop]
          obtain ⟨q, hq⟩ : ∃ q, q = P.getD k [] := ⟨_, rfl⟩
          rw [← hq] at hrk0 hrk hfl hle hall
          obtain ⟨A, hA⟩ : ∃ A, A = (P.take k).flatten := ⟨_, rfl⟩
          rw [← hA] at hfl hle hall hcase
          have hps := hsn.blk.lt
          have hlvs := own_lo hsn.own
          have ck : ((k : Int) + 1) ≤ 4294967290 := by have := HSM.out; omega
          have hq2 : q.length ≤ 2000 := by have := HSM.out; omega
          have hBy := bytes_any q vk wr hrk hnok (by omega)
          have hkept : ∀ w3 g3 cp3 w4, Below wr.heap.size wr w3 → w3.ownsRow wr.heap.size 5 1 (.slice (some ⟨g3, 0, none⟩) (q ++ tl6).length cp3) (q ++ tl6).length (bv (q ++ tl6)) → Fs p lv.ownBlock w3 w4 →
              Calls Tryd.prog 34 #[.slice (some ⟨g3, 0, none⟩) q.length cp3, vk] w4 fun e w' => e = .returned (.bool true) ∧ Below w4.heap.size w4 w' := fun w3 g3 cp3 w4 b3 o3 f4 => by
            have hg3 := own_lo o3 g3 rfl
            have b4 : Below w.heap.size w w4 := (hBr.trans (b3.mono hBr.size)).trans (f4.below HBP.out (fun k e => by have := hlv k e; have := HB.out.size; omega) (Nat.le_trans hBr.size b3.size))
            exact kept_any q vk w4 (hrk0.below b4 (Nat.le_refl _)) wr.heap.size g3 cp3 (own_same o3 (fun g hg => by
              have hgg : g3 = g := by simpa [Value.ownBlock] using hg
              subst hgg
              exact f4.other g3 hg3.2 (by omega) (fun e => by have := hlvs g3 e; omega))) (by omega)
          have hfsn : ∀ w3 w4, Below wr.heap.size wr w3 → Fs p lv.ownBlock w3 w4 → Fs p none wL w4 := fun w3 w4 b3 f4 => hfs.trans ((Fs.of_below b3).then f4) (fun k e => .inr (hlv k e))
          have hbel : ∀ wx, Fs p none wL wx → Below w.heap.size w wx := fun wx f => HB.out.trans (f.below HBP.out (fun k e => by cases e) HB.out.size)
          obtain ⟨aok, capk, rfl, _⟩ := hrk
          have HBy := Lib.hid hBy
          have HK := Lib.hid hkept
          have HFsn := Lib.hid hfsn
          have HBel := Lib.hid hbel
          have HFl := Lib.hid hfl
          have HLe := Lib.hid hle
          have HAl2 := Lib.hid hall
          have HA := Lib.hid hA
          have HSn1 := Lib.hid hsn
          have HLv := Lib.hid hlv
          have HLvs := Lib.hid hlvs
          have HBr := Lib.hid hBr
          have HPs := Lib.hid hps
          have HCC := Lib.hid hc
          have HX0 := Lib.hid hx0
          have HRk0 := Lib.hid hrk0
          clear hBy hkept hfsn hbel hfl hle hall hA hsn hlv hlvs hBr hps hc hx0 hrk0 hnok hq hfs
          rcases hcase with ⟨rfl, rfl, hlnA, hnn, hA0⟩ | ⟨rfl, rfl, h12⟩
          · have hlnA2 := hlnA.symm
            clear hlnA
            subst hlnA2
            subst hnn
            have hln : A.length + q.length ≤ 2000 := by have := HSM.out; have := HLe.out; omega
            have hpc := fd_piece A q (P.drop (k + 1)).flatten hA0
            rw [← HAl2.out, HT.out] at hpc
            have hlive := fd_live A [] (by simp) can_nil hA0
            have HLn := Lib.hid hln
            have hfeed : ∀ w3 g3 cp3, Below wr.heap.size wr w3 → w3.ownsRow wr.heap.size 5 1 (.slice (some ⟨g3, 0, none⟩) (q ++ tl6).length cp3) (q ++ tl6).length (bv (q ++ tl6)) →
                Calls Tryd.prog 28 #[.pointer (some ⟨p, 0, none⟩), .slice (some ⟨g3, 0, none⟩) q.length cp3] w3 fun e w' => e = .returned (.tuple #[n64 (fd A q).1, errv a (fd A q).2.1]) ∧ ∃ lv', Sn w.heap.size p (fd A q).2.1 (fd A q).2.2 lv' w' ∧ Fs p lv.ownBlock w3 w' ∧ (∀ k, lv'.ownBlock = some k → lv.ownBlock = some k ∨ w3.heap.size ≤ k) := fun w3 g3 cp3 b3 o3 => by
              have hg3 := own_lo o3 g3 rfl
              exact feed_any w.heap.size p A q lv _ w3 (HSn1.out.below b3 (Nat.le_refl _)) a m (HG.out.below (HBr.out.trans (b3.mono HBr.out.size))) (by have := HLn.out; omega) (rb_pre o3) (fun ad n c e => by
                injection e with e1
                injection e1 with e1
                subst e1
                exact ⟨by show g3 ≠ p; have := HPs.out; omega, fun e => by have := HLvs.out g3 e; omega⟩)
            clear hA0 hln hlive
            rcases hpc with ⟨h1, h2, h3', h4⟩ | ⟨h1, h2, h3', h4⟩
            · obtain ⟨x1, hx1⟩ : ∃ x, x = (fd A q).1 := ⟨_, rfl⟩
              rw [← hx1] at h2 h3' h4
              obtain ⟨hE1, hS1⟩ := Prod.mk.inj h2
              have hfd : fd A q = (x1, 2, ([] : List UInt8)) := Prod.ext hx1.symm hS1.symm
              rw [hfd] at hfeed
              have HFeed := Lib.hid hfeed
              have b1 : x1 ≤ 2000 := by omega
              have b2 : E ≤ 4000 := by have := HLn.out; omega
              have b3 : A.length ≤ 2000 := by have := HLn.out; omega
              have e1 : (E : Int) - (A.length : Int) = (x1 : Int) := by omega
              have w1' : IntKind.i64.wrap (x1 : Int) = (x1 : Int) := IntWalk.i64_in _ (by omega)
              have hmn : mn (q.length : Int) (x1 : Int) = (x1 : Int) := by unfold mn; omega
              have e2 : (A.length : Int) + (x1 : Int) = (E : Int) := by omega
              have w2' : IntKind.i64.wrap (E : Int) = (E : Int) := IntWalk.i64_in _ (by omega)
              have qE : ((E : Int) == (E : Int)) = true := by simp
              have q3 : decide (0 < (q.length : Int)) = true := by simp; omega
              have q4 : decide (0 < (x1 : Int)) = true := by simp; omega
              have q3b : decide (0 < q.length) = true := by simp; omega
              have q3c : ¬ q = [] := fun e => by rw [e] at h4; simp at h4; omega
              have q4b : decide (0 < x1) = true := by simp; omega
              have qne : ((x1 : Int) != (x1 : Int)) = false := by simp
              have he1 : errv a 1 = .nilIface := rfl
              have he2 : errv a 2 = er a := rfl
              have hm := fun wx => neq_er a wx
              clear hfeed hx1 hE1 hS1 hfd h1 h2 h3' h4
              go_wp2_with (first
                | (go_at_call 33; refine HBy.out.mono ?_; rintro e w3 ⟨g3, cp3, rfl, hcp3, ho3, hB3⟩)
                | (go_at_call 28; refine (HFeed.out w3 g3 cp3 hB3 ho3).mono ?_; rintro e w4 ⟨rfl, lv4, hs4, hf4, ho4⟩)
                | (go_at_call 34; refine (HK.out w3 g3 cp3 w4 hB3 ho3 hf4).mono ?_; rintro e w5 ⟨rfl, hB5⟩; have hs5 := hs4.below hB5 (Nat.le_refl _); have hfs5 : Fs p none wL w5 := (HFsn.out w3 w4 hB3 hf4).trans (Fs.of_below (ob := none) hB5) (fun _ e => by cases e); have hn5 := (HG.out.below (HBel.out w5 hfs5)).gl.name; have HN5 := Lib.hid (name_no hs5 (.inr rfl)); have HBd := Lib.hid (show Calls Tryd.prog 30 #[.pointer (some ⟨p, 0, none⟩)] w5 fun e w' => e = .returned (.bool true) ∧ w' = w5 from bad_any hs5 (.inr (.inr rfl))); have HHe := Lib.hid (show Calls Tryd.prog 35 #[.pointer (some ⟨p, 0, none⟩)] w5 fun e w' => e = .returned (n64 0) ∧ w' = w5 from held_any hs5 (.inr (.inr rfl))))
                | (go_at_call 29; refine HN5.out.mono ?_; rintro e w6 ⟨rfl, rfl⟩)
                | (go_at_call 30; refine HBd.out.mono ?_; rintro e w7 ⟨rfl, rfl⟩)
                | (go_at_call 35; refine HHe.out.mono ?_; rintro e w8 ⟨rfl, rfl⟩))
              go_roundw
              case rel =>
                refine ⟨k + 1, E, true, by omega, by go_num, rfl, rfl, hfs5, 2, _, lv4, hs5, fun g e => ?_, .inr ⟨rfl, rfl, .inr rfl⟩⟩
                rcases ho4 g e with h | h
                · exact HLv.out g h
                · exact Nat.le_trans (HFsn.out w3 w3 hB3 (Fs.refl _ _ _)).size h
              case measure => simp [intOf]; omega
            · have hlt : A.length + q.length < E := h4 (show (2 : Int) ≠ 0 by decide)
              have hle3 : A.length + q.length ≤ E := h3'
              rw [h1] at hfeed
              have HFeed := Lib.hid hfeed
              have hlv2 := fd_live (A ++ q) [] (by simp) can_nil h2
              have hl66 : (A ++ q).length ≤ 66 := live_len (by simpa using hlv2.1) (by simpa using hlv2.2)
              have hal : (A ++ q).length = A.length + q.length := by simp
              obtain ⟨B, hB'⟩ : ∃ B, B = A ++ q := ⟨_, rfl⟩
              rw [← hB'] at HFeed h2 hl66 hal
              obtain ⟨d, hd⟩ : ∃ d : Nat, d = E - A.length := ⟨_, rfl⟩
              have b1 : d ≤ 4000 := by have := HEb.out; omega
              have b3 : A.length ≤ 2000 := by have := HLn.out; omega
              have e1 : (E : Int) - (A.length : Int) = (d : Int) := by omega
              have w1' : IntKind.i64.wrap (d : Int) = (d : Int) := IntWalk.i64_in _ (by omega)
              have hmn : mn (q.length : Int) (d : Int) = (q.length : Int) := by unfold mn; omega
              have e2 : (A.length : Int) + (q.length : Int) = (B.length : Int) := by omega
              have w2' : IntKind.i64.wrap (B.length : Int) = (B.length : Int) := IntWalk.i64_in _ (by omega)
              have qE : ((B.length : Int) == (E : Int)) = false := by simp; omega
              have qne : ((q.length : Int) != (q.length : Int)) = false := by simp
              have qne2 : ((B.length : Int) != (B.length : Int)) = false := by simp
              have q128 : decide (128 < (B.length : Int)) = false := by simp; omega
              have he0 : errv a 0 = .nilIface := rfl
              have HB' := Lib.hid hB'
              have HH2 := Lib.hid h2
              clear hfeed hlv2 hl66 hal hB' hd h1 h2 h3' h4 hle3 hlt
              go_wp2_with (first
                | (go_at_call 33; refine HBy.out.mono ?_; rintro e w3 ⟨g3, cp3, rfl, hcp3, ho3, hB3⟩)
                | (go_at_call 28; refine (HFeed.out w3 g3 cp3 hB3 ho3).mono ?_; rintro e w4 ⟨rfl, lv4, hs4, hf4, ho4⟩)
                | (go_at_call 34; refine (HK.out w3 g3 cp3 w4 hB3 ho3 hf4).mono ?_; rintro e w5 ⟨rfl, hB5⟩; have hs5 := hs4.below hB5 (Nat.le_refl _); have hfs5 : Fs p none wL w5 := (HFsn.out w3 w4 hB3 hf4).trans (Fs.of_below (ob := none) hB5) (fun _ e => by cases e); have HN5 := Lib.hid (name_no hs5 (.inl rfl)); have HBd := Lib.hid (show Calls Tryd.prog 30 #[.pointer (some ⟨p, 0, none⟩)] w5 fun e w' => e = .returned (.bool false) ∧ w' = w5 from bad_any hs5 (.inl rfl)); have HHe := Lib.hid (show Calls Tryd.prog 35 #[.pointer (some ⟨p, 0, none⟩)] w5 fun e w' => e = .returned (n64 B.length) ∧ w' = w5 from held_any hs5 (.inl rfl)))
                | (go_at_call 29; refine HN5.out.mono ?_; rintro e w6 ⟨rfl, rfl⟩)
                | (go_at_call 30; refine HBd.out.mono ?_; rintro e w7 ⟨rfl, rfl⟩)
                | (go_at_call 35; refine HHe.out.mono ?_; rintro e w8 ⟨rfl, rfl⟩))
              go_roundw
              case rel =>
                refine ⟨k + 1, B.length, false, by omega, by go_num, rfl, rfl, hfs5, 0, B, lv4, hs5, fun g e => ?_, .inl ⟨rfl, rfl, by rw [HFl.out, HB'.out], rfl, HH2.out⟩⟩
                rcases ho4 g e with h | h
                · exact HLv.out g h
                · exact Nat.le_trans (HFsn.out w3 w3 hB3 (Fs.refl _ _ _)).size h
              case measure => simp [intOf]; omega
          · have hm := fun wx => neq_er a2 wx
            have HShut := Lib.hid (show ∀ w3 v3, Below wr.heap.size wr w3 → Calls Tryd.prog 28 #[.pointer (some ⟨p, 0, none⟩), v3] w3 fun e w' => e = .returned (.tuple #[n64 0, er a2]) ∧ Below w3.heap.size w3 w' from fun w3 v3 b3 => feed_shut (HSn1.out.below b3 (Nat.le_refl _)) (.inr rfl) v3 a2 ((((HBr.out.trans (b3.mono HBr.out.size))).cell (p := ⟨1, 0, none⟩) (by show 1 < w.heap.size; omega)).trans HST.out))
            clear h12
            go_wp2_with (first
              | (go_at_call 33; refine HBy.out.mono ?_; rintro e w3 ⟨g3, cp3, rfl, hcp3, ho3, hB3⟩)
              | (go_at_call 28; refine (HShut.out w3 _ hB3).mono ?_; rintro e w4 ⟨rfl, hB4⟩; have hf4 : Fs p lv.ownBlock w3 w4 := Fs.of_below hB4)
              | (go_at_call 34; refine (HK.out w3 g3 cp3 w4 hB3 ho3 hf4).mono ?_; rintro e w5 ⟨rfl, hB5⟩; have hfs5 : Fs p none wL w5 := (HFsn.out w3 w4 hB3 hf4).trans (Fs.of_below (ob := none) hB5) (fun _ e => by cases e); have hn5 := ((HBel.out w5 hfs5).cell (p := ⟨1, 0, none⟩) (by show 1 < w.heap.size; omega)).trans HST.out))
            have hs5 := ((HSn1.out.below hB3 (Nat.le_refl _)).below hB4 (Nat.le_refl _)).below hB5 (Nat.le_refl _)
            go_roundw
            case rel => exact ⟨k + 1, n, true, by omega, by go_num, rfl, rfl, hfs5, _, ln1, lv, hs5, HLv.out, .inr ⟨rfl, rfl, .inr rfl⟩⟩
            case measure => simp [intOf]; omega
        · obtain rfl : k = P.length := by omega
          have hBe : Below w.heap.size w wr := HB.out.trans (hfs.below HBP.out (fun k e => by cases e) HB.out.size)
          clear hcase
          go_wp2
          go_ret
          exact ⟨rfl, hBe⟩

theorem feedsLaw_walk (P : List (List UInt8)) (v : Value) (w : World) (hr : Rbb w v P) (hP : P.length ≤ 9223372036854775807) (hl : ∀ p ∈ P, p.length ≤ 9223372036854775807) (a a2 : Addr) (m : Int) (hg : Gl w a m) (hst : w.cell? ⟨1, 0, none⟩ = some (er a2)) :
    Calls Tryd.prog 11 #[v] w fun e w' => e = .returned (.bool true) ∧ Below w.heap.size w w' := by
  have h := fd_wlk P.flatten [] (by simp) can_nil
  simp only [List.nil_append, List.length_nil, Nat.zero_add, Nat.sub_zero] at h
  obtain ⟨r1, r2, hw⟩ : ∃ r1 r2, wlk [] P.flatten = (r1, r2) := ⟨_, _, rfl⟩
  rw [hw] at h
  rcases h with ⟨h1, h2, h3, h4, h5⟩ | ⟨h1, h2, h3, h4⟩ | ⟨h1, h2, h3⟩
  · obtain rfl : r2 = true := h1
    exact feedsLaw_1 P v w hr hP hl a a2 m hg hst r1 hw h2 h5 h4
  · obtain rfl : r2 = false := h1
    exact feedsLaw_2 P v w hr hP hl a a2 m hg hst (r1 + 1) r1 hw h4 rfl h3
  · obtain rfl : r2 = false := h1
    obtain rfl : r1 = P.flatten.length := h2
    exact feedsLaw_0 P v w hr hP hl a a2 m hg hst P.flatten.length hw h3 rfl
end Go.Proofs.YtfphfljndhideaaDoor
