/- The chapter's example holds. -/
import Derived.Test.YtjjaghiihkdclaaDoorH
set_option linter.unusedVariables false
set_option linter.unusedSimpArgs false
namespace Go.Proofs.YtjjaghiihkdclaaDoor
open Go.RowKit Jw

theorem info67 : ∃ i j, Tryd.prog.info? 67 = some i ∧ i.comparable = true ∧ Tryd.prog.info? 84 = some j ∧ j.size ≠ 0 := by
  have h1 : (Tryd.prog.info? 67).map (fun i => i.comparable) = some true := by kernel_rfl
  have h2 : (Tryd.prog.info? 84).map (fun i => i.size) = some 1 := by kernel_rfl
  obtain ⟨i, hi, e1⟩ := Option.map_eq_some_iff.1 h1
  obtain ⟨j, hj, e2⟩ := Option.map_eq_some_iff.1 h2
  exact ⟨i, j, hi, e1, hj, by rw [e2]; decide⟩
theorem eq_same (a : Addr) (w : World) : (binOp .eql 26 (er a) (er a)).run Tryd.prog w = .ok (.bool true) w := by
  obtain ⟨i, j, hi, hc, hj, hs⟩ := info67
  exact run_eql_iface_ptr_same w a Tryd.underlying26 Tryd.underlying67 hi hc hj
theorem ne_same (a : Addr) (w : World) : (binOp .neq 26 (er a) (er a)).run Tryd.prog w = .ok (.bool false) w := by
  obtain ⟨i, j, hi, hc, hj, hs⟩ := info67
  simp only [binOp]
  simp [Op.equal, Op.maxDepth, run_equalIn_iface_ptr_same w 9998 a Tryd.underlying26 Tryd.underlying67 hi hc hj]

section
variable {w w' : World} {b g n : Nat} {off ar : Bool} {l wr i : Int} {L B : List Int} {aR aP : Addr}
/-- The two errors that a drum answers. -/
structure Two (w : World) (aR aP : Addr) : Prop where
  r : w.cell? ⟨0, 0, none⟩ = some (er aR)
  p : w.cell? ⟨1, 0, none⟩ = some (er aP)
theorem Two.low (h : Two w aR aP) : 2 ≤ w.heap.size := by have := block_lt_of_cell h.p; exact this
theorem Two.below {C : Nat} (h : Two w aR aP) (hb : Below C w w') (hC : w.heap.size ≤ C) : Two w' aR aP := by
  have := h.low
  exact ⟨(hb.cell (p := ⟨0, 0, none⟩) (by show 0 < C; omega)).trans h.r, (hb.cell (p := ⟨1, 0, none⟩) (by show 1 < C; omega)).trans h.p⟩

/-- What the drum's block behind a law's begin is: all that was there stands, the errors too, and the drum. -/
structure St (w0 w : World) (b g : Nat) (off ar : Bool) (l : Int) (n : Nat) (wr : Int) (L : List Int) (aR aP : Addr) : Prop where
  below : Below w0.heap.size w0 w
  two : Two w aR aP
  dr : Dr w b g off ar l n wr L
  hb : w0.heap.size ≤ b
  hg : w0.heap.size ≤ g
  base : Two w0 aR aP
section
variable {w0 : World} {off' ar' : Bool} {l' wr' : Int} {L' : List Int} {n' : Nat}
theorem St.fr (h : St w0 w b g off ar l n wr L aR aP) (hf : Fr b g w w') (hd : Dr w' b g off' ar' l' n' wr' L') : St w0 w' b g off' ar' l' n' wr' L' aR aP :=
  have hB := hf.below h.below h.hb h.hg h.below.size
  ⟨hB, h.base.below hB (Nat.le_refl _), hd, h.hb, h.hg, h.base⟩
theorem St.pt (h : St w0 w b g off ar l n wr L aR aP) (hp : Put b #[.bool off', .bool ar', n64 l', .slice (some ⟨g, 0, none⟩) n n, n64 wr'] 62 w w') : St w0 w' b g off' ar' l' n wr' L aR aP :=
  h.fr (Fr.of_put hp) (h.dr.put hp)
theorem St.bel (h : St w0 w b g off ar l n wr L aR aP) (hb : Below w.heap.size w w') : St w0 w' b g off ar l n wr L aR aP :=
  h.fr (Fr.of_below hb) (h.dr.below hb h.dr.d.lt h.dr.k.lt)
theorem St.allo (h : St w0 w b g off ar l n wr L aR aP) (o : Go.Obj) : St w0 (w.alloc o) b g off ar l n wr L aR aP := h.bel ((Below.refl _ _).alloc (Nat.le_refl _) _)
theorem St.drewN (h : St w0 w b g off ar l n wr L aR aP) (q : Nat) : St w0 (w.drewN q) b g off ar l n wr L aR aP := h.bel ⟨rfl, rfl, rfl, Nat.le_refl _, fun _ _ => rfl⟩
theorem St.drew (h : St w0 w b g off ar l n wr L aR aP) : St w0 w.drew b g off ar l n wr L aR aP := h.bel ⟨rfl, rfl, rfl, Nat.le_refl _, fun _ _ => rfl⟩
theorem St.other {q : Nat} {cs : Array Value} {t : TypeId} (h : St w0 w b g off ar l n wr L aR aP) (hp : Put q cs t w w') (h1 : b ≠ q) (h2 : g ≠ q) (hq : w0.heap.size ≤ q) : St w0 w' b g off ar l n wr L aR aP :=
  have hB := hp.below h.below hq
  ⟨hB, h.base.below hB (Nat.le_refl _), ⟨hp.keeps h.dr.d h1, hp.keeps h.dr.k h2, h.dr.len⟩, h.hb, h.hg, h.base⟩
theorem St.b1 (h : St w0 w b g off ar l n wr L aR aP) : 1 < b := by have := h.base.low; have := h.hb; omega
theorem new_st (hT : Two w aR aP) (n : Nat) (h1 : 1 ≤ n) (h2 : n ≤ 4096) :
    Calls Tryd.prog 9 #[n64 n] w fun e w' => e = .returned (.tuple #[pt (w.heap.size + 1), .nilIface]) ∧ St w w' (w.heap.size + 1) w.heap.size false false 0 n 0 (zer (n * 64)) aR aP :=
  (new_ok w n h1 h2).mono fun e w' ⟨he, hd, hB, _⟩ => ⟨he, hB, hT.below hB (Nat.le_refl _), hd, by omega, Nat.le_refl _, hT⟩
theorem st_write_out (h : St w0 w b g false ar l n wr L aR aP) (hi : i < 0 ∨ (n : Int) ≤ i) :
    Calls Tryd.prog 12 #[pt b, n64 i, .agg (row B)] w fun e w' => e = .returned (er aR) ∧ St w0 w' b g false ar l n wr L aR aP :=
  (write_out h.dr.d h.two.r hi).mono fun e w' ⟨he, hB⟩ => ⟨he, h.bel hB⟩
theorem st_write_off (h : St w0 w b g true ar l n wr L aR aP) :
    Calls Tryd.prog 12 #[pt b, n64 i, .agg (row B)] w fun e w' => e = .returned (er aP) ∧ St w0 w' b g true ar l n wr L aR aP :=
  (write_off h.dr.d h.two.p).mono fun e w' ⟨he, hB⟩ => ⟨he, h.bel hB⟩
theorem st_write_goes (h : St w0 w b g false true 0 n wr L aR aP) (hi : 0 ≤ i) (hi2 : i < n) :
    Calls Tryd.prog 12 #[pt b, n64 i, .agg (row B)] w fun e w' => e = .returned (er aP) ∧ St w0 w' b g true true 0 n wr L aR aP :=
  (write_goes h.dr h.two.p hi hi2 h.b1).mono fun e w' ⟨he, hf, hd⟩ => ⟨he, h.fr hf hd⟩
theorem st_write_armed (h : St w0 w b g false true l n wr L aR aP) (hi : 0 ≤ i) (hi2 : i < n) (hB : B.length = 64) (hw : 0 ≤ wr ∧ wr ≤ 4294967296) (hl : 0 < l) (hl2 : l ≤ 9223372036854775807) :
    Calls Tryd.prog 12 #[pt b, n64 i, .agg (row B)] w fun e w' => e = .returned .nilIface ∧ St w0 w' b g false true (l - 1) n (wr + 1) (put L i.toNat B) aR aP := by
  obtain ⟨k, rfl⟩ := Int.eq_ofNat_of_zero_le hi
  exact (write_armed h.dr (by omega) hB hw hl hl2).mono fun e w' ⟨he, hf, hd⟩ => ⟨he, h.fr hf hd⟩
theorem st_write_free (h : St w0 w b g false false l n wr L aR aP) (hi : 0 ≤ i) (hi2 : i < n) (hB : B.length = 64) (hw : 0 ≤ wr ∧ wr ≤ 4294967296) :
    Calls Tryd.prog 12 #[pt b, n64 i, .agg (row B)] w fun e w' => e = .returned .nilIface ∧ St w0 w' b g false false l n (wr + 1) (put L i.toNat B) aR aP := by
  obtain ⟨k, rfl⟩ := Int.eq_ofNat_of_zero_le hi
  exact (write_free h.dr (by omega) hB hw).mono fun e w' ⟨he, hf, hd⟩ => ⟨he, h.fr hf hd⟩
theorem st_read_out (h : St w0 w b g false ar l n wr L aR aP) (hi : i < 0 ∨ (n : Int) ≤ i) :
    Calls Tryd.prog 11 #[pt b, n64 i] w fun e w' => e = .returned (.tuple #[bk (zer 64), er aR]) ∧ St w0 w' b g false ar l n wr L aR aP :=
  (read_out h.dr.d h.two.r hi).mono fun e w' ⟨he, hB⟩ => ⟨he, h.bel hB⟩
theorem st_read_off (h : St w0 w b g true ar l n wr L aR aP) :
    Calls Tryd.prog 11 #[pt b, n64 i] w fun e w' => e = .returned (.tuple #[bk (zer 64), er aP]) ∧ St w0 w' b g true ar l n wr L aR aP :=
  (read_off h.dr.d h.two.p).mono fun e w' ⟨he, hB⟩ => ⟨he, h.bel hB⟩
theorem st_read_ok (h : St w0 w b g false ar l n wr L aR aP) (hi : 0 ≤ i) (hi2 : i < n) :
    Calls Tryd.prog 11 #[pt b, n64 i] w fun e w' => e = .returned (.tuple #[bk (get L i.toNat), .nilIface]) ∧ St w0 w' b g false ar l n wr L aR aP := by
  obtain ⟨k, rfl⟩ := Int.eq_ofNat_of_zero_le hi
  exact (read_ok h.dr (by omega)).mono fun e w' ⟨he, hB⟩ => ⟨he, h.bel hB⟩
theorem st_off (h : St w0 w b g off ar l n wr L aR aP) :
    Calls Tryd.prog 14 #[pt b] w fun e w' => e = .returned (.bool off) ∧ w = w' := off_any h.dr.d
theorem st_on (h : St w0 w b g off ar l n wr L aR aP) :
    Calls Tryd.prog 15 #[pt b] w fun e w' => e = .returned (.tuple #[]) ∧ St w0 w' b g false false 0 n wr L aR aP :=
  (on_any h.dr.d).mono fun e w' ⟨he, hp⟩ => ⟨he, h.pt hp⟩
theorem st_arm (h : St w0 w b g off ar l n wr L aR aP) (hi : 0 ≤ i) :
    Calls Tryd.prog 10 #[pt b, n64 i] w fun e w' => e = .returned (.tuple #[]) ∧ St w0 w' b g off true i n wr L aR aP :=
  (arm_yes h.dr.d hi).mono fun e w' ⟨he, hp⟩ => ⟨he, h.pt hp⟩
theorem st_writes (h : St w0 w b g off ar l n wr L aR aP) :
    Calls Tryd.prog 13 #[pt b] w fun e w' => e = .returned (n64 wr) ∧ St w0 w' b g off ar l n wr L aR aP :=
  (writes_any h.dr.d).mono fun e w' ⟨he, hw⟩ => ⟨he, by rw [← hw]; exact h⟩
end

set_option maxRecDepth 100000 in
set_option maxHeartbeats 2000000 in
theorem alive_yes (hT : Two w aR aP) : Calls Tryd.prog 8 #[] w fun e w' => e = .returned (.bool true) ∧ Below w.heap.size w w' := by
  have hz := zero31
  have hrn := row_ne
  have hrb := row_bl
  have heq := eq_same aP
  have H0 := Lib.hid hT
  clear hT
  go_enter Tryd.func8, Tryd.ntmps8
  go_wp2_with fail
  refine (new_st H0.out 2 (by decide) (by decide)).mono ?_
  rintro e w1 ⟨rfl, hs1⟩
  have H1 := Lib.hid hs1
  clear hs1
  go_wp2_with fail
  refine (arm_yes H1.out.dr.d (by decide)).mono ?_
  rintro e w2 ⟨rfl, hp⟩
  have H2 := Lib.hid (H1.out.pt hp)
  clear hp H1
  go_wp2_with fail
  refine (write_armed (i := 0) H2.out.dr (by decide) (bl_length 7) (by decide) (by decide) (by decide)).mono ?_
  rintro e w3 ⟨rfl, hf, hd⟩
  have H3 := Lib.hid (H2.out.fr hf hd)
  clear hf hd H2
  go_wp2_with fail
  refine (write_goes (i := 1) (B := bl 8) H3.out.dr H3.out.two.p (by decide) (by decide) H3.out.b1).mono ?_
  rintro e w4 ⟨rfl, hf, hd⟩
  have H4 := Lib.hid (H3.out.fr hf hd)
  clear hf hd H3
  go_wp2_with fail
  refine (read_off H4.out.dr.d H4.out.two.p).mono ?_
  rintro e w5 ⟨rfl, hB⟩
  have H5 := Lib.hid (H4.out.bel hB)
  clear hB H4
  go_wp2_with ((with_reducible refine wpList_store_run (w' := w5.alloc (.cells (row (zer 64)) 31)) ?_ 31 (.tmp 5) (.tmp 32) ?_ ⟨w5.heap.size, 0, none⟩ (.agg (row (zer 64))) ?_ ?_ ?_ ?_); rfl; rfl; rfl; rfl; exact store_new _ _ (zer_length 64))
  have H6 := Lib.hid (H5.out.allo (.cells (row (zer 64)) 31))
  refine (on_any H6.out.dr.d).mono ?_
  rintro e w7 ⟨rfl, hp⟩
  have H7 := Lib.hid (H6.out.pt hp)
  clear hp H5 H6
  go_wp2_with fail
  refine (read_ok (i := 0) H7.out.dr (by decide)).mono ?_
  rintro e w8 ⟨rfl, hB⟩
  have H8 := Lib.hid (H7.out.bel hB)
  clear hB H7
  have e0 : get (put (zer (2 * 64)) 0 (bl 7)) 0 = bl 7 := get_put _ _ 0 0 2 (zer_length _) (bl_length 7) (by decide) (by decide)
  have e1 : get (put (zer (2 * 64)) 0 (bl 7)) 1 = zer 64 := (get_put _ _ 0 1 2 (zer_length _) (bl_length 7) (by decide) (by decide)).trans (get_zer 2 1 (by decide))
  rw [e0]
  have E1 := Lib.hid e1
  clear e0 e1
  go_wp2_with ((with_reducible refine wpList_store_run (w' := w8.alloc (.cells (row (bl 7)) 31)) ?_ 31 (.tmp 7) (.tmp 39) ?_ ⟨w8.heap.size, 0, none⟩ (.agg (row (bl 7))) ?_ ?_ ?_ ?_); rfl; rfl; rfl; rfl; exact store_new _ _ (bl_length 7))
  have K7 := blk_new w8 (row (bl 7)) 31
  obtain ⟨q, hq⟩ : ∃ q, q = w8.heap.size := ⟨_, rfl⟩
  have H9 := Lib.hid (H8.out.allo (.cells (row (bl 7)) 31))
  rw [← hq] at K7 ⊢
  generalize w8.alloc (.cells (row (bl 7)) 31) = w9 at *
  clear H8 hq
  have HK7 := Lib.hid K7
  clear K7
  refine (read_ok (i := 1) H9.out.dr (by decide)).mono ?_
  rintro e w10 ⟨rfl, hB⟩
  have H10 := Lib.hid (H9.out.bel hB)
  have HK8 := Lib.hid (HK7.out.below hB HK7.out.lt)
  clear hB H9 HK7
  rw [E1.out]
  have hP := (H10.out.allo (.cells (row (zer 64)) 31)).two.p
  have h7 := (HK8.out.alloc (.cells (row (zer 64)) 31)).cell 0 (.int .u8 7) rfl
  have h0 := (blk_new w10 (row (zer 64)) 31).cell 0 (.int .u8 0) rfl
  have HB := Lib.hid (H10.out.allo (.cells (row (zer 64)) 31)).below
  clear H10 HK8
  go_wp2_with ((with_reducible refine wpList_store_run (w' := w10.alloc (.cells (row (zer 64)) 31)) ?_ 31 (.tmp 9) (.tmp 44) ?_ ⟨w10.heap.size, 0, none⟩ (.agg (row (zer 64))) ?_ ?_ ?_ ?_); rfl; rfl; rfl; rfl; exact store_new _ _ (zer_length 64))
  go_ret
  exact ⟨rfl, HB.out⟩
end
end Go.Proofs.YtjjaghiihkdclaaDoor
