/- The reference's drum: what each call comes to. -/
import Derived.Test.YtjjaghiihkdclaaDoorK
import Derived.Laws.CopyOwn
import Derived.Deep.CutBlock
set_option linter.unusedVariables false
set_option linter.unusedSimpArgs false
namespace Go.Proofs.YtjjaghiihkdclaaDoor
open Go.RowKit Jw

/-- The reference's drum in memory. -/
structure Rm (w : World) (c h : Nat) (dark : Bool) (l : Int) (n : Nat) (wr : Int) (L : List Int) : Prop where
  d : Blk w c #[.slice (some ⟨h, 0, none⟩) (n * 64) (n * 64), .bool dark, n64 l, n64 wr] 49
  k : Blk w h (row L) 5
  len : L.length = n * 64
section
variable {w w' : World} {c h n : Nat} {dark dark' : Bool} {l l' wr wr' i : Int} {L B : List Int} {k : Nat}
theorem Rm.ne (m : Rm w c h dark l n wr L) : c ≠ h := Blk.ne m.d m.k (by decide)
theorem Rm.drewN (m : Rm w c h dark l n wr L) (q : Nat) : Rm (w.drewN q) c h dark l n wr L := ⟨m.d, m.k, m.len⟩
theorem Rm.drew (m : Rm w c h dark l n wr L) : Rm w.drew c h dark l n wr L := ⟨m.d, m.k, m.len⟩
theorem Rm.alloc (m : Rm w c h dark l n wr L) (o : Go.Obj) : Rm (w.alloc o) c h dark l n wr L := ⟨m.d.alloc o, m.k.alloc o, m.len⟩
theorem Rm.below {C : Nat} (m : Rm w c h dark l n wr L) (hb : Below C w w') (h1 : c < C) (h2 : h < C) : Rm w' c h dark l n wr L := ⟨m.d.below hb h1, m.k.below hb h2, m.len⟩
theorem Rm.put (m : Rm w c h dark l n wr L) (hp : Put c #[.slice (some ⟨h, 0, none⟩) (n * 64) (n * 64), .bool dark', n64 l', n64 wr'] 49 w w') : Rm w' c h dark' l' n wr' L :=
  ⟨hp.blk, hp.keeps m.k m.ne.symm, m.len⟩

theorem size5' : (Tryd.prog.info? 5).map (·.size) = some 1 := by kernel_rfl
theorem q64 (n : Nat) : (((n * 64 : Nat) : Int)).tdiv 64 = n := by rw [Int.tdiv_eq_ediv_of_nonneg (by omega)]; omega
theorem q64' (n : Nat) : ((n : Int) * 64).tdiv 64 = n := by rw [Int.tdiv_eq_ediv_of_nonneg (by omega)]; omega

theorem rask_off (m : Rm w c h true l n wr L) : Calls Tryd.prog 29 #[pt c, n64 i] w fun e w' => e = .returned (n64 6) ∧ w = w' := by
  have h1 := m.d.cell 1 _ rfl
  clear m
  go_enter Tryd.func29, Tryd.ntmps29
  go_wp2
  go_ret
  exact ⟨rfl, rfl⟩
theorem rask_out (m : Rm w c h false l n wr L) (hn : n ≤ 5000) (hi : i < 0 ∨ (n : Int) ≤ i) : Calls Tryd.prog 29 #[pt c, n64 i] w fun e w' => e = .returned (n64 1) ∧ w = w' := by
  have h1 := m.d.cell 1 _ rfl
  have h0 := m.d.cell 0 _ rfl
  have e1 := q64 n
  have e2 := q64' n
  clear m
  rcases hi with hi | hi
  · go_enter Tryd.func29, Tryd.ntmps29
    go_wp2
    go_ret
    exact ⟨rfl, rfl⟩
  · have h' : ¬ i < 0 := by omega
    go_enter Tryd.func29, Tryd.ntmps29
    go_wp2
    go_ret
    exact ⟨rfl, rfl⟩
theorem rask_ok (m : Rm w c h false l n wr L) (hn : n ≤ 5000) (hi : 0 ≤ i) (hi2 : i < n) : Calls Tryd.prog 29 #[pt c, n64 i] w fun e w' => e = .returned (n64 0) ∧ w = w' := by
  have h1 := m.d.cell 1 _ rfl
  have h0 := m.d.cell 0 _ rfl
  have e1 := q64 n
  have e2 := q64' n
  clear m
  go_enter Tryd.func29, Tryd.ntmps29
  go_wp2
  go_ret
  exact ⟨rfl, rfl⟩
theorem rarm_yes (m : Rm w c h dark l n wr L) (hi : 0 ≤ i) : Calls Tryd.prog 25 #[pt c, n64 i] w fun e w' => e = .returned (.tuple #[]) ∧ Put c #[.slice (some ⟨h, 0, none⟩) (n * 64) (n * 64), .bool dark, n64 i, n64 wr] 49 w w' := by
  have h2 := m.d.cell 2 _ rfl
  have f2 := m.d.free 2
  have hd : decide (i < 0) = false := by simpa using hi
  go_enter Tryd.func25, Tryd.ntmps25
  go_wp2
  go_end0
  exact ⟨rfl, by exact (Put.self m.d).set 2 _⟩
theorem rarm_no (m : Rm w c h dark l n wr L) (hi : i < 0) : Calls Tryd.prog 25 #[pt c, n64 i] w fun e w' => e = .returned (.tuple #[]) ∧ Put c #[.slice (some ⟨h, 0, none⟩) (n * 64) (n * 64), .bool dark, n64 (-1), n64 wr] 49 w w' := by
  have h2 := m.d.cell 2 _ rfl
  have f2 := m.d.free 2
  have hd : decide (i < 0) = true := by simpa using hi
  go_enter Tryd.func25, Tryd.ntmps25
  go_wp2
  go_end0
  exact ⟨rfl, by exact ((Put.self m.d).set 2 _).set 2 _⟩
theorem ron_any (m : Rm w c h dark l n wr L) : Calls Tryd.prog 26 #[pt c] w fun e w' => e = .returned (.tuple #[]) ∧ Put c #[.slice (some ⟨h, 0, none⟩) (n * 64) (n * 64), .bool false, n64 (-1), n64 wr] 49 w w' := by
  have h1 := m.d.cell 1 _ rfl
  have f1 := m.d.free 1
  have h2 := m.d.cell 2 _ rfl
  have f2 := m.d.free 2
  go_enter Tryd.func26, Tryd.ntmps26
  go_wp2
  go_end0
  exact ⟨rfl, by exact ((Put.self m.d).set 1 _).set 2 _⟩
theorem rnew_any (w : World) (n : Nat) (hn : n ≤ 4096) : Calls Tryd.prog 20 #[n64 n] w fun e w' => e = .returned (pt (w.heap.size + 1)) ∧ Rm w' (w.heap.size + 1) w.heap.size false (-1) n 0 (zer (n * 64)) ∧ Below w.heap.size w w' ∧ w'.heap.size = w.heap.size + 2 := by
  obtain ⟨i0, hi, hz0, hz1, hz2⟩ := info_parts' info5
  have hmk := run_make_rowN (P := Tryd.prog) 40 5 i0 _ Tryd.underlying40 hi hz0 .i64 .i64 (n * 64) (n * 64) (Nat.le_refl _) (by rw [hz2]; omega) (by omega) w
  rw [hz1, Nat.mul_one, show ((n * 64 : Nat) : Int) = 64 * (n : Int) by omega] at hmk
  have hrow : madeCells (Value.int .u8 0).cells (n * 64) = row (zer (n * 64)) := by
    apply Array.ext_getElem?
    intro j
    by_cases hj : j < n * 64
    · rw [row_at _ _ (by rw [zer_length]; exact hj), zer_get]
      simp [madeCells, Value.cells, hj, Nat.mod_one]
    · rw [Array.getElem?_eq_none (by rw [size_madeCells]; omega), Array.getElem?_eq_none (by rw [row_size, zer_length]; omega)]
  rw [hrow] at hmk
  have HM := Lib.hid (blk_new w (row (zer (n * 64))) 5)
  clear hrow hi hz0 hz1 hz2
  go_enter Tryd.func20, Tryd.ntmps20
  go_wp2
  go_ret
  refine ⟨rfl, ⟨?_, ?_, by rw [zer_length]⟩, ((Below.refl _ _).alloc (Nat.le_refl _) _).alloc (by simp) _, by simp⟩
  · have := blk_new (w.alloc (.cells (row (zer (n * 64))) 5)) #[.slice (some ⟨w.heap.size, 0, none⟩) (n * 64) (n * 64), .bool false, n64 (-1), n64 0] 49
    simpa using this
  · exact HM.out.alloc _

/-- Write where it refuses. -/
theorem rwrite_off (m : Rm w c h true l n wr L) : Calls Tryd.prog 23 #[pt c, n64 i, .agg (row B)] w fun e w' => e = .returned (n64 6) ∧ Below w.heap.size w w' := by
  have HD := Lib.hid (m.alloc (.cells (row B) 31))
  clear m
  go_enter Tryd.func23, Tryd.ntmps23
  go_wp2_with (go_at_call 29; refine (rask_off HD.out).mono ?_; rintro e w' ⟨rfl, rfl⟩)
  go_ret
  exact ⟨rfl, (Below.refl _ _).alloc (Nat.le_refl _) _⟩
theorem rwrite_out (m : Rm w c h false l n wr L) (hn : n ≤ 5000) (hi : i < 0 ∨ (n : Int) ≤ i) : Calls Tryd.prog 23 #[pt c, n64 i, .agg (row B)] w fun e w' => e = .returned (n64 1) ∧ Below w.heap.size w w' := by
  have HD := Lib.hid (m.alloc (.cells (row B) 31))
  clear m
  go_enter Tryd.func23, Tryd.ntmps23
  go_wp2_with (go_at_call 29; refine (rask_out HD.out hn hi).mono ?_; rintro e w' ⟨rfl, rfl⟩)
  go_ret
  exact ⟨rfl, (Below.refl _ _).alloc (Nat.le_refl _) _⟩
theorem rwrite_goes (m : Rm w c h false 0 n wr L) (hn : n ≤ 5000) (hi : 0 ≤ i) (hi2 : i < n) : Calls Tryd.prog 23 #[pt c, n64 i, .agg (row B)] w fun e w' => e = .returned (n64 6) ∧ Fr c h w w' ∧ Rm w' c h true 0 n wr L := by
  have hd := m.alloc (.cells (row B) 31)
  have HF := Lib.hid (show Fr c h w (w.alloc (.cells (row B) 31)) from Fr.refl.alloc _)
  have h2 := hd.d.cell 2 _ rfl
  have h1 := hd.d.cell 1 _ rfl
  have f1 := hd.d.free 1
  have HD := Lib.hid hd
  clear m hd
  go_enter Tryd.func23, Tryd.ntmps23
  go_wp2_with (go_at_call 29; refine (rask_ok HD.out hn hi hi2).mono ?_; rintro e w' ⟨rfl, rfl⟩)
  go_ret
  have hp := (Put.self HD.out.d).set 1 (.bool true)
  exact ⟨rfl, HF.out.trans (Fr.of_put hp), HD.out.put hp⟩
end
section
variable {w w' : World} {c h n i : Nat} {l l' wr : Int} {L B : List Int}
set_option maxRecDepth 100000 in
theorem rwrite_ok (m : Rm w c h false l n wr L) (hn : n ≤ 5000) (hi : i < n) (hB : B.length = 64) (hw : 0 ≤ wr ∧ wr ≤ 4294967296) (hl : l ≠ 0) (hl1 : -1 ≤ l) (hl2 : l ≤ 9223372036854775807) (hl' : l' = if 0 < l then l - 1 else l) :
    Calls Tryd.prog 23 #[pt c, n64 i, .agg (row B)] w fun e w' => e = .returned (n64 0) ∧ Fr c h w w' ∧ Rm w' c h false l' n (wr + 1) (put L i B) := by
  have hd := m.alloc (.cells (row B) 31)
  have HF := Lib.hid (show Fr c h w (w.alloc (.cells (row B) 31)) from Fr.refl.alloc _)
  have h2 := hd.d.cell 2 _ rfl
  have f2 := hd.d.free 2
  have HD := Lib.hid hd
  have HN := Lib.hid (blk_new w (row B) 31)
  have HB := Lib.hid hB
  have HLL := Lib.hid hl'
  have hlt := m.d.lt
  have hlt2 := m.k.lt
  have hz : (l == 0) = false := by simpa using hl
  clear m hd hB hl hl'
  go_enter Tryd.func23, Tryd.ntmps23
  go_wp2_with fail
  refine (rask_ok HD.out hn (by omega) (by omega)).mono ?_
  rintro e w' ⟨rfl, rfl⟩
  generalize w.alloc (.cells (row B) 31) = w1 at *
  go_upto_if 26 with fail
  go_cut [] (fun wx => Rm wx c h false l' n wr L ∧ Fr c h w wx ∧ Blk wx w.heap.size (row B) 31)
  case first =>
    by_cases hp : 0 < l
    · have hpd : decide (0 < l) = true := by simpa using hp
      go_wp2_with fail
      go_meet
      have hq := (Put.self HD.out.d).set 2 (.int .i64 (l - 1))
      have e : l' = l - 1 := by rw [HLL.out, if_pos hp]
      exact ⟨HD.out.put (by rw [e]; exact hq), HF.out.trans (Fr.of_put hq), hq.keeps HN.out (by omega)⟩
    · have hpd : decide (0 < l) = false := by simpa using hp
      go_wp2_with fail
      go_meet
      have e : l' = l := by rw [HLL.out, if_neg (by omega)]
      exact ⟨by rw [e]; exact HD.out, HF.out, HN.out⟩
  case rest =>
    clear HD HF HN h2 f2
    obtain ⟨hd, hf, hn⟩ := hcut
    have h0 := hd.d.cell 0 _ rfl
    have HD := Lib.hid hd
    have HF := Lib.hid hf
    have HN := Lib.hid hn
    clear hd hf hn
    have m1 : IntKind.i64.wrap (64 * (i : Int)) = 64 * (i : Int) := IntWalk.i64_in _ (by omega)
    have m2 : IntKind.i64.wrap (64 * (i : Int) + 64) = 64 * (i : Int) + 64 := IntWalk.i64_in _ (by omega)
    have hsl := fun W => Lib.run_slice_window (P := Tryd.prog) W 40 5 Tryd.underlying40 size5 h 0 (n * 64) (n * 64) (i * 64) (i * 64 + 64) (by omega) (by omega)
    rw [show ((i * 64 : Nat) : Int) = 64 * (i : Int) by omega, show ((i * 64 + 64 : Nat) : Int) = 64 * (i : Int) + 64 by omega, show i * 64 + 64 - i * 64 = 64 by omega, Nat.zero_add] at hsl
    go_upto_region 9 with fail
    go_still_tail 11, (by kernel_rfl)
    refine wpList_copy_own rfl (.tmp 43) (.tmp 44) 40 40 rfl 5 Tryd.underlying40 size5' h (i * 64) 64 (n * 64 - i * 64) ⟨w.heap.size, 0, none⟩ 64 64 rfl rfl (row L) 5 HD.out.k (B.map (Value.int .u8)) (by rw [List.length_map, HB.out]; rfl) ?hsrc (by rw [List.length_map, row_size, HB.out, HD.out.len]; omega) (one_bytes B) ?rest
    case hsrc =>
      intro j v hj
      rw [addr_add, Nat.zero_add]
      exact (show Blk { wc with drawn := wc.drawn + 1 } w.heap.size (row B) 31 from HN.out).cell j v (by rw [row]; simpa using hj)
    case rest =>
      have hput : Put h (row (put L i B)) 5 wc (World.setRow { wc with drawn := wc.drawn + 1 } h ((row L).toList.take (i * 64) ++ (B.map (Value.int .u8) ++ (row L).toList.drop (i * 64 + (B.map (Value.int .u8)).length))).toArray) := by
        have e := row_put L B i n HB.out HD.out.len hi
        have e2 : ((row L).toList.take (i * 64) ++ (B.map (Value.int .u8) ++ (row L).toList.drop (i * 64 + (B.map (Value.int .u8)).length))).toArray = row (put L i B) := by
          rw [← e, Nat.add_zero, List.append_assoc]
          simp [row]
        rw [e2]
        have hq := put_setRow (ds := row (put L i B)) (show Blk { wc with drawn := wc.drawn + 1 } h (row L) 5 from HD.out.k)
        exact ⟨hq.os, hq.tape, hq.output, hq.size, hq.other, hq.blk⟩
      generalize World.setRow { wc with drawn := wc.drawn + 1 } h _ = w3 at *
      have hd3 : Rm w3 c h false l' n wr (put L i B) := ⟨hput.keeps HD.out.d HD.out.ne, hput.blk, put_length L i n B HD.out.len HB.out hi⟩
      have hf3 : Fr c h w w3 := HF.out.trans ⟨hput.os, hput.tape, hput.output, by rw [hput.size]; exact Nat.le_refl _, fun k _ _ h2 => hput.other k h2⟩
      have c4 := hd3.d.cell 3 _ rfl
      have f4 := hd3.d.free 3
      have HD3 := Lib.hid hd3
      have HF3 := Lib.hid hf3
      clear hput hd3 hf3 h0 m1 m2 hsl
      go_wp2
      go_ret
      exact ⟨rfl, HF3.out.trans (Fr.of_put (Put.of_set HD3.out.d 3 _)), HD3.out.put (Put.of_set HD3.out.d 3 _)⟩
end
end Go.Proofs.YtjjaghiihkdclaaDoor
