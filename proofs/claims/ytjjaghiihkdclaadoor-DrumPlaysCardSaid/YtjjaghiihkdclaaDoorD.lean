/- Write of a drum, and Read where it refuses. -/
import Derived.Test.YtjjaghiihkdclaaDoorC
set_option linter.unusedVariables false
set_option linter.unusedSimpArgs false
namespace Go.Proofs.YtjjaghiihkdclaaDoor
open Go.RowKit Jw

section
variable {aR aP : Addr} {w : World} {b g n : Nat} {off ar ar' : Bool} {l l' wr : Int} {i : Int} {L B : List Int}

theorem results_zero {w : World} {p : Nat} {fn : Func} {tmps : Array Value} {e : Value} {q u : Tmp} (h : fn.results = #[.cell q 31, .tmp u]) (hp : tmps.getD q undef = pt p) (he : tmps.getD u undef = e) {C : List Int} (hb : Blk w p (row C) 31) (hC : C.length = 64) :
    (results fn tmps).run Tryd.prog w = .ok (.tuple #[bk C, e]) w := by
  rw [results_cell_tmp h, hp, he]
  have hld := load_one hb hC
  have hld' : (loadVar 31 ⟨p, 0, none⟩).run Tryd.prog w = .ok (.agg (row C)) w := by
    simpa only [Instr.loadAt, Instr.sureAddr, Sem.run_bind, Sem.run_pure, Result.andThen_ok] using hld
  simp [asAddr, Result.andThen, hld', bk]
theorem build31 (w : World) : (Instr.build 31 #[]).run Tryd.prog w = .ok (.agg (row (zer 64))) w := run_build w 31 #[] _ (by kernel_rfl)

theorem read_off (h : Blk w b #[.bool true, .bool ar, n64 l, .slice (some ⟨g, 0, none⟩) n n, n64 wr] 62) (hP : w.cell? ⟨1, 0, none⟩ = some (er aP)) :
    Calls Tryd.prog 11 #[pt b, n64 i] w fun e w' => e = .returned (.tuple #[bk (zer 64), er aP]) ∧ Below w.heap.size w w' := by
  have hz := zero31
  have HD := Lib.hid (h.alloc (.cells (row (zer 64)) 31))
  have hP' : (w.alloc (.cells (row (zer 64)) 31)).cell? ⟨1, 0, none⟩ = some (er aP) := by
    rw [World.cell?_alloc_lt _ _ _ (block_lt_of_cell hP)]; exact hP
  have HP := Lib.hid hP'
  have HS := Lib.hid (run_storeAt_new (P := Tryd.prog) w 31 (row (zer 64)) (row (zer 64)) (by rw [size31, row_size, zer_length]) rfl (row_one _))
  have HB := Lib.hid (blk_new w (row (zer 64)) 31)
  have hb := build31
  clear h hP hP'
  go_enter Tryd.func11, Tryd.ntmps11
  go_wp2_with (first
    | (go_at_call 27; refine (ask_off HD.out HP.out).mono ?_; rintro e w' ⟨rfl, rfl⟩)
    | ((with_reducible refine wpList_store_run (w' := w.alloc (.cells (row (zer 64)) 31)) ?_ 31 (.tmp 4) (.tmp 12) ?_ ⟨w.heap.size, 0, none⟩ (.agg (row (zer 64))) ?_ ?_ ?_ ?_); rfl; rfl; rfl; rfl; exact HS.out))
  exact bodyPost_ret (results_zero rfl rfl rfl HB.out (zer_length 64)) rfl ⟨rfl, (Below.refl _ _).alloc (Nat.le_refl _) _⟩
theorem read_out (h : Blk w b #[.bool false, .bool ar, n64 l, .slice (some ⟨g, 0, none⟩) n n, n64 wr] 62) (hR : w.cell? ⟨0, 0, none⟩ = some (er aR)) (hi : i < 0 ∨ (n : Int) ≤ i) :
    Calls Tryd.prog 11 #[pt b, n64 i] w fun e w' => e = .returned (.tuple #[bk (zer 64), er aR]) ∧ Below w.heap.size w w' := by
  have hz := zero31
  have HD := Lib.hid (h.alloc (.cells (row (zer 64)) 31))
  have hP' : (w.alloc (.cells (row (zer 64)) 31)).cell? ⟨0, 0, none⟩ = some (er aR) := by
    rw [World.cell?_alloc_lt _ _ _ (block_lt_of_cell hR)]; exact hR
  have HP := Lib.hid hP'
  have HS := Lib.hid (run_storeAt_new (P := Tryd.prog) w 31 (row (zer 64)) (row (zer 64)) (by rw [size31, row_size, zer_length]) rfl (row_one _))
  have HB := Lib.hid (blk_new w (row (zer 64)) 31)
  have hb := build31
  clear h hR hP'
  go_enter Tryd.func11, Tryd.ntmps11
  go_wp2_with (first
    | (go_at_call 27; refine (ask_out HD.out HP.out hi).mono ?_; rintro e w' ⟨rfl, rfl⟩)
    | ((with_reducible refine wpList_store_run (w' := w.alloc (.cells (row (zer 64)) 31)) ?_ 31 (.tmp 4) (.tmp 12) ?_ ⟨w.heap.size, 0, none⟩ (.agg (row (zer 64))) ?_ ?_ ?_ ?_); rfl; rfl; rfl; rfl; exact HS.out))
  exact bodyPost_ret (results_zero rfl rfl rfl HB.out (zer_length 64)) rfl ⟨rfl, (Below.refl _ _).alloc (Nat.le_refl _) _⟩

theorem write_off (h : Blk w b #[.bool true, .bool ar, n64 l, .slice (some ⟨g, 0, none⟩) n n, n64 wr] 62) (hP : w.cell? ⟨1, 0, none⟩ = some (er aP)) :
    Calls Tryd.prog 12 #[pt b, n64 i, .agg (row B)] w fun e w' => e = .returned (er aP) ∧ Below w.heap.size w w' := by
  have HD := Lib.hid (h.alloc (.cells (row B) 31))
  have hP' : (w.alloc (.cells (row B) 31)).cell? ⟨1, 0, none⟩ = some (er aP) := by
    rw [World.cell?_alloc_lt _ _ _ (block_lt_of_cell hP)]; exact hP
  have HP := Lib.hid hP'
  clear h hP hP'
  go_enter Tryd.func12, Tryd.ntmps12
  go_wp2_with (go_at_call 27; refine (ask_off HD.out HP.out).mono ?_; rintro e w' ⟨rfl, rfl⟩)
  go_ret
  exact ⟨rfl, (Below.refl _ _).alloc (Nat.le_refl _) _⟩
theorem write_out (h : Blk w b #[.bool false, .bool ar, n64 l, .slice (some ⟨g, 0, none⟩) n n, n64 wr] 62) (hR : w.cell? ⟨0, 0, none⟩ = some (er aR)) (hi : i < 0 ∨ (n : Int) ≤ i) :
    Calls Tryd.prog 12 #[pt b, n64 i, .agg (row B)] w fun e w' => e = .returned (er aR) ∧ Below w.heap.size w w' := by
  have HD := Lib.hid (h.alloc (.cells (row B) 31))
  have hP' : (w.alloc (.cells (row B) 31)).cell? ⟨0, 0, none⟩ = some (er aR) := by
    rw [World.cell?_alloc_lt _ _ _ (block_lt_of_cell hR)]; exact hR
  have HP := Lib.hid hP'
  clear h hR hP'
  go_enter Tryd.func12, Tryd.ntmps12
  go_wp2_with (go_at_call 27; refine (ask_out HD.out HP.out hi).mono ?_; rintro e w' ⟨rfl, rfl⟩)
  go_ret
  exact ⟨rfl, (Below.refl _ _).alloc (Nat.le_refl _) _⟩
theorem write_goes (h : Dr w b g false true 0 n wr L) (hP : w.cell? ⟨1, 0, none⟩ = some (er aP)) (hi : 0 ≤ i) (hi2 : i < n) (hb1 : 1 < b) :
    Calls Tryd.prog 12 #[pt b, n64 i, .agg (row B)] w fun e w' => e = .returned (er aP) ∧ Fr b g w w' ∧ Dr w' b g true true 0 n wr L := by
  have hd := h.alloc (.cells (row B) 31)
  have HD := Lib.hid hd
  have hP' : (w.alloc (.cells (row B) 31)).cell? ⟨1, 0, none⟩ = some (er aP) := by
    rw [World.cell?_alloc_lt _ _ _ (block_lt_of_cell hP)]; exact hP
  have hF : Fr b g w (w.alloc (.cells (row B) 31)) := Fr.refl.alloc _
  have HP := Lib.hid hP'
  clear h hP hP' hd
  go_enter Tryd.func12, Tryd.ntmps12
  go_wp2_with (go_at_call 27; refine (ask_ok HD.out.d hi hi2).mono ?_; rintro e w' ⟨rfl, rfl⟩)
  refine (goes_yes HD.out.d).mono ?_
  rintro e w2 ⟨rfl, hp⟩
  have hP2 : w2.cell? ⟨1, 0, none⟩ = some (er aP) := (hp.cell (by show 1 ≠ b; omega)).trans HP.out
  have HX := Lib.hid (And.intro (hF.trans (Fr.of_put hp)) (HD.out.put hp))
  clear hp hF
  go_wp2
  go_ret
  exact ⟨rfl, HX.out.1, HX.out.2⟩
end
end Go.Proofs.YtjjaghiihkdclaaDoor
