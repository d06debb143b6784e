/- The block of an operation. -/
import Derived.Test.YtjjaghiihkdclaaDoorR
set_option linter.unusedVariables false
set_option linter.unusedSimpArgs false
namespace Go.Proofs.YtjjaghiihkdclaaDoor
open Go.RowKit Jw

def opb (x n : Int) : List Int := (fil x 64).set 0 (IntKind.u8.wrap n)
theorem opb_length (x n : Int) : (opb x n).length = 64 := by rw [opb, List.length_set, fil_length x 64 (Nat.le_refl _)]
abbrev opv (k a n x : Int) : Value := .agg #[n64 k, n64 a, n64 n, .int .u8 x]

set_option maxRecDepth 100000 in
set_option maxHeartbeats 1000000 in
theorem block_any (w : World) (k a n x : Int) : Calls Tryd.prog 22 #[opv k a n x] w fun e w' => e = .returned (bk (opb x n)) ∧ Below w.heap.size w w' := by
  have hz := zero31
  have hb := build31
  have HO := Lib.hid ((((blk_new w #[n64 k, n64 a, n64 n, .int .u8 x] 51).alloc (.cells (row (zer 64)) 31)).alloc (.cells (row (zer 64)) 31)))
  obtain ⟨w1, h1⟩ : ∃ w1, w1 = w.alloc (.cells #[n64 k, n64 a, n64 n, .int .u8 x] 51) := ⟨_, rfl⟩
  have z1 : w1.heap.size = w.heap.size + 1 := by rw [h1]; simp
  have z2 : (w1.alloc (.cells (row (zer 64)) 31)).heap.size = w.heap.size + 1 + 1 := by simp [z1]
  have HS := Lib.hid (store_new (w1.alloc (.cells (row (zer 64)) 31)) (zer 64) (zer_length 64))
  have hB1 := (blk_new w1 (row (zer 64)) 31).alloc (.cells (row (zer 64)) 31)
  have hB2 := blk_new (w1.alloc (.cells (row (zer 64)) 31)) (row (zer 64)) 31
  have hBL : Below w.heap.size w ((w1.alloc (.cells (row (zer 64)) 31)).alloc (.cells (row (zer 64)) 31)) := by
    rw [h1]; exact ((((Below.refl _ _).alloc (Nat.le_refl _) _).alloc (by simp) _).alloc (by simp; omega) _)
  rw [z1] at hB1
  rw [z2] at HS hB2
  rw [h1] at HS hB1 hB2 hBL
  have HB1 := Lib.hid hB1
  have HB2 := Lib.hid hB2
  have HBL := Lib.hid hBL
  clear hB1 hB2 hBL z1 z2 h1
  go_enter Tryd.func22, Tryd.ntmps22
  go_upto_block 0 with ((with_reducible refine wpList_store_run (w' := ((w.alloc (.cells #[n64 k, n64 a, n64 n, .int .u8 x] 51)).alloc (.cells (row (zer 64)) 31)).alloc (.cells (row (zer 64)) 31)) ?_ 31 (.tmp 3) (.tmp 5) ?_ ⟨w.heap.size + 1 + 1, 0, none⟩ (.agg (row (zer 64))) ?_ ?_ ?_ ?_); rfl; rfl; rfl; rfl; exact HS.out)
  generalize ((w.alloc (.cells #[n64 k, n64 a, n64 n, .int .u8 x] 51)).alloc (.cells (row (zer 64)) 31)).alloc (.cells (row (zer 64)) 31) = w3 at *
  go_cut [] (fun wx => Blk wx w.heap.size #[n64 k, n64 a, n64 n, .int .u8 x] 51 ∧ Blk wx (w.heap.size + 1) (row (zer 64)) 31 ∧ Blk wx (w.heap.size + 1 + 1) (row (fil x 64)) 31 ∧ Below w.heap.size w wx)
  case first =>
    go_wp2_with fail
    go_loopw [6] (fun i wr => ∃ (j : Nat), j ≤ 64 ∧ i = n64 j ∧ Blk wr w.heap.size #[n64 k, n64 a, n64 n, .int .u8 x] 51 ∧ Blk wr (w.heap.size + 1) (row (zer 64)) 31 ∧ Blk wr (w.heap.size + 1 + 1) (row (fil x j)) 31 ∧ Below w.heap.size w wr) (fun i _ => 64 - (intOf i).toNat)
    case atStart => exact ⟨0, Nat.zero_le _, rfl, HO.out, HB1.out, HB2.out, HBL.out⟩
    case round =>
      clear HO HB1 HB2 HBL HS
      obtain ⟨j, hj, rfl, h1, h2, h3, h4⟩ := hrel
      have H1 := Lib.hid h1
      have H2 := Lib.hid h2
      have H3 := Lib.hid h3
      have H4 := Lib.hid h4
      by_cases hlt : j < 64
      · have c3 := h1.cell 3 _ rfl
        have c1 := h3.cell j _ (row_at (fil x j) j (by rw [fil_length x j hj]; exact hlt))
        have f1 := h3.free j
        have hi64 : (j : Int) < 64 := by omega
        clear h1 h2 h3 h4
        go_wp2
        go_roundw
        case rel =>
          have hp := Put.of_set H3.out j (.int .u8 x)
          rw [fil_set x j hlt] at hp
          exact ⟨j + 1, by omega, by go_num, hp.keeps H1.out (by omega), hp.keeps H2.out (by omega), hp.blk, hp.below H4.out (by omega)⟩
        case measure => simp [intOf]; omega
      · obtain rfl : j = 64 := by omega
        clear h1 h2 h3 h4
        go_wp2_with fail
        go_meet
        exact ⟨H1.out, H2.out, H3.out, H4.out⟩
  case rest =>
    clear HO HB1 HB2 HBL HS
    obtain ⟨h1, h2, h3, h4⟩ := hcut
    have c2 := h1.cell 2 _ rfl
    have c1 := h3.cell 0 _ (row_at (fil x 64) 0 (by rw [fil_length x 64 (Nat.le_refl _)]; decide))
    have f1 := h3.free 0
    have hp := Put.of_set h3 0 (.int .u8 (IntKind.u8.wrap n))
    rw [row_set] at hp
    obtain ⟨y, hy⟩ : ∃ y, y = IntKind.u8.wrap n := ⟨_, rfl⟩
    rw [← hy] at hp
    have hwr : IntKind.u8.wrap n = y := hy.symm
    obtain ⟨C, hC⟩ : ∃ C, C = (fil x 64).set 0 y := ⟨_, rfl⟩
    have hC64 : C.length = 64 := by rw [hC, List.length_set, fil_length x 64 (Nat.le_refl _)]
    have hCo : C = opb x n := by rw [hC, opb, hwr]
    rw [← hC] at hp
    have HP := Lib.hid hp
    have HL := Lib.hid (load_one hp.blk hC64)
    obtain ⟨w5, hst, hp5⟩ := store_one (B := C) (hp.keeps h2 (by omega)) (zer_length 64) hC64
    have HST := Lib.hid hst
    have HP5 := Lib.hid hp5
    have HBL := Lib.hid (hp.below h4 (by omega))
    have HC := Lib.hid hCo
    have H64 := Lib.hid hC64
    clear h1 h2 h3 h4 hp hst hp5 hy hC hCo hC64
    go_wp2_with (first
      | ((with_reducible refine wpList_load_run ?_ 31 (.tmp 3) ?_ ⟨w.heap.size + 1 + 1, 0, none⟩ (.agg (row C)) ?_ ?_ ?_); rfl; rfl; rfl; exact HL.out)
      | ((with_reducible refine wpList_store_run (w' := w5) ?_ 31 (.tmp 2) (.tmp 18) ?_ ⟨w.heap.size + 1, 0, none⟩ (.agg (row C)) ?_ ?_ ?_ ?_); rfl; rfl; rfl; rfl; exact HST.out))
    rw [← HC.out]
    exact bodyPost_ret (results_cell_row rfl _ _ _ _ (row C) (0, 0) _ rfl HP5.out.blk Tryd.underlying31 rfl (by rw [size31, row_size, H64.out])) rfl ⟨rfl, HP5.out.below HBL.out (by omega)⟩
end Go.Proofs.YtjjaghiihkdclaaDoor
