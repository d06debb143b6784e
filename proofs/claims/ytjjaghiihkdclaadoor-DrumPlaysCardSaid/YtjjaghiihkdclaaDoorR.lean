/- The reference's Read; a block of an operation. -/
import Derived.Test.YtjjaghiihkdclaaDoorM
set_option linter.unusedVariables false
set_option linter.unusedSimpArgs false
namespace Go.Proofs.YtjjaghiihkdclaaDoor
open Go.RowKit Jw

theorem run_slice_from {P : Program} (W : World) (t e : TypeId) (ht : P.underlying t = some (.slice e)) (hz : ∀ w, (Go.sizeOf e).run P w = .ok 1 w) (b o len cap l : Nat) (hl : l ≤ len) (hc : l < cap) :
    (Instr.slice t (.slice (some ⟨b, o, none⟩) len cap) (some (.int .i64 (l : Int))) none none).run P W = .ok (.slice (some ⟨b, o + l, none⟩) (len - l) (cap - l)) W := by
  have ht' : P.underlying t = some (.slice (P.elem t)) := by simp [Program.elem, ht]
  have he : P.elem t = e := by simp [Program.elem, ht]
  rw [run_slice_l W t _ _ _ ht' .i64 _ (by omega) (by omega), he, hz]
  have hne : ¬ cap = l := by omega
  by_cases h0 : l = 0
  · subst h0
    simp [Result.andThen, sliced, Addr.add, hne]
  · simp [Result.andThen, sliced, Addr.add, hne, h0]
theorem results_blk {w : World} {p : Nat} {fn : Func} {tmps : Array Value} {e : Value} {q u : Tmp} (h : fn.results = #[.cell q 31, .tmp u]) (hp : tmps.getD q undef = pt p) (he : tmps.getD u undef = e) {C : List Int} (hb : Blk w p (row C) 31) (hC : C.length = 64) :
    (results fn tmps).run Tryd.prog w = .ok (.tuple #[bk C, e]) w := results_zero h hp he hb hC

section
variable {w w' : World} {c h n i : Nat} {dark : Bool} {l wr : Int} {L B : List Int}

/-- What the reference's Read has laid where it asks. -/
theorem rread_core (m : Rm w c h dark l n wr L) (i : Int) (x : Int) (C : List Int) (hC : C.length = 64)
    (hask : ∀ W, Rm W c h dark l n wr L → Calls Tryd.prog 29 #[pt c, n64 i] W fun e w' => e = .returned (n64 x) ∧ W = w')
    (hx : x ≠ 0) (hz : C = zer 64) : Calls Tryd.prog 24 #[pt c, n64 i] w fun e w' => e = .returned (.tuple #[bk C, n64 x]) ∧ Below w.heap.size w w' := by
  subst hz
  have hz := zero31
  have hb := build31
  have hxb : (x == 0) = false := by simpa using hx
  have m1 := m.alloc (.cells (row (zer 64)) 31)
  have HM := Lib.hid (m1.alloc (.cells (row (zer 64)) 31))
  have HA := Lib.hid hask
  have HS := Lib.hid (store_new (w.alloc (.cells (row (zer 64)) 31)) (zer 64) (zer_length 64))
  have HB1 := Lib.hid ((blk_new w (row (zer 64)) 31).alloc (.cells (row (zer 64)) 31))
  have HB2 := Lib.hid (blk_new (w.alloc (.cells (row (zer 64)) 31)) (row (zer 64)) 31)
  have HBL : Hid (Below w.heap.size w ((w.alloc (.cells (row (zer 64)) 31)).alloc (.cells (row (zer 64)) 31))) := Lib.hid (((Below.refl _ _).alloc (Nat.le_refl _) _).alloc (by simp) _)
  have hsz : (w.alloc (.cells (row (zer 64)) 31)).heap.size = w.heap.size + 1 := by simp
  rw [hsz] at HS HB2
  clear m m1 hask hx
  go_enter Tryd.func24, Tryd.ntmps24
  go_wp2_with ((with_reducible refine wpList_store_run (w' := (w.alloc (.cells (row (zer 64)) 31)).alloc (.cells (row (zer 64)) 31)) ?_ 31 (.tmp 6) (.tmp 8) ?_ ⟨w.heap.size + 1, 0, none⟩ (.agg (row (zer 64))) ?_ ?_ ?_ ?_); rfl; rfl; rfl; rfl; exact HS.out)
  generalize (w.alloc (.cells (row (zer 64)) 31)).alloc (.cells (row (zer 64)) 31) = w2 at *
  refine (HA.out _ HM.out).mono ?_
  rintro e w3 ⟨rfl, rfl⟩
  obtain ⟨w4, hst, hp⟩ := store_one (B := zer 64) HB1.out (zer_length 64) (zer_length 64)
  have HST := Lib.hid hst
  have HP := Lib.hid hp
  have HL := Lib.hid (load_one HB2.out (zer_length 64))
  clear hst hp
  go_wp2_with (first
    | ((with_reducible refine wpList_load_run ?_ 31 (.tmp 6) ?_ ⟨w.heap.size + 1, 0, none⟩ (.agg (row (zer 64))) ?_ ?_ ?_); rfl; rfl; rfl; exact HL.out)
    | ((with_reducible refine wpList_store_run (w' := w4) ?_ 31 (.tmp 4) (.tmp 23) ?_ ⟨w.heap.size, 0, none⟩ (.agg (row (zer 64))) ?_ ?_ ?_ ?_); rfl; rfl; rfl; rfl; exact HST.out))
  exact bodyPost_ret (results_blk rfl rfl rfl HP.out.blk (zer_length 64)) rfl ⟨rfl, HP.out.below HBL.out (Nat.le_refl _)⟩
theorem rread_off (m : Rm w c h true l n wr L) (i : Int) : Calls Tryd.prog 24 #[pt c, n64 i] w fun e w' => e = .returned (.tuple #[bk (zer 64), n64 6]) ∧ Below w.heap.size w w' :=
  rread_core m i 6 _ (zer_length 64) (fun W hW => rask_off hW) (by decide) rfl
theorem rread_out (m : Rm w c h false l n wr L) (hn : n ≤ 5000) (i : Int) (hi : i < 0 ∨ (n : Int) ≤ i) : Calls Tryd.prog 24 #[pt c, n64 i] w fun e w' => e = .returned (.tuple #[bk (zer 64), n64 1]) ∧ Below w.heap.size w w' :=
  rread_core m i 1 _ (zer_length 64) (fun W hW => rask_out hW hn hi) (by decide) rfl

set_option maxRecDepth 100000 in
theorem rread_ok (m : Rm w c h false l n wr L) (hn : n ≤ 5000) (hi : i < n) : Calls Tryd.prog 24 #[pt c, n64 i] w fun e w' => e = .returned (.tuple #[bk (get L i), n64 0]) ∧ Below w.heap.size w w' := by
  have hz := zero31
  have hb := build31
  have m1 := m.alloc (.cells (row (zer 64)) 31)
  have HM := Lib.hid (m1.alloc (.cells (row (zer 64)) 31))
  have HS := Lib.hid (store_new (w.alloc (.cells (row (zer 64)) 31)) (zer 64) (zer_length 64))
  have HB1 := Lib.hid ((blk_new w (row (zer 64)) 31).alloc (.cells (row (zer 64)) 31))
  have HB2 := Lib.hid (blk_new (w.alloc (.cells (row (zer 64)) 31)) (row (zer 64)) 31)
  have HBL : Hid (Below w.heap.size w ((w.alloc (.cells (row (zer 64)) 31)).alloc (.cells (row (zer 64)) 31))) := Lib.hid (((Below.refl _ _).alloc (Nat.le_refl _) _).alloc (by simp) _)
  have hsz : (w.alloc (.cells (row (zer 64)) 31)).heap.size = w.heap.size + 1 := by simp
  rw [hsz] at HS HB2
  have HLL := Lib.hid m.len
  clear m m1
  have q1 : IntKind.i64.wrap (64 * (i : Int)) = 64 * (i : Int) := IntWalk.i64_in _ (by omega)
  have hsl := fun W => run_slice_from (P := Tryd.prog) W 40 5 Tryd.underlying40 size5 h 0 (n * 64) (n * 64) (i * 64) (by omega) (by omega)
  rw [show ((i * 64 : Nat) : Int) = 64 * (i : Int) by omega, Nat.zero_add] at hsl
  go_enter Tryd.func24, Tryd.ntmps24
  go_wp2_with ((with_reducible refine wpList_store_run (w' := (w.alloc (.cells (row (zer 64)) 31)).alloc (.cells (row (zer 64)) 31)) ?_ 31 (.tmp 6) (.tmp 8) ?_ ⟨w.heap.size + 1, 0, none⟩ (.agg (row (zer 64))) ?_ ?_ ?_ ?_); rfl; rfl; rfl; rfl; exact HS.out)
  generalize (w.alloc (.cells (row (zer 64)) 31)).alloc (.cells (row (zer 64)) 31) = w2 at *
  refine (rask_ok HM.out hn (by omega) (by omega)).mono ?_
  rintro e w3 ⟨rfl, rfl⟩
  have h0 := HM.out.d.cell 0 _ rfl
  go_upto_region 4 with fail
  go_still_tail 8, (by kernel_rfl)
  refine wpList_copy_own rfl (.tmp 14) (.tmp 21) 40 40 rfl 5 Tryd.underlying40 size5' (w.heap.size + 1) 0 64 64 ⟨h, i * 64, none⟩ (n * 64 - i * 64) (n * 64 - i * 64) rfl rfl (row (zer 64)) 31 HB2.out ((get L i).map (Value.int .u8)) ?hn ?hsrc (by rw [List.length_map, row_size, get_length L i n HLL.out hi, zer_length]; decide) (one_bytes _) ?rest
  case hn => rw [List.length_map, get_length L i n HLL.out hi]; exact (Nat.min_eq_right (by omega)).symm
  case hsrc =>
    intro j v hj
    rw [addr_add]
    exact (show Blk { w2 with drawn := w2.drawn + 1 } h (row L) 5 from HM.out.k).cell _ v (row_cells L i n HLL.out hi j v hj)
  case rest =>
    have e2 : ((row (zer 64)).toList.take 0 ++ ((get L i).map (Value.int .u8) ++ (row (zer 64)).toList.drop (0 + ((get L i).map (Value.int .u8)).length))).toArray = row (get L i) := by
      rw [List.length_map, get_length L i n HLL.out hi, List.take_zero, List.nil_append, List.drop_of_length_le (by simp [row, zer]), List.append_nil]
      rfl
    rw [e2]
    have hq := put_setRow (ds := row (get L i)) (show Blk { w2 with drawn := w2.drawn + 1 } (w.heap.size + 1) (row (zer 64)) 31 from HB2.out)
    have hput : Put (w.heap.size + 1) (row (get L i)) 31 w2 (World.setRow { w2 with drawn := w2.drawn + 1 } (w.heap.size + 1) (row (get L i))) := ⟨hq.os, hq.tape, hq.output, hq.size, hq.other, hq.blk⟩
    generalize World.setRow { w2 with drawn := w2.drawn + 1 } (w.heap.size + 1) (row (get L i)) = w3 at *
    have HG := Lib.hid (get_length L i n HLL.out hi)
    have HL := Lib.hid (load_one hput.blk HG.out)
    obtain ⟨w4, hst, hp⟩ := store_one (B := get L i) (hput.keeps HB1.out (by omega)) (zer_length 64) HG.out
    have HST := Lib.hid hst
    have HP := Lib.hid hp
    have HB3 := Lib.hid (hput.below HBL.out (by omega))
    clear hst hp hput hq e2 h0 q1 hsl
    go_wp2_with (first
      | ((with_reducible refine wpList_load_run ?_ 31 (.tmp 6) ?_ ⟨w.heap.size + 1, 0, none⟩ (.agg (row (get L i))) ?_ ?_ ?_); rfl; rfl; rfl; exact HL.out)
      | ((with_reducible refine wpList_store_run (w' := w4) ?_ 31 (.tmp 4) (.tmp 23) ?_ ⟨w.heap.size, 0, none⟩ (.agg (row (get L i))) ?_ ?_ ?_ ?_); rfl; rfl; rfl; rfl; exact HST.out))
    exact bodyPost_ret (results_blk rfl rfl rfl HP.out.blk HG.out) rfl ⟨rfl, HP.out.below HB3.out (Nat.le_refl _)⟩
end
end Go.Proofs.YtjjaghiihkdclaaDoor
