/- Read and Write of a drum: what each call comes to. -/
import Derived.Test.YtjjaghiihkdclaaDoorB
import Derived.Test.YtjjaghiihkdclaaDoorArr
import Derived.Deep.WholeRow
import Derived.Laws.CopyRow
import Derived.Laws.ResultCell
set_option linter.unusedVariables false
set_option linter.unusedSimpArgs false
namespace Go.Proofs.YtjjaghiihkdclaaDoor
open Go.RowKit Jw

theorem zero31 (w : World) : (zeroValue 31).run Tryd.prog w = .ok (.agg (row (zer 64))) w :=
  (zero_of_info (P := Tryd.prog) (t := 31) (v := .agg (row (zer 64))) (n := 64) (by
    have := info31
    obtain ⟨i, hi, e⟩ := Option.map_eq_some_iff.1 this
    simp only [Prod.mk.injEq] at e
    rw [hi]; simp [e.1, e.2.1])).1 w
theorem put_setRow {w : World} {g : Nat} {cs ds : Array Value} {t : TypeId} (h : Blk w g cs t) : Put g ds t w (w.setRow g ds) :=
  ⟨rfl, rfl, rfl, by simp, fun k hk => setRow_other w g k ds hk, setRow_heap w g cs ds t (0, 0) h⟩

section
variable {aR aP : Addr} {w : World} {b g n : Nat} {off ar : Bool} {l wr : Int} {i : Nat} {L B : List Int}
theorem row_get (L : List Int) (i : Nat) : ((row L).extract (i * 64) (i * 64 + 64)).toList = (get L i).map (Value.int .u8) := by
  simp [row, get, List.map_drop, List.map_take]
theorem row_put (L B : List Int) (i n : Nat) (hB : B.length = 64) (hl : L.length = n * 64) (hi : i < n) :
    ((row L).toList.take (i * 64 + 0) ++ (row B).toList ++ (row L).toList.drop (i * 64 + 0 + (row B).toList.length)).toArray = row (put L i B) := by
  simp [row, put, List.map_take, List.map_drop, hB]
theorem load_blk (h : Blk w g (row L) 31) (hlen : L.length = n * 64) (hi : i < n) :
    (Instr.loadAt 31 (.pointer (some ⟨g, i * 64, none⟩))).run Tryd.prog w = .ok (.agg (row (get L i))) w := by
  have hr := World.rangeAt_of_block h (i * 64) 64
  rw [row_get] at hr
  exact run_loadAt_mid w g (i * 64) 31 _ _ hr Tryd.underlying31 rfl (by rw [size31]; simp [get_length L i n hlen hi])
theorem load_one (h : Blk w g (row B) 31) (hB : B.length = 64) : (Instr.loadAt 31 (.pointer (some ⟨g, 0, none⟩))).run Tryd.prog w = .ok (.agg (row B)) w := by
  have hr := World.rangeAt_of_block h 0 64
  have e : ((row B).extract 0 (0 + 64)).toList = B.map (Value.int .u8) := by simp [row, hB, List.take_of_length_le]
  rw [e] at hr
  exact run_loadAt_mid w g 0 31 _ _ hr Tryd.underlying31 rfl (by rw [size31]; simp [hB])
theorem store_blk (h : Blk w g (row L) 31) (hlen : L.length = n * 64) (hi : i < n) (hB : B.length = 64) :
    ∃ w', (Instr.storeAt 31 (.pointer (some ⟨g, i * 64, none⟩)) (.agg (row B))).run Tryd.prog w = .ok () w' ∧ Put g (row (put L i B)) 31 w w' := by
  have hst := run_storeCells_at Tryd.prog g (i * 64) 31 (row B).toList 0 (row L) w h (by simp [row_size, hB, hlen]; omega) (fun v hv => by simp [row] at hv; obtain ⟨x, _, rfl⟩ := hv; rfl)
  rw [row_put L B i n hB hlen hi] at hst
  refine ⟨_, ?_, put_setRow h⟩
  have hsz := size31
  cases hq : Tryd.prog.info? 31 with
  | none => rw [hq] at hsz; cases hsz
  | some j =>
    rw [hq] at hsz
    have hs : j.size = 64 := by simpa using hsz
    simp only [Instr.storeAt, Instr.sureAddr, Sem.run_bind, Sem.run_pure, Result.andThen_ok]
    simp [storeVar, sizeOf, typeInfo, hq, Value.cells, hs, row_size, hB, hst]
theorem store_one {C : List Int} (h : Blk w g (row C) 31) (hC : C.length = 64) (hB : B.length = 64) :
    ∃ w', (Instr.storeAt 31 (.pointer (some ⟨g, 0, none⟩)) (.agg (row B))).run Tryd.prog w = .ok () w' ∧ Put g (row B) 31 w w' := by
  obtain ⟨w', h1, h2⟩ := store_blk (i := 0) (n := 1) (B := B) h (by rw [hC]) (by decide) hB
  refine ⟨w', by simpa using h1, ?_⟩
  have e : put C 0 B = B := by simp [put, hC]
  rw [e] at h2
  exact h2

set_option maxRecDepth 100000 in
theorem read_ok (h : Dr w b g false ar l n wr L) (hi : i < n) :
    Calls Tryd.prog 11 #[pt b, n64 i] w fun e w' => e = .returned (.tuple #[bk (get L i), .nilIface]) ∧ Below w.heap.size w w' := by
  have hz := zero31
  have hd := h.d.alloc (.cells (row (zer 64)) 31)
  have hk := h.k.alloc (.cells (row (zer 64)) 31)
  have HL := Lib.hid (load_blk hk h.len hi)
  have h3 := hd.cell 3 _ rfl
  have hs := run_storeAt_new (P := Tryd.prog) w 31 (row (zer 64)) (row (get L i)) (by rw [size31, row_size, get_length L i n h.len hi]) (by rw [row_size, row_size, get_length L i n h.len hi, zer_length]) (row_one _)
  have HS := Lib.hid hs
  have HB := Lib.hid (blk_new w (row (get L i)) 31)
  have HG := Lib.hid (get_length L i n h.len hi)
  have HD := Lib.hid hd
  clear hd hk h hs
  go_enter Tryd.func11, Tryd.ntmps11
  go_wp2_with (first
    | (go_at_call 27; refine (ask_ok HD.out (by omega) (by omega)).mono ?_; rintro e w' ⟨rfl, rfl⟩)
    | ((with_reducible refine wpList_load_run ?_ 31 (.tmp 19) ?_ ⟨g, i * 64, none⟩ (.agg (row (get L i))) ?_ ?_ ?_); rfl; rfl; rfl; exact HL.out)
    | ((with_reducible refine wpList_store_run (w' := w.alloc (.cells (row (get L i)) 31)) ?_ 31 (.tmp 4) (.tmp 20) ?_ ⟨w.heap.size, 0, none⟩ (.agg (row (get L i))) ?_ ?_ ?_ ?_); rfl; rfl; rfl; rfl; exact HS.out))
  refine bodyPost_ret (v := .tuple #[bk (get L i), .nilIface]) ?_ rfl ⟨rfl, (Below.refl _ _).alloc (Nat.le_refl _) _⟩
  rw [results_cell_tmp rfl]
  have hld := load_one HB.out HG.out
  have hld' : (loadVar 31 ⟨w.heap.size, 0, none⟩).run Tryd.prog (w.alloc (.cells (row (get L i)) 31)) = .ok (.agg (row (get L i))) (w.alloc (.cells (row (get L i)) 31)) := by
    simpa only [Instr.loadAt, Instr.sureAddr, Sem.run_bind, Sem.run_pure, Result.andThen_ok] using hld
  simp [asAddr, Result.andThen, hld', bk]
end
end Go.Proofs.YtjjaghiihkdclaaDoor
