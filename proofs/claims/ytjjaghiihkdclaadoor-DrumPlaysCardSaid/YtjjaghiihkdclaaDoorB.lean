/- New, Read and Write of a drum: what each call comes to; a frame for calls that write two blocks and make others. -/
import Derived.Test.YtjjaghiihkdclaaDoorA
import Derived.Laws.MakeOwn
import Derived.Laws.Entries
set_option linter.unusedVariables false
set_option linter.unusedSimpArgs false
namespace Go.Proofs.YtjjaghiihkdclaaDoor
open Go.RowKit Jw

theorem row_size (L : List Int) : (row L).size = L.length := by simp [row]
theorem row_at (L : List Int) (i : Nat) (h : i < L.length) : (row L)[i]? = some (.int .u8 (L.getD i 0)) := by
  simp [row, List.getD_eq_getElem?_getD, List.getElem?_eq_getElem h]
theorem row_one (L : List Int) : (row L).all (·.oneCell') = true := by
  rw [row]; exact all_oneCell_toArray (fun v hv => by simp at hv; obtain ⟨x, _, rfl⟩ := hv; rfl)

/-- So many bytes that are 0. -/
def zer (n : Nat) : List Int := List.replicate n 0
theorem zer_length (n : Nat) : (zer n).length = n := by simp [zer]
theorem zer_get (n i : Nat) : (zer n).getD i 0 = 0 := by
  rw [zer, List.getD_eq_getElem?_getD, List.getElem?_replicate]
  by_cases h : i < n
  · rw [if_pos h]; rfl
  · rw [if_neg h]; rfl
theorem made_row (n : Nat) : madeCells (row (zer 64)) n = row (zer n) := by
  apply Array.ext_getElem?
  intro i
  simp only [madeCells, Array.getElem?_map]
  by_cases h : i < n
  · rw [row_at (zer n) i (by rw [zer_length]; exact h)]
    have e1 : (Array.range n)[i]? = some i := by simp [h]
    rw [e1]
    simp only [Option.map_some]
    have e2 : i % (row (zer 64)).size < (zer 64).length := by rw [row_size, zer_length]; omega
    rw [getElem!_def, row_at _ _ e2, zer_get, zer_get]
  · have e1 : (Array.range n)[i]? = none := by simp; omega
    have e2 : (row (zer n))[i]? = none := Array.getElem?_eq_none (by rw [row_size, zer_length]; omega)
    rw [e1, e2]
    rfl

/-- A write of a row into the row of all. -/
def put (L : List Int) (i : Nat) (B : List Int) : List Int := L.take (i * 64) ++ (B ++ L.drop (i * 64 + 64))
def get (L : List Int) (i : Nat) : List Int := (L.drop (i * 64)).take 64
theorem put_length (L : List Int) (i n : Nat) (B : List Int) (hL : L.length = n * 64) (hB : B.length = 64) (hi : i < n) : (put L i B).length = n * 64 := by
  simp [put]; omega
theorem get_length (L : List Int) (i n : Nat) (hL : L.length = n * 64) (hi : i < n) : (get L i).length = 64 := by
  simp [get]; omega

/-- As w was, but for the blocks b and g, and new ones. -/
structure Fr (b g : Nat) (w w' : World) : Prop where
  os : w'.os = w.os
  tape : w'.tape = w.tape
  output : w'.output = w.output
  size : w.heap.size ≤ w'.heap.size
  other : ∀ k, k < w.heap.size → k ≠ b → k ≠ g → w'.heap[k]? = w.heap[k]?
section
variable {w w' w2 : World} {b g k B : Nat} {cs ds : Array Value} {t u : TypeId}
theorem Fr.refl : Fr b g w w := ⟨rfl, rfl, rfl, Nat.le_refl _, fun _ _ _ _ => rfl⟩
theorem Fr.trans (h : Fr b g w w') (h' : Fr b g w' w2) : Fr b g w w2 :=
  ⟨h'.os.trans h.os, h'.tape.trans h.tape, h'.output.trans h.output, Nat.le_trans h.size h'.size, fun k hk h1 h2 => (h'.other k (Nat.lt_of_lt_of_le hk h.size) h1 h2).trans (h.other k hk h1 h2)⟩
theorem Fr.of_put (h : Put b cs t w w') : Fr b g w w' := ⟨h.os, h.tape, h.output, by rw [h.size]; exact Nat.le_refl _, fun k _ h1 _ => h.other k h1⟩
theorem Fr.of_below (h : Below w.heap.size w w') : Fr b g w w' := ⟨h.os, h.tape, h.output, h.size, fun k hk _ _ => h.block k hk⟩
theorem Fr.drewN (h : Fr b g w w') (n : Nat) : Fr b g w (w'.drewN n) := ⟨h.os, h.tape, h.output, h.size, h.other⟩
theorem Fr.alloc (h : Fr b g w w') (o : Go.Obj) : Fr b g w (w'.alloc o) :=
  ⟨h.os, h.tape, h.output, Nat.le_trans h.size (by simp), fun k hk h1 h2 => (Below.heap_alloc _ _ _ (Nat.lt_of_lt_of_le hk h.size)).trans (h.other k hk h1 h2)⟩
theorem Fr.below {a : World} (h : Fr b g w w') (ha : Below B a w) (hb : B ≤ b) (hg : B ≤ g) (hB : B ≤ w.heap.size) : Below B a w' :=
  ⟨h.os.trans ha.os, h.tape.trans ha.tape, h.output.trans ha.output, Nat.le_trans ha.size h.size, fun k hk => (h.other k (by have := ha.size; omega) (by omega) (by omega)).trans (ha.block k hk)⟩
theorem Fr.keeps (h : Fr b g w w') (hk : Blk w k ds u) (h1 : k ≠ b) (h2 : k ≠ g) : Blk w' k ds u := hk.same (h.other k hk.lt h1 h2)
end

/-- A drum in memory. -/
structure Dr (w : World) (b g : Nat) (off ar : Bool) (l : Int) (n : Nat) (wr : Int) (L : List Int) : Prop where
  d : Blk w b #[.bool off, .bool ar, n64 l, .slice (some ⟨g, 0, none⟩) n n, n64 wr] 62
  k : Blk w g (row L) 31
  len : L.length = n * 64
theorem Blk.ne {w : World} {b g : Nat} {cs ds : Array Value} {t u : TypeId} (h : Blk w b cs t) (h' : Blk w g ds u) (hne : t ≠ u) : b ≠ g := by
  rintro rfl
  unfold Blk at h h'
  rw [h] at h'
  injection h' with h'
  injection h' with _ h' _
  exact hne h'
section
variable {w w' w2 : World} {b g n : Nat} {off ar : Bool} {l wr i : Int} {L : List Int} {cs : Array Value}
theorem Dr.ne (h : Dr w b g off ar l n wr L) : b ≠ g := Blk.ne h.d h.k (by decide)
theorem Dr.drewN (h : Dr w b g off ar l n wr L) (q : Nat) : Dr (w.drewN q) b g off ar l n wr L := ⟨h.d, h.k, h.len⟩
theorem Dr.alloc (h : Dr w b g off ar l n wr L) (o : Go.Obj) : Dr (w.alloc o) b g off ar l n wr L := ⟨h.d.alloc o, h.k.alloc o, h.len⟩
theorem Dr.below {B : Nat} (h : Dr w b g off ar l n wr L) (hb : Below B w w') (h1 : b < B) (h2 : g < B) : Dr w' b g off ar l n wr L := ⟨h.d.below hb h1, h.k.below hb h2, h.len⟩
theorem Dr.keep {b' g' : Nat} (h : Dr w b g off ar l n wr L) (hf : Fr b' g' w w') (h1 : b ≠ b') (h2 : b ≠ g') (h3 : g ≠ b') (h4 : g ≠ g') : Dr w' b g off ar l n wr L := ⟨hf.keeps h.d h1 h2, hf.keeps h.k h3 h4, h.len⟩
theorem Dr.put {off' ar' : Bool} {l' wr' : Int} (h : Dr w b g off ar l n wr L) (hp : Put b #[.bool off', .bool ar', n64 l', .slice (some ⟨g, 0, none⟩) n n, n64 wr'] 62 w w') : Dr w' b g off' ar' l' n wr' L :=
  ⟨hp.blk, hp.keeps h.k h.ne.symm, h.len⟩
end

theorem info31 : (Tryd.prog.info? 31).map (fun i => (i.zero, i.size, i.bytes)) = some (some (.agg (row (zer 64))), 64, 64) := by kernel_rfl
theorem size31 : (Tryd.prog.info? 31).map (·.size) = some 64 := by kernel_rfl
theorem run_make_rowN {P : Program} (t e : TypeId) (i : TypeInfo) (z : Value) (ht : P.underlying t = some (.slice e)) (hi : P.info? e = some i) (hz : i.zero = some z)
    (kl kc : IntKind) (n c : Nat) (hnc : n ≤ c) (hbytes : i.bytes * c ≤ 281474976710656) (h63 : c ≤ 9223372036854775807) (w : World) :
    (Instr.makeSlice t (.int kl (n : Int)) (.int kc (c : Int))).run P w = .ok (.slice (some ⟨w.heap.size, 0, none⟩) n c) (w.alloc (.cells (madeCells z.cells (c * i.size)) e)) := by
  have hb : (i.bytes : Int) * (c : Int) ≤ 281474976710656 := by
    have h : ((i.bytes * c : Nat) : Int) ≤ 281474976710656 := by omega
    rwa [Int.natCast_mul] at h
  have hr := run_make (P := P) w t e i z ht hi hz kl kc n c (by omega) (by omega) hb (by omega)
  simp only [Int.toNat_natCast] at hr
  exact hr
theorem make_blocks (n : Nat) (hn : n ≤ 4096) (w : World) :
    (Instr.makeSlice 58 (.int .i64 (n : Int)) (.int .i64 (n : Int))).run Tryd.prog w = .ok (.slice (some ⟨w.heap.size, 0, none⟩) n n) (w.alloc (.cells (row (zer (n * 64))) 31)) := by
  obtain ⟨i, hi, e⟩ := Option.map_eq_some_iff.1 info31
  simp only [Prod.mk.injEq] at e
  obtain ⟨e1, e2, e3⟩ := e
  have h := run_make_rowN (P := Tryd.prog) 58 31 i _ Tryd.underlying58 hi e1 .i64 .i64 n n (Nat.le_refl _) (by rw [e3]; omega) (by omega) w
  rw [h, e2]
  show Result.ok _ (w.alloc (.cells (madeCells (row (zer 64)) (n * 64)) 31)) = _
  rw [made_row]

theorem new_ok (w : World) (n : Nat) (h1 : 1 ≤ n) (h2 : n ≤ 4096) :
    Calls Tryd.prog 9 #[n64 n] w fun e w' => e = .returned (.tuple #[pt (w.heap.size + 1), .nilIface]) ∧ Dr w' (w.heap.size + 1) w.heap.size false false 0 n 0 (zer (n * 64)) ∧ Below w.heap.size w w' ∧ w'.heap.size = w.heap.size + 2 := by
  have hm := make_blocks n h2
  have d1 : decide ((n : Int) < 1) = false := by simp; omega
  have d2 : decide ((4096 : Int) < (n : Int)) = false := by simp; omega
  have HM := Lib.hid (blk_new w (row (zer (n * 64))) 31)
  go_enter Tryd.func9, Tryd.ntmps9
  go_wp2
  go_ret2
  refine ⟨rfl, ⟨?_, ?_, by rw [zer_length]⟩, ((Below.refl _ _).alloc (Nat.le_refl _) _).alloc (by simp) _, by simp⟩
  · have := blk_new (w.alloc (.cells (row (zer (n * 64))) 31)) #[.bool false, .bool false, n64 0, .slice (some ⟨w.heap.size, 0, none⟩) n n, n64 0] 62
    simpa using this
  · exact HM.out.alloc _
theorem new_no (w : World) (i : Int) (aR : Addr) (hR : w.cell? ⟨0, 0, none⟩ = some (er aR)) (h : i < 1 ∨ 4096 < i) :
    Calls Tryd.prog 9 #[n64 i] w fun e w' => e = .returned (.tuple #[.pointer none, er aR]) ∧ ∃ k, w' = w.drewN k := by
  rcases h with h | h
  · go_enter Tryd.func9, Tryd.ntmps9
    go_wp2
    go_quiet (fail)
    go_wp2
    go_ret2
    exact ⟨rfl, _, rfl⟩
  · have h' : ¬ i < 1 := by omega
    go_enter Tryd.func9, Tryd.ntmps9
    go_wp2
    go_quiet (fail)
    go_wp2
    go_ret2
    exact ⟨rfl, _, rfl⟩
end Go.Proofs.YtjjaghiihkdclaaDoor
