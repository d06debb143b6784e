/- Blocks of the heap by name: what a block holds, and what stays where one block is written. -/
import Derived.WalkKit
import Derived.Deep.Draws
namespace Jw
open Go Go.RowKit

/-- Block b holds just these cells; none of them is frozen. -/
def Blk (w : World) (b : Nat) (cs : Array Value) (t : TypeId) : Prop := w.heap[b]? = some (.cells cs t (0, 0))

section
variable {w w' w2 : World} {b k : Nat} {cs ds : Array Value} {t u : TypeId}

theorem Blk.cell (h : Blk w b cs t) (i : Nat) (v : Value) (hv : cs[i]? = some v) : w.cell? ⟨b, i, none⟩ = some v := by
  unfold Blk at h
  simp [World.cell?, h, hv]
theorem Blk.free (h : Blk w b cs t) (i : Nat) : w.frozen? ⟨b, i, none⟩ = false := by
  unfold Blk at h
  simp [World.frozen?, h]
theorem Blk.lt (h : Blk w b cs t) : b < w.heap.size := by
  unfold Blk at h
  rcases Nat.lt_or_ge b w.heap.size with h' | h'
  · exact h'
  · simp [Array.getElem?_eq_none h'] at h
theorem Blk.drew (h : Blk w b cs t) : Blk w.drew b cs t := h
theorem Blk.drewN (h : Blk w b cs t) (n : Nat) : Blk (w.drewN n) b cs t := h
theorem Blk.alloc (h : Blk w b cs t) (o : Go.Obj) : Blk (w.alloc o) b cs t := by
  have hl := h.lt
  unfold Blk at *
  rw [Below.heap_alloc _ _ _ hl, h]
theorem Blk.set_other (h : Blk w b cs t) (a : Addr) (v : Value) (hne : b ≠ a.block) : Blk (w.setCell a v) b cs t := by
  unfold Blk at *
  rw [Below.heap_setCell _ _ _ _ hne, h]
theorem Blk.set (h : Blk w b cs t) (i : Nat) (v : Value) : Blk (w.setCell ⟨b, i, none⟩ v) b (cs.setIfInBounds i v) t := by
  have hl := h.lt
  unfold Blk at *
  have h' : w.heap[b] = .cells cs t (0, 0) := by simpa [Array.getElem?_eq_getElem hl] using h
  show (w.heap.modify b _)[b]? = _
  rw [Array.getElem?_eq_getElem (by simpa using hl), Array.getElem_modify_self, h']
  rfl
theorem Blk.same (h : Blk w b cs t) (hb : w'.heap[b]? = w.heap[b]?) : Blk w' b cs t := by
  unfold Blk at *
  rw [hb, h]
theorem Blk.below {B : Nat} (h : Blk w b cs t) (hb : Below B w w') (hlt : b < B) : Blk w' b cs t := h.same (hb.block b hlt)
theorem blk_new (w : World) (cs : Array Value) (t : TypeId) : Blk (w.alloc (.cells cs t)) w.heap.size cs t := by
  unfold Blk
  show (w.heap.push _)[w.heap.size]? = _
  simp

/-- As w was, but for block b, which now holds these cells. -/
structure Put (b : Nat) (cs : Array Value) (t : TypeId) (w w' : World) : Prop where
  os : w'.os = w.os
  tape : w'.tape = w.tape
  output : w'.output = w.output
  size : w'.heap.size = w.heap.size
  other : ∀ k, k ≠ b → w'.heap[k]? = w.heap[k]?
  blk : Blk w' b cs t

theorem Put.of_set (h : Blk w b cs t) (i : Nat) (v : Value) : Put b (cs.setIfInBounds i v) t w (w.setCell ⟨b, i, none⟩ v) :=
  ⟨rfl, rfl, rfl, by simp [World.setCell], fun k hk => Below.heap_setCell _ _ _ _ hk, h.set i v⟩
theorem Put.self (h : Blk w b cs t) : Put b cs t w w := ⟨rfl, rfl, rfl, rfl, fun _ _ => rfl, h⟩
theorem Put.drewN (h : Put b cs t w w') (n : Nat) : Put b cs t w (w'.drewN n) := ⟨h.os, h.tape, h.output, h.size, h.other, h.blk⟩
theorem Put.drew (h : Put b cs t w w') : Put b cs t w w'.drew := ⟨h.os, h.tape, h.output, h.size, h.other, h.blk⟩
theorem Put.of_drewN {n : Nat} (h : Put b cs t (w.drewN n) w') : Put b cs t w w' := ⟨h.os, h.tape, h.output, h.size, h.other, h.blk⟩
theorem Put.trans (h : Put b cs t w w') (h' : Put b ds u w' w2) : Put b ds u w w2 :=
  ⟨h'.os.trans h.os, h'.tape.trans h.tape, h'.output.trans h.output, h'.size.trans h.size, fun k hk => (h'.other k hk).trans (h.other k hk), h'.blk⟩
theorem Put.set (h : Put b cs t w w') (i : Nat) (v : Value) : Put b (cs.setIfInBounds i v) t w (w'.setCell ⟨b, i, none⟩ v) := h.trans (Put.of_set h.blk i v)
theorem Put.keeps (h : Put b cs t w w') (hk : Blk w k ds u) (hne : k ≠ b) : Blk w' k ds u := hk.same (h.other k hne)
theorem Put.below {B : Nat} {a : World} (h : Put b cs t w w') (ha : Below B a w) (hB : B ≤ b) : Below B a w' :=
  ha.trans ⟨h.os, h.tape, h.output, by rw [h.size]; exact Nat.le_refl _, fun k hk => h.other k (by omega)⟩
theorem Put.cell (h : Put b cs t w w') {p : Addr} (hp : p.block ≠ b) : w'.cell? p = w.cell? p := World.cell?_of_block (w := w) (h.other p.block hp)
theorem Put.frozen (h : Put b cs t w w') {p : Addr} (hp : p.block ≠ b) : w'.frozen? p = w.frozen? p := World.frozen?_of_block (w := w) (h.other p.block hp)

/-- A callee that draws nothing, in a region that only reads. -/
theorem quiet_eq {P : Program} {f : FuncId} {args : Array Value} {w : World} {n : Nat} {v : Value}
    (h : Calls P f args (w.drewN n) fun e w' => e = .returned v ∧ w.drewN n = w') : Calls P f args (w.drewN n) fun e w'' => e = .returned v ∧ ∃ m, w'' = w.drewN m :=
  h.mono fun _ _ ⟨he, hm⟩ => ⟨he, n, hm.symm⟩
end

/-- Go's max and min of two ints, as terms that the walk leaves whole. -/
def mx (a b : Int) : Int := max a b
def mn (a b : Int) : Int := min a b
theorem max2_mx (k k' : IntKind) (x y : Int) : Builtin.max2 (.int k x) (.int k' y) = pure (.int k (mx x y)) := by
  simp only [Builtin.max2, gt_iff_lt, mx]
  congr 2
  by_cases h : x < y
  · rw [if_pos h]; omega
  · rw [if_neg h]; omega
theorem min2_mn (k k' : IntKind) (x y : Int) : Builtin.min2 (.int k x) (.int k' y) = pure (.int k (mn x y)) := by
  simp only [Builtin.min2, mn]
  congr 2
  by_cases h : y < x
  · rw [if_pos h]; omega
  · rw [if_neg h]; omega
theorem max_mx (ats : Array TypeId) (ty : TypeId) (a b : Value) : Builtin.max_ ats ty #[a, b] = (Builtin.max2 a b >>= fun s => pure s) := by simp only [Builtin.max_, List.foldlM_cons, List.foldlM_nil]
theorem min_mn (ats : Array TypeId) (ty : TypeId) (a b : Value) : Builtin.min_ ats ty #[a, b] = (Builtin.min2 a b >>= fun s => pure s) := by simp only [Builtin.min_, List.foldlM_cons, List.foldlM_nil]
end Jw
