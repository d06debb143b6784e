/- Words for the drum's laws: ints that are read, a mask, blocks compared. -/
import Derived.Test.YtjjaghiihkdclaaDoorI
import Derived.Test.YtjjaghiihkdclaaDoorNum
import Derived.Laws.BitsAllLaws
import Derived.Laws.BitsLemmas
import Derived.Stop.BytesEq
import Derived.Deep.RegionWith
import Derived.Deep.DeepCutAuto
import Derived.Deep.RegionHeld3
set_option linter.unusedVariables false
set_option linter.unusedSimpArgs false
namespace Go.Proofs.YtjjaghiihkdclaaDoor
open Go.RowKit Jw

/-- A slice value that reads as these ints. -/
def Rd (w : World) (v : Value) (l : List Int) : Prop :=
  ∃ (ao : Option Addr) (cap : Nat), v = .slice ao l.length cap ∧ (l.length ≠ 0 → ∃ b off, ao = some ⟨b, off, none⟩ ∧ b < w.heap.size ∧ ∀ k, k < l.length → w.cell? ⟨b, off + k, none⟩ = some (n64 (l.getD k 0)))

theorem and7 (p : Int) : 0 ≤ bits .and .i64 p 7 ∧ bits .and .i64 p 7 ≤ 7 := by
  have e : bits .and .i64 p 7 = IntKind.i64.wrap ((BitVec.ofInt 64 p &&& BitVec.ofInt 64 7).toNat : Int) := rfl
  have h : (BitVec.ofInt 64 p &&& BitVec.ofInt 64 7).toNat ≤ 7 := by
    rw [BitVec.toNat_and]
    exact Nat.le_trans Nat.and_le_right (by decide)
  rw [e, IntWalk.i64_in _ (by omega)]
  omega
theorem tmod_twice (n m : Int) (hm : 1 ≤ m) (hm2 : m ≤ 1000000) : 0 ≤ (n.tmod m + m).tmod m ∧ (n.tmod m + m).tmod m < m := by
  have h1 : -m < n.tmod m := by have := Int.lt_tmod_of_pos n (show 0 < m by omega); omega
  have h2 := Int.tmod_lt_of_pos n (show 0 < m by omega)
  rw [Int.tmod_eq_emod_of_nonneg (by omega)]
  exact ⟨Int.emod_nonneg _ (by omega), Int.emod_lt_of_pos _ (by omega)⟩
theorem row_set (L : List Int) (i : Nat) (x : Int) : (row L).setIfInBounds i (.int .u8 x) = row (L.set i x) := by simp [row, List.map_set]
/-- A block that is filled. -/
def fil (x : Int) (k : Nat) : List Int := List.replicate k x ++ zer (64 - k)
theorem fil_length (x : Int) (k : Nat) (h : k ≤ 64) : (fil x k).length = 64 := by simp [fil, zer]; omega
theorem fil_zero (x : Int) : fil x 0 = zer 64 := rfl
theorem fil_set (x : Int) (k : Nat) (h : k < 64) : (row (fil x k)).setIfInBounds k (.int .u8 x) = row (fil x (k + 1)) := by
  have e : (fil x k).set k x = fil x (k + 1) := by
    rw [fil, fil, zer, zer, List.set_append_right _ _ (by simp), List.length_replicate, Nat.sub_self, show 64 - k = (64 - (k + 1)) + 1 by omega, List.replicate_succ, List.set_cons_zero, List.replicate_succ', List.append_assoc]
    rfl
  rw [row_set, e]
theorem conv_str {w : World} {v : Value} {L : List Int} (h : Rb w v L) : (convert 40 9 v).run Tryd.prog w = .ok (.string (strOfNums L)) w := by
  obtain ⟨ao, cap, rfl, hc⟩ := h
  by_cases h0 : L.length = 0
  · cases ao with
    | none => rw [run_convert_bytes_nil w 40 5 Tryd.underlying40 Tryd.underlying5 _ _ 9 Tryd.underlying9, List.eq_nil_of_length_eq_zero h0]; rfl
    | some a =>
      have e : L = [] := List.eq_nil_of_length_eq_zero h0
      subst e
      obtain ⟨b, off, spot⟩ := a
      rw [run_convert_bytes_string w 40 9 5 _ _ _ Tryd.underlying40 Tryd.underlying5 Tryd.underlying9]
      have hl : (loadCells ⟨b, off, spot⟩ 0).run Tryd.prog w = .ok #[] w := rfl
      rw [run_bytesToString w _ _ _ [] (by simpa using hl)]
      rfl
  · obtain ⟨b, off, rfl, _, hc⟩ := hc h0
    exact run_convert_bytes_arg w 40 5 Tryd.underlying40 Tryd.underlying5 b off _ cap L rfl hc 9 Tryd.underlying9
theorem st_image {w0 w : World} {b g n : Nat} {off ar : Bool} {l wr : Int} {L : List Int} {aR aP : Addr} (h : St w0 w b g off ar l n wr L aR aP) (hn : 1 ≤ n) (hn2 : n ≤ 5000) :
    Calls Tryd.prog 16 #[pt b] w fun e w' => ∃ v, e = .returned v ∧ Rb w' v L ∧ St w0 w' b g off ar l n wr L aR aP :=
  (image_any h.dr hn hn2).mono fun e w' ⟨v, he, hr, hb⟩ => ⟨v, he, hr, h.bel hb⟩
theorem all_range : ∀ (xs ys : List Int), xs.length = ys.length → ((List.range xs.length).all fun i => xs.getD i 0 == ys.getD i 0) = (xs == ys)
  | [], [], _ => rfl
  | x :: xs, y :: ys, h => by
    have ih := all_range xs ys (by simpa using h)
    rw [List.length_cons, List.range_succ_eq_map, List.all_cons, List.all_map]
    simp only [List.getD_cons_zero, Function.comp_def, List.getD_cons_succ, ih]
    simp [List.cons_beq_cons]
  | [], _ :: _, h => by simp at h
  | _ :: _, [], h => by simp at h
theorem run_equalIn_row (w : World) (d : Nat) (xs ys : List Int) (hx : xs.length = 64) (hy : ys.length = 64) :
    (Op.equalIn (d + 2) 31 (.agg (row xs)) (.agg (row ys))).run Tryd.prog w = .ok (xs == ys) w := by
  rw [← all_range xs ys (hx.trans hy.symm), hx, List.range_eq_range', Op.equalIn]
  simp only [Sem.run_bind, run_underlying Tryd.underlying31, Result.andThen_ok, size5, Std.Legacy.Range.forIn_eq_forIn_range', Std.Legacy.Range.size, Nat.sub_zero, Nat.add_sub_cancel, Nat.div_one]
  have hl : ∀ i ∈ List.range' 0 64 1, i < 64 := fun i hi => by simpa using (List.mem_range'_1.1 hi).2
  generalize List.range' 0 64 1 = l at hl ⊢
  induction l with
  | nil => simp
  | cons i l ih =>
    have hi : i < 64 := hl i (by simp)
    have px : (part 5 (row xs) (i * 1)).run Tryd.prog w = .ok (.int .u8 (xs.getD i 0)) w := by
      simp [part, isAgg, run_underlying Tryd.underlying5, row, List.getD, List.getElem?_eq_getElem (show i < xs.length by omega)]
    have py : (part 5 (row ys) (i * 1)).run Tryd.prog w = .ok (.int .u8 (ys.getD i 0)) w := by
      simp [part, isAgg, run_underlying Tryd.underlying5, row, List.getD, List.getElem?_eq_getElem (show i < ys.length by omega)]
    have pe : (Op.equalIn (d + 1) 5 (.int .u8 (xs.getD i 0)) (.int .u8 (ys.getD i 0))).run Tryd.prog w = .ok (xs.getD i 0 == ys.getD i 0) w := by
      rw [run_equalIn_int w d 5 .u8 .u8 _ _ Tryd.underlying5]
    simp only [List.forIn_cons, Sem.run_bind, px, py, pe, Result.andThen_ok, List.all_cons]
    cases hb : (xs.getD i 0 == ys.getD i 0)
    · simp
    · simp only [Bool.not_true, Bool.false_eq_true, if_false, Sem.run_pure, Result.andThen_ok, Bool.true_and]
      exact ih fun j hj => hl j (by simp [hj])
theorem ne_row (xs ys : List Int) (hx : xs.length = 64) (hy : ys.length = 64) (w : World) : (binOp .neq 31 (.agg (row xs)) (.agg (row ys))).run Tryd.prog w = .ok (.bool (!(xs == ys))) w := by
  simp only [binOp]
  simp [Op.equal, Op.maxDepth, run_equalIn_row w 9998 xs ys hx hy]
theorem eq_row (xs ys : List Int) (hx : xs.length = 64) (hy : ys.length = 64) (w : World) : (binOp .eql 31 (.agg (row xs)) (.agg (row ys))).run Tryd.prog w = .ok (.bool (xs == ys)) w := by
  simp only [binOp]
  simp [Op.equal, Op.maxDepth, run_equalIn_row w 9998 xs ys hx hy]
end Go.Proofs.YtjjaghiihkdclaaDoor
