/- Bytes that are read; the walk of Can. -/
import Derived.Test.YtfphfljndhideaaDoorS1
import Derived.Laws.BytesArg
import Derived.Laws.IdiomStrings
set_option linter.unusedVariables false
set_option linter.unusedSimpArgs false
namespace Go.Proofs.YtfphfljndhideaaDoor
open Go.RowKit Jw Lab

/-- A row of bytes that is read. -/
def Rb (w : World) (v : Value) (l : List UInt8) : Prop :=
  ∃ (ao : Option Addr) (cap : Nat), v = .slice ao l.length cap ∧ (l.length ≠ 0 → ∃ b off, ao = some ⟨b, off, none⟩ ∧ b < w.heap.size ∧ ∀ k, k < l.length → w.cell? ⟨b, off + k, none⟩ = some (.int .u8 ((l.getD k 0).toNat : Int)))
theorem Rb.below {w w' : World} {v : Value} {l : List UInt8} {B : Nat} (h : Rb w v l) (hb : Below B w w') (hB : w.heap.size ≤ B) : Rb w' v l := by
  obtain ⟨ao, cap, hv, h1⟩ := h
  refine ⟨ao, cap, hv, fun hn => ?_⟩
  obtain ⟨b, off, e, hlt, hc⟩ := h1 hn
  exact ⟨b, off, e, Nat.lt_of_lt_of_le hlt hb.size, fun k hk => (hb.cell (p := ⟨b, off + k, none⟩) (Nat.lt_of_lt_of_le hlt hB)).trans (hc k hk)⟩
theorem rb_conv {w : World} {v : Value} {l : List UInt8} (h : Rb w v l) : (convert 37 9 v).run Tryd.prog w = .ok (.string (bs l)) w := by
  obtain ⟨ao, cap, rfl, h1⟩ := h
  cases ao with
  | none =>
    have hl : l = [] := by
      cases l with
      | nil => rfl
      | cons c t => obtain ⟨b, off, e, _⟩ := h1 (by simp); cases e
    subst hl
    exact run_convert_bytes_nil (P := Tryd.prog) w 37 5 Tryd.underlying37 Tryd.underlying5 0 cap 9 Tryd.underlying9
  | some ad =>
    refine run_convert_bytes_back (P := Tryd.prog) w 37 9 5 ad cap l Tryd.underlying37 Tryd.underlying5 Tryd.underlying9 (fun j hj => ?_)
    obtain ⟨b, off, e, _, hc⟩ := h1 (by omega)
    obtain rfl : ad = ⟨b, off, none⟩ := Option.some.inj e
    rw [addr_add, hc j hj, List.getD_eq_getElem?_getD, List.getElem?_eq_getElem hj]
    rfl

theorem cut10_any (b : List UInt8) (hb : b.length < 4294967281) (a : Addr) (m : Int) (w : World) (hg : Gl w a m) :
    Calls Tryd.prog 46 #[.string (bs b), .string ⟨#[10]⟩] w fun e w' => (∃ x, e = .returned (.tuple #[.string (bs (lin b)), .string x, .bool (fin b)])) ∧ Below w.heap.size w w' := by
  have h := Tryd.strings_Cut (bs b) ⟨#[10]⟩ m w hb hg.mx
  obtain ⟨h1, h2⟩ := cut_fin b
  refine h.mono fun e w' ⟨he, n, hw⟩ => ⟨⟨⟨(Lib.cut b [10]).2.1.toArray⟩, ?_⟩, ?_⟩
  · rw [he]
    show Ending.returned (Value.tuple #[.string ⟨(Lib.cut b [10]).1.toArray⟩, .string ⟨(Lib.cut b [10]).2.1.toArray⟩, .bool (Lib.cut b [10]).2.2]) = _
    rw [h1, h2]
    rfl
  · rw [hw]; exact ⟨rfl, rfl, rfl, Nat.le_refl _, fun _ _ => rfl⟩
theorem cutw_any (l : List UInt8) (w : World) :
    Calls Tryd.prog 48 #[.string (bs l), .string ⟨#[116, 111, 32]⟩] w fun e w' => e = .returned (.tuple #[.string (bs (if word.isPrefixOf l then l.drop 3 else l)), .bool (word.isPrefixOf l)]) ∧ w' = w :=
  Tryd.strings_CutPrefix (bs l) ⟨#[116, 111, 32]⟩ w
theorem hasw_any (l : List UInt8) (w : World) :
    Calls Tryd.prog 47 #[.string ⟨#[116, 111, 32]⟩, .string (bs l)] w fun e w' => e = .returned (.bool (l.isPrefixOf word)) ∧ w' = w :=
  Tryd.strings_HasPrefix ⟨#[116, 111, 32]⟩ (bs l) w
theorem lin_le (b : List UInt8) : (lin b).length ≤ b.length := List.Sublist.length_le (List.takeWhile_sublist _)

set_option maxHeartbeats 1000000 in
theorem can_any (b : List UInt8) (hb : b.length < 4294967281) (v : Value) (a : Addr) (m : Int) (w : World) (hg : Gl w a m) (hr : Rb w v b) :
    Calls Tryd.prog 26 #[v] w fun e w' => e = .returned (.bool (canB b)) ∧ Below w.heap.size w w' := by
  have hcv := rb_conv hr
  have H1 := Lib.hid (cut10_any b hb a m w hg)
  have HG := Lib.hid hg
  have hll := lin_le b
  have hcan := (rfl : canB b = _)
  obtain ⟨l, hl⟩ : ∃ l, l = lin b := ⟨_, rfl⟩
  have hcan : canB b = if l.length < 3 then !fin b && l.isPrefixOf word else if word.isPrefixOf l then (if fin b then nmOk (l.drop 3) else beg (l.drop 3)) else false := by rw [hl]; rfl
  rw [← hl] at H1 hll
  have H2 := Lib.hid (fun w2 => cutw_any l w2)
  have H3 := Lib.hid (fun w2 => hasw_any l w2)
  have s1 : (bs l).size = l.length := rfl
  generalize canB b = cb at *
  generalize fin b = f at *
  have HK := Lib.hid hcan
  clear hcan hl hg hr
  rcases Nat.lt_or_ge l.length 3 with h3 | h3
  · have hd : decide ((l.length : Int) < 3) = true := by simp; omega
    have hc : cb = (!f && l.isPrefixOf word) := by rw [HK.out, if_pos h3]
    have HC := Lib.hid hc
    clear h3 hc HK
    generalize l.isPrefixOf word = p at *
    cases f
    all_goals
      go_enter Tryd.func26, Tryd.ntmps26
      go_wp2_with (first
        | (go_at_call 46; refine H1.out.mono ?_; rintro e w1 ⟨⟨x, rfl⟩, hB⟩)
        | (go_at_call 47; refine (H3.out _).mono ?_; rintro e w2 ⟨rfl, rfl⟩))
      go_ret
      exact ⟨by rw [HC.out]; simp, hB⟩
  have hd : decide ((l.length : Int) < 3) = false := by simp; omega
  cases hp : word.isPrefixOf l with
  | false =>
    have hc : cb = false := by rw [HK.out, if_neg (by omega), hp]; rfl
    rw [hp] at H2
    have HC := Lib.hid hc
    clear h3 hp hc HK
    go_enter Tryd.func26, Tryd.ntmps26
    go_wp2_with (first
      | (go_at_call 46; refine H1.out.mono ?_; rintro e w1 ⟨⟨x, rfl⟩, hB⟩)
      | (go_at_call 48; refine (H2.out _).mono ?_; rintro e w2 ⟨rfl, rfl⟩))
    go_ret
    exact ⟨by rw [HC.out]; rfl, hB⟩
  | true =>
    have hc : cb = (if f then nmOk (l.drop 3) else beg (l.drop 3)) := by rw [HK.out, if_neg (by omega), hp]; rfl
    rw [hp, if_pos rfl] at H2
    have hdl : (l.drop 3).length < 4294967281 := by simp; omega
    have HN := Lib.hid (fun w2 (h2 : Gl w2 a m) => named_any (l.drop 3) hdl a m w2 h2)
    have HB := Lib.hid (fun w2 (h2 : Gl w2 a m) => begins_any (l.drop 3) hdl a m w2 h2)
    generalize l.drop 3 = t at *
    have hk1 := show chk false a = er a from rfl
    have hk2 := show chk true a = .nilIface from rfl
    have HC := Lib.hid hc
    clear h3 hp hc HK hdl
    cases f with
    | true =>
      cases hn : nmOk t
      all_goals
        rw [hn] at HN HC
        clear hn
        go_enter Tryd.func26, Tryd.ntmps26
        go_wp2_with (first
          | (go_at_call 46; refine H1.out.mono ?_; rintro e w1 ⟨⟨x, rfl⟩, hB⟩; have hg1 := HG.out.below hB (Nat.le_refl _))
          | (go_at_call 48; refine (H2.out _).mono ?_; rintro e w2 ⟨rfl, rfl⟩)
          | (go_at_call 18; refine (HN.out _ hg1).mono ?_; rintro e w3 ⟨rfl, hB3⟩))
        go_ret
        exact ⟨by rw [HC.out]; rfl, hB.trans (hB3.mono hB.size)⟩
    | false =>
      go_enter Tryd.func26, Tryd.ntmps26
      go_wp2_with (first
        | (go_at_call 46; refine H1.out.mono ?_; rintro e w1 ⟨⟨x, rfl⟩, hB⟩; have hg1 := HG.out.below hB (Nat.le_refl _))
        | (go_at_call 48; refine (H2.out _).mono ?_; rintro e w2 ⟨rfl, rfl⟩)
        | (go_at_call 49; refine (HB.out _ hg1).mono ?_; rintro e w3 ⟨rfl, hB3⟩))
      go_ret
      exact ⟨by rw [HC.out]; rfl, hB.trans (hB3.mono hB.size)⟩
end Go.Proofs.YtfphfljndhideaaDoor
