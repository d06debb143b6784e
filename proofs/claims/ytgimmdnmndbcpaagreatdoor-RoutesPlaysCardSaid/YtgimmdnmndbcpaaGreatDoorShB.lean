/- share.weights and slices.Clone: what each call comes to. -/
import Derived.Test.YtgimmdnmndbcpaaGreatDoorShA
import Derived.Test.YtgimmdnmndbcpaaGreatDoorShMix
import Derived.Deep.OwnRows
import Derived.Laws.FloatArith
set_option linter.unusedVariables false
set_option linter.unusedSimpArgs false
namespace Go.Proofs.YtgimmdnmndbcpaaGreatDoor
open Go.RowKit Jw Go.Deep
attribute [local go_sem] run_store_float

/-- A slice value reads as these shares (bits of the weight, bits of the turn). -/
def RdS (w : World) (v : Value) (l : List (Nat × Nat)) : Prop :=
  ∃ (ao : Option Addr) (cap : Nat), v = .slice ao l.length cap ∧ (ao = none → l.length = 0 ∧ cap = 0) ∧ (l.length ≠ 0 → ∃ b off, ao = some ⟨b, off, none⟩ ∧ b < w.heap.size ∧
    ∀ k, k < l.length → w.cell? ⟨b, off + k * 2, none⟩ = some (fl (l.getD k (0, 0)).1) ∧ w.cell? ⟨b, off + k * 2 + 1, none⟩ = some (fl (l.getD k (0, 0)).2))

theorem RdS.below {w w' : World} {v : Value} {l : List (Nat × Nat)} {B : Nat} (h : RdS w v l) (hb : Below B w w') (hB : w.heap.size ≤ B) : RdS w' v l := by
  obtain ⟨ao, cap, rfl, h0, h⟩ := h
  refine ⟨ao, cap, rfl, h0, fun hn => ?_⟩
  obtain ⟨b, off, rfl, hlt, hc⟩ := h hn
  exact ⟨b, off, rfl, Nat.lt_of_lt_of_le hlt hb.size, fun k hk => ⟨(hb.cell (by show b < B; omega)).trans (hc k hk).1, (hb.cell (by show b < B; omega)).trans (hc k hk).2⟩⟩

abbrev fls (l : List Nat) : Array Value := (l.map fl).toArray
theorem fls_at (l : List Nat) (k : Nat) (x : Nat) (h : l[k]? = some x) : (fls l)[k]? = some (fl x) := by simp [fls, h]
theorem fls_set (l : List Nat) (k : Nat) (v : Nat) : (fls l).setIfInBounds k (fl v) = fls (l.set k v) := by simp [fls, List.map_set]
theorem made_fl (n : Nat) : madeCells #[Value.float .f64 0] n = fls (List.replicate n 0) := by
  apply Array.ext
  · simp [size_madeCells, fls]
  · intro i h1 h2
    simp [madeCells, fls, Nat.mod_one]

/-- The sum of doubles; a NaN has no bits of its own. -/
def addW (x y : Nat) : Nat := (Ieee.double.add x y).getD 0
def subW (x y : Nat) : Nat := (Ieee.double.sub x y).getD 0
/-- A number, or an infinity. -/
def Ext (x : Nat) : Prop := ∀ s f, Ieee.double.read x ≠ .nan s f
/-- A number. -/
def Num (x : Nat) : Prop := ∃ s m p, Ieee.double.read x = .number s m p

theorem Num.ext {x : Nat} (h : Num x) : Ext x := by
  obtain ⟨s, m, p, h⟩ := h
  intro s' f e
  rw [h] at e; cases e

theorem read_write (d : Ieee.Datum) (h : ∀ s f, d ≠ .nan s f) : Ext (Ieee.double.write d) := by
  have key : ∀ (sg : Bool) (rung : Nat), rung ≤ 2047 * 2 ^ 52 → Ext (Ieee.double.word sg rung) := by
    intro sg rung hr s f e
    rcases Nat.lt_or_ge rung (2047 * 2 ^ 52) with h1 | h1
    · rw [Jf.read_word sg rung h1] at e
      split at e <;> cases e
    · obtain rfl : rung = 2047 * 2 ^ 52 := Nat.le_antisymm hr h1
      have : Ieee.double.read (Ieee.double.word sg (2047 * 2 ^ 52)) = .infinity sg := by cases sg <;> decide
      rw [this] at e; cases e
  cases d with
  | nan s f => exact absurd rfl (h s f)
  | infinity s =>
    unfold Ieee.Format.write
    rw [Jf.inf_double]
    exact key s _ (Nat.le_refl _)
  | number s m p =>
    unfold Ieee.Format.write Ieee.Format.nearest
    rw [Jf.inf_double]
    dsimp only
    split
    · exact key s 0 (by decide)
    · exact key s _ (Nat.min_le_right _ _)

theorem add_ok {x y : Nat} (hx : Ext x) (hy : Num y) : Ieee.double.add x y = some (addW x y) ∧ Ext (addW x y) := by
  obtain ⟨t, n, j, hy⟩ := hy
  unfold addW
  cases hr : Ieee.double.read x with
  | nan s f => exact absurd hr (hx s f)
  | infinity s =>
    have : Ieee.double.add x y = some (Ieee.double.write (.infinity s)) := by unfold Ieee.Format.add; rw [hr, hy]; rfl
    rw [this]
    exact ⟨rfl, by rw [Option.getD_some]; exact read_write _ (fun _ _ e => by cases e)⟩
  | number s m i =>
    obtain ⟨d, hd, hnn⟩ : ∃ d, (Ieee.Datum.number s m i).sum (.number t n j) = some d ∧ ∀ s f, d ≠ .nan s f := ⟨_, rfl, fun _ _ e => by cases e⟩
    have : Ieee.double.add x y = some (Ieee.double.write d) := by unfold Ieee.Format.add; rw [hr, hy, hd]; rfl
    rw [this]
    exact ⟨rfl, by rw [Option.getD_some]; exact read_write _ hnn⟩

theorem sub_ok {x y : Nat} (hx : Num x) (hy : Ext y) : Ieee.double.sub x y = some (subW x y) ∧ Ext (subW x y) := by
  obtain ⟨s, m, i, hx⟩ := hx
  unfold subW
  cases hr : Ieee.double.read y with
  | nan t f => exact absurd hr (hy t f)
  | infinity t =>
    have : Ieee.double.sub x y = some (Ieee.double.write (.infinity (!t))) := by unfold Ieee.Format.sub; rw [hx, hr]; rfl
    rw [this]
    exact ⟨rfl, by rw [Option.getD_some]; exact read_write _ (fun _ _ e => by cases e)⟩
  | number t n j =>
    obtain ⟨d, hd, hnn⟩ : ∃ d, (Ieee.Datum.number s m i).sum (.number (!t) n j) = some d ∧ ∀ s f, d ≠ .nan s f := ⟨_, rfl, fun _ _ e => by cases e⟩
    have : Ieee.double.sub x y = some (Ieee.double.write d) := by unfold Ieee.Format.sub; rw [hx, hr]; simp only [Ieee.Datum.opposite]; rw [hd]; rfl
    rw [this]
    exact ⟨rfl, by rw [Option.getD_some]; exact read_write _ hnn⟩

theorem ord_num {x y : Nat} (hx : Ext x) (hy : Ext y) : ∃ o, ord x y = some o := by
  show ∃ o, Ieee.double.order x y = some o
  unfold Ieee.Format.order
  cases h1 : Ieee.double.read x with
  | nan s f => exact absurd h1 (hx s f)
  | infinity s => cases h2 : Ieee.double.read y with
    | nan s f => exact absurd h2 (hy s f)
    | infinity t => exact ⟨_, rfl⟩
    | number t n j => exact ⟨_, rfl⟩
  | number s m i => cases h2 : Ieee.double.read y with
    | nan s f => exact absurd h2 (hy s f)
    | infinity t => exact ⟨_, rfl⟩
    | number t n j => exact ⟨_, rfl⟩

theorem num_zero : Num 0 := ⟨false, 0, -1074, by decide⟩
theorem num_mil : Num 4696837146684686336 := ⟨false, 8589934592000000, -33, by decide +kernel⟩
theorem num_one : Num 4607182418800017408 := ⟨false, 4503599627370496, -52, by decide +kernel⟩

/-- What counts is a number. -/
theorem weightW_num (x : Nat) : Num (weightW x) := by
  unfold weightW
  split
  · exact num_zero
  · rename_i h1
    split
    · exact num_zero
    · rename_i h2
      split
      · exact num_mil
      · rename_i h3
        -- no NaN, above 0, at most a million
        cases hr : Ieee.double.read x with
        | number s m p => exact ⟨s, m, p, hr⟩
        | nan s f =>
          exfalso; apply h1
          show (Ieee.double.order x x != some .eq) = true
          unfold Ieee.Format.order
          rw [hr]; rfl
        | infinity s =>
          exfalso
          cases s with
          | true =>
            apply h2
            have : ord x 0 = some .lt := by
              show Ieee.double.order x 0 = _
              unfold Ieee.Format.order
              rw [hr, show Ieee.double.read 0 = .number false 0 (-1074) from by decide]
              rfl
            rw [this]; rfl
          | false =>
            apply h3
            obtain ⟨t, n, j, hm⟩ := num_mil
            have : ord x 4696837146684686336 = some .gt := by
              show Ieee.double.order x 4696837146684686336 = _
              unfold Ieee.Format.order
              rw [hr, hm]
              rfl
            rw [this]; rfl

theorem ord_ext {x : Nat} (h : nanW x = false) : Ext x := by
  intro s f e
  have : nanW x = true := by
    show (Ieee.double.order x x != some .eq) = true
    unfold Ieee.Format.order
    rw [e]; rfl
  rw [h] at this; cases this

/-- The weights' sum, one behind the other. -/
def sumW (l : List Nat) : Nat := l.foldl addW 0
theorem sumW_snoc (l : List Nat) (x : Nat) : sumW (l ++ [x]) = addW (sumW l) x := by simp [sumW]
theorem sumW_ext {l : List Nat} (h : ∀ x ∈ l, Num x) : Ext (sumW l) := by
  suffices ∀ (l : List Nat) (a : Nat), Ext a → (∀ x ∈ l, Num x) → Ext (l.foldl addW a) from this l 0 num_zero.ext h
  intro l
  induction l with
  | nil => exact fun a ha _ => ha
  | cons x l ih => exact fun a ha hh => ih _ (add_ok ha (hh x (by simp))).2 (fun y hy => hh y (by simp [hy]))

/-- What the weights count, before ones are laid. -/
def rawW (l : List (Nat × Nat)) : List Nat := l.map fun s => weightW s.1
theorem rawW_num (l : List (Nat × Nat)) : ∀ x ∈ rawW l, Num x := by
  intro x hx
  simp only [rawW, List.mem_map] at hx
  obtain ⟨s, _, rfl⟩ := hx
  exact weightW_num _
/-- Does nothing count? -/
def noneW (l : List (Nat × Nat)) : Bool := ord (sumW (rawW l)) 0 == some .eq
def wtsW (l : List (Nat × Nat)) : List Nat := if noneW l = true then List.replicate l.length 4607182418800017408 else rawW l
def totW (l : List (Nat × Nat)) : Nat := if noneW l = true then floatOfInt .f64 l.length else sumW (rawW l)

theorem info25 : (Tryz.prog.info? 31).map (fun i => (i.zero, i.size, i.bytes)) = some (some (.float .f64 0), 1, 8) := by kernel_rfl

set_option maxRecDepth 20000 in
set_option maxHeartbeats 1000000 in
theorem weights_any (v : Value) (l : List (Nat × Nat)) (w : World) (hr : RdS w v l) (hlen : l.length * 16 ≤ 140737488351232) :
    Calls Tryz.prog 67 #[v] w fun e w' => e = .returned (.tuple #[.slice (some ⟨w.heap.size, 0, none⟩) l.length l.length, fl (totW l)]) ∧ Blk w' w.heap.size (fls (wtsW l)) 31 ∧ Below w.heap.size w w' := by
  obtain ⟨ao, cap, rfl, _, hc⟩ := hr
  have HC := Lib.hid hc
  clear hc
  have hmk := run_make_row' (P := Tryz.prog) 28 31 (.float .f64 0) 8 Tryz.underlying28 info25 rfl .i64 .i64 l.length (by omega) (by omega)
  go_enter Tryz.func67, Tryz.ntmps67
  go_wp2
  rw [made_fl]
  go_loopw [5, 14] (fun t i wr => ∃ (k : Nat), k ≤ l.length ∧ i = n64 k ∧ t = fl (sumW ((rawW l).take k)) ∧ Blk wr w.heap.size (fls (mix (rawW l) (List.replicate l.length 0) k)) 31 ∧ Below w.heap.size w wr) (fun _ i _ => l.length - (intOf i).toNat)
  case atStart => exact ⟨0, Nat.zero_le _, rfl, rfl, by rw [mix_zero]; exact blk_new _ _ _, (Below.refl _ _).alloc (Nat.le_refl _) _⟩
  case round =>
    obtain ⟨k, hk, rfl, rfl, hO, hB⟩ := hrel
    have hln : (rawW l).length = l.length := by simp [rawW]
    have hmix := mix_length (ys := rawW l) (xs := List.replicate l.length 0) (by simp [hln]) k (by simpa using hk)
    rw [List.length_replicate] at hmix
    by_cases hlt : k < l.length
    · obtain ⟨b, off, rfl, hb, hcc⟩ := HC.out (by omega)
      have c1 := (hB.cell (p := ⟨b, off + k * 2, none⟩) hb).trans (hcc k hlt).1
      have c2 := (hB.cell (p := ⟨b, off + k * 2 + 1, none⟩) hb).trans (hcc k hlt).2
      clear hcc
      obtain ⟨x, ex⟩ : ∃ x, x = (l.getD k (0, 0)).1 := ⟨_, rfl⟩
      obtain ⟨y, ey⟩ : ∃ y, y = (l.getD k (0, 0)).2 := ⟨_, rfl⟩
      rw [← ex] at c1
      rw [← ey] at c2
      have hxk : (rawW l)[k]? = some (weightW x) := by
        rw [ex, rawW, List.getElem?_map, List.getElem?_eq_getElem hlt, List.getD_eq_getElem?_getD, List.getElem?_eq_getElem hlt]; rfl
      have HX := Lib.hid hxk
      clear ex ey hxk
      have hO2 := hO.alloc (.cells #[fl x, fl y] 83)
      have hB2 := hB.alloc hB.size (.cells #[fl x, fl y] 83)
      have hO3 := hO2.set k (fl (weightW x))
      rw [fls_set, mix_set (by simp [hln]) k (by simpa using hlt) _ HX.out] at hO3
      have hB3 := hB2.setCell (p := ⟨w.heap.size, k, none⟩) (Nat.le_refl _) (fl (weightW x))
      have hf := hO2.free k
      obtain ⟨x0, hx0⟩ : ∃ x0, (mix (rawW l) (List.replicate l.length 0) k)[k]? = some x0 := ⟨_, List.getElem?_eq_getElem (by omega)⟩
      have hcx := hO2.cell k _ (fls_at _ k x0 hx0)
      clear hx0
      have hadd := add_ok (sumW_ext (l := (rawW l).take k) (fun z hz => rawW_num l z (List.mem_of_mem_take hz))) (weightW_num x)
      have hrun := fun wx => run_float_arith (P := Tryz.prog) wx .add 31 .f64 (sumW ((rawW l).take k)) (weightW x) _ hadd.1
      have hsn : (rawW l).take (k + 1) = (rawW l).take k ++ [weightW x] := by
        rw [List.take_add_one, HX.out]; rfl
      have HS := Lib.hid hsn
      clear hadd hsn hmix
      go_wp2_with (go_at_call 75; refine (weight_any _ _).mono ?_; rintro e w' ⟨rfl, rfl⟩)
      go_roundw
      case rel => exact ⟨k + 1, by omega, by go_num, by rw [HS.out, sumW_snoc], hO3, hB3⟩
      case measure => simp [intOf]; omega
    · obtain rfl : k = l.length := by omega
      rw [show (rawW l).take l.length = rawW l from by rw [← hln, List.take_length]]
      have hfull : mix (rawW l) (List.replicate l.length 0) l.length = rawW l := by
        have := mix_full (ys := rawW l) (xs := List.replicate l.length 0) (by simp [hln])
        rwa [hln] at this
      rw [hfull] at hO
      clear hfull hmix
      cases hz : noneW l with
      | false =>
        have hz' : (ord (sumW (rawW l)) 0 == some .eq) = false := hz
        have e1 : wtsW l = rawW l := by simp [wtsW, hz]
        have e2 : totW l = sumW (rawW l) := by simp [totW, hz]
        have E1 := Lib.hid e1
        have E2 := Lib.hid e2
        clear hz e1 e2
        go_wp2
        go_ret2
        exact ⟨by rw [E2.out]; rfl, by rw [E1.out]; exact hO, hB⟩
      | true =>
        have hz' : (ord (sumW (rawW l)) 0 == some .eq) = true := hz
        have e1 : wtsW l = List.replicate l.length 4607182418800017408 := by simp [wtsW, hz]
        have e2 : totW l = floatOfInt .f64 l.length := by simp [totW, hz]
        have E1 := Lib.hid e1
        have E2 := Lib.hid e2
        have HN := Lib.hid hln
        clear hz e1 e2 hln hlt
        go_wp2_with fail
        go_loopw [36] (fun i w2 => ∃ (k : Nat), k ≤ l.length ∧ i = n64 k ∧ Blk w2 w.heap.size (fls (mix (List.replicate l.length 4607182418800017408) (rawW l) k)) 31 ∧ Below w.heap.size w w2) (fun i _ => l.length - (intOf i).toNat)
        case atStart => exact ⟨0, Nat.zero_le _, rfl, by rw [mix_zero]; exact hO, hB⟩
        case round =>
          clear hO hB
          obtain ⟨k, hk, rfl, hO, hB⟩ := hrel
          by_cases hlt : k < l.length
          · have hO3 := hO.set k (fl 4607182418800017408)
            rw [fls_set, mix_set (by simp [HN.out]) k (by rw [HN.out]; exact hlt) _ (by simp [hlt])] at hO3
            have hB3 := hB.setCell (p := ⟨w.heap.size, k, none⟩) (Nat.le_refl _) (fl 4607182418800017408)
            have hf := hO.free k
            obtain ⟨x0, hx0⟩ : ∃ x0, (mix (List.replicate l.length 4607182418800017408) (rawW l) k)[k]? = some x0 := ⟨_, List.getElem?_eq_getElem (by rw [mix_length (by simp [HN.out]) k (by rw [HN.out]; omega), HN.out]; exact hlt)⟩
            have hcx := hO.cell k _ (fls_at _ k x0 hx0)
            clear hx0
            go_wp2
            go_roundw
            case rel => exact ⟨k + 1, by omega, by go_num, hO3, hB3⟩
            case measure => simp [intOf]; omega
          · obtain rfl : k = l.length := by omega
            have hfull : mix (List.replicate l.length 4607182418800017408) (rawW l) l.length = List.replicate l.length 4607182418800017408 := by
              have := mix_full (ys := List.replicate l.length 4607182418800017408) (xs := rawW l) (by simp [HN.out])
              rwa [List.length_replicate] at this
            rw [hfull] at hO
            clear hfull
            go_wp2
            go_ret2
            exact ⟨by rw [E2.out]; rfl, by rw [E1.out]; exact hO, hB⟩
end Go.Proofs.YtgimmdnmndbcpaaGreatDoor
