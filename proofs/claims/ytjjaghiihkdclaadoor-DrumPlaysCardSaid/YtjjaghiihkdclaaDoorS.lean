/- Each call of a drum beside the reference's: one contract each, for all arguments. -/
import Derived.Test.YtjjaghiihkdclaaDoorErrs
import Derived.Test.YtjjaghiihkdclaaDoorO
set_option linter.unusedVariables false
set_option linter.unusedSimpArgs false
namespace Go.Proofs.YtjjaghiihkdclaaDoor
open Go.RowKit Jw

/-- What a drum is. -/
structure DS where
  off : Bool
  ar : Bool
  l : Int
  wr : Int
  L : List Int
/-- What the reference's drum has left. -/
def DS.left (s : DS) : Int := if s.ar then s.l else -1
def DS.rc (s : DS) (n : Nat) (i : Int) : Int := if s.off then 6 else if i < 0 ∨ (n : Int) ≤ i then 1 else 0
def DS.wc (s : DS) (n : Nat) (i : Int) : Int := if s.off then 6 else if i < 0 ∨ (n : Int) ≤ i then 1 else if s.ar = true ∧ s.l = 0 then 6 else 0
def DS.blk (s : DS) (n : Nat) (i : Int) : List Int := if s.rc n i = 0 then get s.L i.toNat else zer 64
def DS.write (s : DS) (n : Nat) (i : Int) (B : List Int) : DS :=
  if s.off then s else if i < 0 ∨ (n : Int) ≤ i then s else if s.ar = true ∧ s.l = 0 then { s with off := true }
  else { s with l := if s.ar then s.l - 1 else s.l, wr := s.wr + 1, L := put s.L i.toNat B }
def DS.arm (s : DS) (i : Int) : DS := if 0 ≤ i then { s with ar := true, l := i } else { s with ar := false, l := 0 }
def DS.on (s : DS) : DS := { s with off := false, ar := false, l := 0 }
/-- What every drum keeps to. -/
structure DS.Ok (s : DS) (n k : Nat) : Prop where
  l0 : 0 ≤ s.l
  l1 : s.l ≤ 9223372036854775807
  w0 : 0 ≤ s.wr
  w1 : s.wr ≤ k
  len : s.L.length = n * 64
theorem DS.Ok.more {s : DS} {n k : Nat} (h : s.Ok n k) : s.Ok n (k + 1) := ⟨h.l0, h.l1, h.w0, by have := h.w1; omega, h.len⟩
theorem DS.Ok.write {s : DS} {n k : Nat} {i : Int} {B : List Int} (h : s.Ok n k) (hB : B.length = 64) : (s.write n i B).Ok n (k + 1) := by
  obtain ⟨a1, a2, a3, a4, a5⟩ := h
  unfold DS.write
  by_cases h1 : s.off = true
  · rw [if_pos h1]; exact ⟨a1, a2, a3, by omega, a5⟩
  · rw [if_neg h1]
    by_cases h2 : i < 0 ∨ (n : Int) ≤ i
    · rw [if_pos h2]; exact ⟨a1, a2, a3, by omega, a5⟩
    · rw [if_neg h2]
      by_cases h3 : s.ar = true ∧ s.l = 0
      · rw [if_pos h3]; exact ⟨a1, a2, a3, by show s.wr ≤ _; omega, a5⟩
      · rw [if_neg h3]
        refine ⟨?_, ?_, by show 0 ≤ s.wr + 1; omega, by show s.wr + 1 ≤ _; omega, put_length _ _ _ _ a5 hB (by omega)⟩
        · show 0 ≤ (if s.ar = true then s.l - 1 else s.l)
          by_cases h4 : s.ar = true
          · rw [if_pos h4]
            have : ¬ s.l = 0 := fun h => h3 ⟨h4, h⟩
            omega
          · rw [if_neg h4]; exact a1
        · show (if s.ar = true then s.l - 1 else s.l) ≤ _
          by_cases h4 : s.ar = true
          · rw [if_pos h4]; omega
          · rw [if_neg h4]; exact a2
theorem DS.Ok.arm {s : DS} {n k : Nat} {i : Int} (h : s.Ok n k) (hi : i ≤ 9223372036854775807) : (s.arm i).Ok n (k + 1) := by
  obtain ⟨a1, a2, a3, a4, a5⟩ := h
  unfold DS.arm
  by_cases h1 : 0 ≤ i
  · rw [if_pos h1]; exact ⟨h1, hi, a3, by show s.wr ≤ _; omega, a5⟩
  · rw [if_neg h1]; exact ⟨by show (0 : Int) ≤ 0; omega, by show (0 : Int) ≤ _; omega, a3, by show s.wr ≤ _; omega, a5⟩
theorem DS.Ok.on {s : DS} {n k : Nat} (h : s.Ok n k) : s.on.Ok n (k + 1) := by
  obtain ⟨a1, a2, a3, a4, a5⟩ := h
  exact ⟨by show (0 : Int) ≤ 0; omega, by show (0 : Int) ≤ _; omega, a3, by show s.wr ≤ _; omega, a5⟩

/-- The drum, and the reference's. -/
abbrev Df (w : World) (b g n : Nat) (s : DS) : Prop := Dr w b g s.off s.ar s.l n s.wr s.L
abbrev Dm (w : World) (c h n : Nat) (s : DS) : Prop := Rm w c h s.off s.left n s.wr s.L
/-- The error of a number. -/
def eV (A : Nat → Addr) (c : Int) : Value := if c = 1 then er (A 0) else if c = 6 then er (A 1) else .nilIface

section
variable {w w' : World} {b g c h n k : Nat} {s : DS} {i : Int} {B : List Int} {A : Nat → Addr}
theorem num_wc (w : World) (A : Nat → Addr) (hA : Sents w A) (s : DS) (n : Nat) (i : Int) : Calls Tryd.prog 21 #[eV A (s.wc n i)] w fun e w' => e = .returned (n64 (s.wc n i)) ∧ Below w.heap.size w w' := by
  have h3 : s.wc n i = 6 ∨ s.wc n i = 1 ∨ s.wc n i = 0 := by unfold DS.wc; split <;> (try split) <;> (try split) <;> simp
  rcases h3 with e | e | e <;> rw [e]
  · exact num_at w A hA 5 (by decide)
  · exact num_at w A hA 0 (by decide)
  · exact (num_nil w).mono fun e w' ⟨h1, h2⟩ => ⟨h1, by rw [← h2]; exact Below.refl _ _⟩
theorem num_rc (w : World) (A : Nat → Addr) (hA : Sents w A) (s : DS) (n : Nat) (i : Int) : Calls Tryd.prog 21 #[eV A (s.rc n i)] w fun e w' => e = .returned (n64 (s.rc n i)) ∧ Below w.heap.size w w' := by
  have h3 : s.rc n i = 6 ∨ s.rc n i = 1 ∨ s.rc n i = 0 := by unfold DS.rc; split <;> (try split) <;> simp
  rcases h3 with e | e | e <;> rw [e]
  · exact num_at w A hA 5 (by decide)
  · exact num_at w A hA 0 (by decide)
  · exact (num_nil w).mono fun e w' ⟨h1, h2⟩ => ⟨h1, by rw [← h2]; exact Below.refl _ _⟩

theorem Dr.off_true {off ar : Bool} {l wr : Int} {L : List Int} (h : Dr w b g off ar l n wr L) (e : off = true) : Blk w b #[.bool true, .bool ar, n64 l, .slice (some ⟨g, 0, none⟩) n n, n64 wr] 62 := by rw [← e]; exact h.d
theorem fwrite_all (hf : Df w b g n s) (hk : s.Ok n k) (hk2 : k ≤ 1000) (hA : Sents w A) (hb : 1 < b) (hB : B.length = 64) :
    Calls Tryd.prog 12 #[pt b, n64 i, .agg (row B)] w fun e w' => e = .returned (eV A (s.wc n i)) ∧ Fr b g w w' ∧ Df w' b g n (s.write n i B) := by
  obtain ⟨off, ar, l, wr, L⟩ := s
  obtain ⟨a1, a2, a3, a4, a5⟩ := hk
  simp only at a1 a2 a3 a4 a5
  cases off with
  | true => exact (write_off hf.d (hA.cell 1 (by decide))).mono fun e w' ⟨he, hb⟩ => ⟨he, Fr.of_below hb, hf.below hb hf.d.lt hf.k.lt⟩
  | false =>
    by_cases h2 : i < 0 ∨ (n : Int) ≤ i
    · have e1 : DS.wc ⟨false, ar, l, wr, L⟩ n i = 1 := by simp only [DS.wc, Bool.false_eq_true, if_false]; rw [if_pos h2]
      have e2 : DS.write ⟨false, ar, l, wr, L⟩ n i B = ⟨false, ar, l, wr, L⟩ := by simp only [DS.write, Bool.false_eq_true, if_false]; rw [if_pos h2]
      rw [e1, e2]
      exact (write_out hf.d (hA.cell 0 (by decide)) h2).mono fun e w' ⟨he, hb⟩ => ⟨he, Fr.of_below hb, hf.below hb hf.d.lt hf.k.lt⟩
    · obtain ⟨j, rfl⟩ := Int.eq_ofNat_of_zero_le (show 0 ≤ i by omega)
      by_cases h3 : ar = true ∧ l = 0
      · obtain ⟨rfl, rfl⟩ := h3
        have e1 : DS.wc ⟨false, true, 0, wr, L⟩ n j = 6 := by simp only [DS.wc, Bool.false_eq_true, if_false]; rw [if_neg h2, if_pos ⟨trivial, trivial⟩]
        have e2 : DS.write ⟨false, true, 0, wr, L⟩ n j B = ⟨true, true, 0, wr, L⟩ := by simp only [DS.write, Bool.false_eq_true, if_false]; rw [if_neg h2, if_pos ⟨trivial, trivial⟩]
        rw [e1, e2]
        exact write_goes hf (hA.cell 1 (by decide)) (by omega) (by omega) hb
      · have e1 : DS.wc ⟨false, ar, l, wr, L⟩ n j = 0 := by simp only [DS.wc, Bool.false_eq_true, if_false]; rw [if_neg h2, if_neg h3]
        have e2 : DS.write ⟨false, ar, l, wr, L⟩ n j B = ⟨false, ar, if ar = true then l - 1 else l, wr + 1, put L j B⟩ := by
          simp only [DS.write, Bool.false_eq_true, if_false]; rw [if_neg h2, if_neg h3]; rfl
        rw [e1, e2]
        cases ar with
        | false => exact write_free hf (by omega) hB (by omega)
        | true =>
          have hl : l ≠ 0 := fun h => h3 ⟨rfl, h⟩
          exact write_armed hf (by omega) hB (by omega) (by omega) a2
theorem mwrite_all (hm : Dm w c h n s) (hk : s.Ok n k) (hk2 : k ≤ 1000) (hn : n ≤ 5000) (hB : B.length = 64) :
    Calls Tryd.prog 23 #[pt c, n64 i, .agg (row B)] w fun e w' => e = .returned (n64 (s.wc n i)) ∧ Fr c h w w' ∧ Dm w' c h n (s.write n i B) := by
  obtain ⟨off, ar, l, wr, L⟩ := s
  obtain ⟨a1, a2, a3, a4, a5⟩ := hk
  simp only at a1 a2 a3 a4 a5
  cases off with
  | true => exact (rwrite_off hm).mono fun e w' ⟨he, hb⟩ => ⟨he, Fr.of_below hb, hm.below hb hm.d.lt hm.k.lt⟩
  | false =>
    by_cases h2 : i < 0 ∨ (n : Int) ≤ i
    · have e1 : DS.wc ⟨false, ar, l, wr, L⟩ n i = 1 := by simp only [DS.wc, Bool.false_eq_true, if_false]; rw [if_pos h2]
      have e2 : DS.write ⟨false, ar, l, wr, L⟩ n i B = ⟨false, ar, l, wr, L⟩ := by simp only [DS.write, Bool.false_eq_true, if_false]; rw [if_pos h2]
      rw [e1, e2]
      exact (rwrite_out hm hn h2).mono fun e w' ⟨he, hb⟩ => ⟨he, Fr.of_below hb, hm.below hb hm.d.lt hm.k.lt⟩
    · obtain ⟨j, rfl⟩ := Int.eq_ofNat_of_zero_le (show 0 ≤ i by omega)
      by_cases h3 : ar = true ∧ l = 0
      · obtain ⟨rfl, rfl⟩ := h3
        have e1 : DS.wc ⟨false, true, 0, wr, L⟩ n j = 6 := by simp only [DS.wc, Bool.false_eq_true, if_false]; rw [if_neg h2, if_pos ⟨trivial, trivial⟩]
        have e2 : DS.write ⟨false, true, 0, wr, L⟩ n j B = ⟨true, true, 0, wr, L⟩ := by simp only [DS.write, Bool.false_eq_true, if_false]; rw [if_neg h2, if_pos ⟨trivial, trivial⟩]
        rw [e1, e2]
        exact rwrite_goes hm hn (by omega) (by omega)
      · have e1 : DS.wc ⟨false, ar, l, wr, L⟩ n j = 0 := by simp only [DS.wc, Bool.false_eq_true, if_false]; rw [if_neg h2, if_neg h3]
        have e2 : DS.write ⟨false, ar, l, wr, L⟩ n j B = ⟨false, ar, if ar = true then l - 1 else l, wr + 1, put L j B⟩ := by
          simp only [DS.write, Bool.false_eq_true, if_false]; rw [if_neg h2, if_neg h3]; rfl
        rw [e1, e2]
        cases ar with
        | false => exact rwrite_ok hm hn (by omega) hB (by omega) (by show (-1 : Int) ≠ 0; decide) (by show (-1 : Int) ≤ -1; decide) (by show (-1 : Int) ≤ _; decide) rfl
        | true =>
          have hl : l ≠ 0 := fun h => h3 ⟨rfl, h⟩
          exact rwrite_ok hm hn (by omega) hB (by omega) hl (by show -1 ≤ l; omega) a2 (by show l - 1 = if 0 < l then l - 1 else l; rw [if_pos (by omega)])
theorem fread_all (hf : Df w b g n s) (hA : Sents w A) :
    Calls Tryd.prog 11 #[pt b, n64 i] w fun e w' => e = .returned (.tuple #[bk (s.blk n i), eV A (s.rc n i)]) ∧ Below w.heap.size w w' := by
  obtain ⟨off, ar, l, wr, L⟩ := s
  cases off with
  | true => exact read_off hf.d (hA.cell 1 (by decide))
  | false =>
    by_cases h2 : i < 0 ∨ (n : Int) ≤ i
    · have e1 : DS.rc ⟨false, ar, l, wr, L⟩ n i = 1 := by simp only [DS.rc, Bool.false_eq_true, if_false]; rw [if_pos h2]
      rw [DS.blk, e1]
      exact read_out hf.d (hA.cell 0 (by decide)) h2
    · obtain ⟨j, rfl⟩ := Int.eq_ofNat_of_zero_le (show 0 ≤ i by omega)
      have e1 : DS.rc ⟨false, ar, l, wr, L⟩ n j = 0 := by simp only [DS.rc, Bool.false_eq_true, if_false]; rw [if_neg h2]
      rw [DS.blk, e1]
      exact read_ok hf (by omega)
theorem mread_all (hm : Dm w c h n s) (hn : n ≤ 5000) :
    Calls Tryd.prog 24 #[pt c, n64 i] w fun e w' => e = .returned (.tuple #[bk (s.blk n i), n64 (s.rc n i)]) ∧ Below w.heap.size w w' := by
  obtain ⟨off, ar, l, wr, L⟩ := s
  cases off with
  | true => exact rread_off hm i
  | false =>
    by_cases h2 : i < 0 ∨ (n : Int) ≤ i
    · have e1 : DS.rc ⟨false, ar, l, wr, L⟩ n i = 1 := by simp only [DS.rc, Bool.false_eq_true, if_false]; rw [if_pos h2]
      rw [DS.blk, e1]
      exact rread_out hm hn i h2
    · obtain ⟨j, rfl⟩ := Int.eq_ofNat_of_zero_le (show 0 ≤ i by omega)
      have e1 : DS.rc ⟨false, ar, l, wr, L⟩ n j = 0 := by simp only [DS.rc, Bool.false_eq_true, if_false]; rw [if_neg h2]
      rw [DS.blk, e1]
      exact rread_ok hm hn (by omega)
theorem DS.blk_length (hk : s.Ok n k) : (s.blk n i).length = 64 := by
  unfold DS.blk
  by_cases h0 : s.rc n i = 0
  · rw [if_pos h0]
    refine get_length _ _ n hk.len ?_
    unfold DS.rc at h0
    by_cases h1 : s.off = true
    · rw [if_pos h1] at h0; cases h0
    · rw [if_neg h1] at h0
      by_cases h2 : i < 0 ∨ (n : Int) ≤ i
      · rw [if_pos h2] at h0; cases h0
      · omega
  · rw [if_neg h0, zer_length]
theorem farm_all (hf : Df w b g n s) : Calls Tryd.prog 10 #[pt b, n64 i] w fun e w' => e = .returned (.tuple #[]) ∧ Fr b g w w' ∧ Df w' b g n (s.arm i) := by
  unfold DS.arm
  by_cases h1 : 0 ≤ i
  · rw [if_pos h1]; exact (arm_yes hf.d h1).mono fun e w' ⟨he, hp⟩ => ⟨he, Fr.of_put hp, hf.put hp⟩
  · rw [if_neg h1]; exact (arm_no hf.d (by omega)).mono fun e w' ⟨he, hp⟩ => ⟨he, Fr.of_put hp, hf.put hp⟩
theorem marm_all (hm : Dm w c h n s) : Calls Tryd.prog 25 #[pt c, n64 i] w fun e w' => e = .returned (.tuple #[]) ∧ Fr c h w w' ∧ Dm w' c h n (s.arm i) := by
  unfold DS.arm
  by_cases h1 : 0 ≤ i
  · rw [if_pos h1]; exact (rarm_yes hm h1).mono fun e w' ⟨he, hp⟩ => ⟨he, Fr.of_put hp, hm.put hp⟩
  · rw [if_neg h1]; exact (rarm_no hm (by omega)).mono fun e w' ⟨he, hp⟩ => ⟨he, Fr.of_put hp, hm.put hp⟩
theorem fon_all (hf : Df w b g n s) : Calls Tryd.prog 15 #[pt b] w fun e w' => e = .returned (.tuple #[]) ∧ Fr b g w w' ∧ Df w' b g n s.on :=
  (on_any hf.d).mono fun e w' ⟨he, hp⟩ => ⟨he, Fr.of_put hp, hf.put hp⟩
theorem mon_all (hm : Dm w c h n s) : Calls Tryd.prog 26 #[pt c] w fun e w' => e = .returned (.tuple #[]) ∧ Fr c h w w' ∧ Dm w' c h n s.on :=
  (ron_any hm).mono fun e w' ⟨he, hp⟩ => ⟨he, Fr.of_put hp, hm.put hp⟩
end
end Go.Proofs.YtjjaghiihkdclaaDoor
