/- LabelUnder: the plain law over the names that are tried; the walk. -/
import Derived.Test.YtfphfljndhideaaDoorO
import Derived.Laws.AppendOwnNone
set_option linter.unusedVariables false
set_option linter.unusedSimpArgs false
namespace Go.Proofs.YtfphfljndhideaaDoor
open Go.RowKit Jw Lab

/-- The names that are tried. -/
def nms (M : List (List UInt8)) (t : List UInt8) : List (List UInt8) := (M.filter fun h => decide (h.length < 100)).map fun h => h ++ 46 :: t
theorem nms_snoc (M : List (List UInt8)) (t : List UInt8) (k : Nat) (hk : k < M.length) : nms (M.take (k + 1)) t = if (M.getD k []).length < 100 then nms (M.take k) t ++ [M.getD k [] ++ 46 :: t] else nms (M.take k) t := by
  have e : M.take (k + 1) = M.take k ++ [M.getD k []] := by
    rw [List.take_add_one, List.getElem?_eq_getElem hk, List.getD_eq_getElem?_getD, List.getElem?_eq_getElem hk]
    rfl
  rw [e, nms, nms, List.filter_append, List.map_append]
  by_cases h : (M.getD k []).length < 100
  · rw [if_pos h, List.filter_cons_of_pos (by simpa using h)]; simp
  · rw [if_neg h, List.filter_cons_of_neg (by simpa using h)]; simp
theorem nms_le (M : List (List UInt8)) (t : List UInt8) : (nms M t).length ≤ M.length := by
  rw [nms, List.length_map]
  exact List.length_filter_le _ _
/-- Does what the one fits fit the other? -/
def alln (x y : List UInt8) (N : List (List UInt8)) : Bool := N.all fun n => !fits x n || fits y n
def somen (x : List UInt8) (N : List (List UInt8)) : Bool := N.any fun n => fits x n
theorem take_snoc (N : List (List UInt8)) (k : Nat) (hk : k < N.length) : N.take (k + 1) = N.take k ++ [N.getD k []] := by
  rw [List.take_add_one, List.getElem?_eq_getElem hk, List.getD_eq_getElem?_getD, List.getElem?_eq_getElem hk]
  rfl
theorem alln_snoc (x y : List UInt8) (N : List (List UInt8)) (k : Nat) (hk : k < N.length) : alln x y (N.take (k + 1)) = (alln x y (N.take k) && (!fits x (N.getD k []) || fits y (N.getD k []))) := by
  rw [take_snoc N k hk, alln, alln, List.all_append]
  simp
theorem somen_snoc (x : List UInt8) (N : List (List UInt8)) (k : Nat) (hk : k < N.length) : somen x (N.take (k + 1)) = (somen x (N.take k) || fits x (N.getD k [])) := by
  rw [take_snoc N k hk, somen, somen, List.any_append]
  simp
def tried (L : List (List UInt8)) (x : List UInt8) : List (List UInt8) := if wld x then nms (L ++ [[97], [98], [48]]) (tl x) else [x]
theorem under_law (L : List (List UInt8)) {x y : List UInt8} (hx : patOk x = true) (hy : patOk y = true) :
    (undr x y = true → alln x y (tried L x) = true) ∧ (undr x y = false → somen x (tried L x) = true ∧ alln x y (tried L x) = false) := by
  cases hw : wld x with
  | false =>
    have hn : nmOk x = true := by
      rw [patOk, tl, if_neg (by rw [hw]; simp), Bool.and_eq_true] at hx
      exact hx.2
    have hs := fits_self hn
    have e : tried L x = [x] := by rw [tried, if_neg (by rw [hw]; simp)]
    rw [e, undr_flat y hx hy hw]
    constructor
    · intro h; simp [alln, h]
    · intro h; simp [alln, somen, h, hs]
  | true =>
    have e : tried L x = nms (L ++ [[97], [98], [48]]) (tl x) := by rw [tried, if_pos hw]
    rw [e]
    constructor
    · intro hu
      rw [alln, List.all_eq_true]
      intro n hn
      obtain ⟨h, _, rfl⟩ := List.mem_map.1 hn
      cases hf : fits x (h ++ 46 :: tl x) with
      | false => rfl
      | true => simpa using undr_yes hw hu h hf
    · intro hu
      obtain ⟨h1, c, hc, h2⟩ := undr_no hw hx hy hu
      have hm : ∀ c ∈ ([97, 98, 48] : List UInt8), (c :: 46 :: tl x) ∈ nms (L ++ [[97], [98], [48]]) (tl x) := fun c hc => by
        refine List.mem_map.2 ⟨[c], List.mem_filter.2 ⟨List.mem_append_right _ ?_, by simp⟩, rfl⟩
        simp only [List.mem_cons, List.not_mem_nil, or_false] at hc ⊢
        rcases hc with rfl | rfl | rfl <;> simp
      refine ⟨List.any_eq_true.2 ⟨_, hm 97 (by simp), h1 97 (by simp)⟩, ?_⟩
      rw [Bool.eq_false_iff]
      intro ha
      have := List.all_eq_true.1 ha _ (hm c hc)
      rw [h1 c hc, h2] at this
      exact absurd this (by simp)

theorem rpat_ex2 (l : List UInt8) (hl : l.length < 4294967281) : ∃ b t, ∀ w, Calls Tryd.prog 20 #[.string (bs l)] w fun e w' => e = .returned (.tuple #[.string (bs t), .bool b, .bool (patOk l)]) ∧ Below w.heap.size w w' := by
  by_cases h : 2 < l.length ∧ wld l = true
  · exact ⟨_, _, fun w => rpat_wild l hl w h.1 h.2⟩
  · exact ⟨_, _, fun w => rpat_plain l hl w h⟩
/-- What the reference's Pattern says of a pattern. -/
theorem rpat_good (l : List UInt8) (hl : l.length < 4294967281) (h : patOk l = true) : ∀ w, Calls Tryd.prog 20 #[.string (bs l)] w fun e w' => e = .returned (.tuple #[.string (bs (tl l)), .bool (wld l), .bool true]) ∧ Below w.heap.size w w' := by
  intro w
  by_cases hh : 2 < l.length ∧ wld l = true
  · have := rpat_wild l hl w hh.1 hh.2
    rw [h] at this
    rw [tl, if_pos hh.2, hh.2]
    exact this
  · have := rpat_plain l hl w hh
    rw [h] at this
    have hw : wld l = false := by
      cases e : wld l with
      | false => rfl
      | true =>
        exfalso
        have h2 : l.length ≤ 2 := by
          rcases Nat.lt_or_ge 2 l.length with h3 | h3
          · exact absurd ⟨h3, e⟩ hh
          · exact h3
        have e2 := (wld_iff l).1 e
        have e3 : l = [42, 46] := by rw [← e2, List.take_of_length_le h2]
        rw [e3] at h
        exact absurd h (by decide)
    rw [tl, if_neg (by rw [hw]; simp), hw]
    exact this
theorem underLaw_no (x y : List UInt8) (L : List (List UInt8)) (v : Value) (w : World) (hr : Rs w v L) (a : Addr) (m : Int) (hg : Gl w a m) (h : 200 < x.length ∨ 200 < y.length ∨ 30 < L.length) :
    Calls Tryd.prog 7 #[.string (bs x), .string (bs y), v] w fun e w' => e = .returned (.bool true) ∧ Below w.heap.size w w' := by
  have s1 : (bs x).size = x.length := rfl
  have s2 : (bs y).size = y.length := rfl
  obtain ⟨ao, cap, rfl, _⟩ := hr
  have HA := Lib.hid (alive_any w a m hg)
  clear hg
  rcases Nat.lt_or_ge 200 x.length with h1 | h1
  · have q1 : decide (200 < (x.length : Int)) = true := by simp; omega
    clear h h1
    go_enter Tryd.func7, Tryd.ntmps7
    go_wp2_with (go_at_call 13; refine HA.out.mono ?_; rintro e w1 ⟨rfl, hB⟩)
    go_ret
    exact ⟨rfl, hB⟩
  have q1 : decide (200 < (x.length : Int)) = false := by simp; omega
  rcases Nat.lt_or_ge 200 y.length with h2 | h2
  · have q2 : decide (200 < (y.length : Int)) = true := by simp; omega
    clear h h1 h2
    go_enter Tryd.func7, Tryd.ntmps7
    go_wp2_with (go_at_call 13; refine HA.out.mono ?_; rintro e w1 ⟨rfl, hB⟩)
    go_ret
    exact ⟨rfl, hB⟩
  have q2 : decide (200 < (y.length : Int)) = false := by simp; omega
  have q3 : decide (30 < (L.length : Int)) = true := by simp; omega
  clear h h1 h2
  go_enter Tryd.func7, Tryd.ntmps7
  go_wp2_with (go_at_call 13; refine HA.out.mono ?_; rintro e w1 ⟨rfl, hB⟩)
  go_ret
  exact ⟨rfl, hB⟩

theorem underLaw_bad (x y : List UInt8) (L : List (List UInt8)) (v : Value) (w : World) (hr : Rs w v L) (a : Addr) (m : Int) (hg : Gl w a m) (h1 : x.length ≤ 200) (h2 : y.length ≤ 200) (h3 : L.length ≤ 30) (h : (patOk x && patOk y) = false) :
    Calls Tryd.prog 7 #[.string (bs x), .string (bs y), v] w fun e w' => e = .returned (.bool true) ∧ Below w.heap.size w w' := by
  have s1 : (bs x).size = x.length := rfl
  have s2 : (bs y).size = y.length := rfl
  obtain ⟨ao, cap, rfl, _⟩ := hr
  have HG := Lib.hid hg
  have HA := Lib.hid (alive_any w a m hg)
  have q1 : decide (200 < (x.length : Int)) = false := by simp; omega
  have q2 : decide (200 < (y.length : Int)) = false := by simp; omega
  have q3 : decide (30 < (L.length : Int)) = false := by simp; omega
  have hu : undr x y = false := by rw [undr, h]; rfl
  have HU := Lib.hid (fun w2 (h : Gl w2 a m) => under_any x y (by omega) (by omega) a m w2 h)
  rw [hu] at HU
  obtain ⟨b1, t1, p1⟩ := rpat_ex2 x (by omega)
  obtain ⟨b2, t2, p2⟩ := rpat_ex2 y (by omega)
  have HP1 := Lib.hid p1
  have HP2 := Lib.hid p2
  generalize patOk x = o1 at *
  generalize patOk y = o2 at *
  have HFin := Lib.hid (show ∀ w1 w2 w3 w4, Below w.heap.size w w1 → Below w1.heap.size w1 w2 → Below w2.heap.size w2 w3 → Below w3.heap.size w3 w4 → Below w.heap.size w w4 from fun w1 w2 w3 w4 b1 b2 b3 b4 => by
    have h2 := b1.trans (b2.mono b1.size)
    have h3 := h2.trans (b3.mono h2.size)
    exact h3.trans (b4.mono h3.size))
  clear hg h1 h2 h3 hu p1 p2
  cases o1
  all_goals
    cases o2
  all_goals first
    | (simp at h; done)
    | (clear h
       go_enter Tryd.func7, Tryd.ntmps7
       go_wp2_with (first
         | (go_at_call 13; refine HA.out.mono ?_; rintro e w1 ⟨rfl, hB⟩; have hg1 := HG.out.below hB (Nat.le_refl _))
         | (go_at_call 24; refine (HU.out _ hg1).mono ?_; rintro e w2 ⟨rfl, hB2⟩)
         | (go_at_call 20; first
           | ((with_reducible refine (HP1.out _).mono ?_); rintro e w3 ⟨rfl, hB3⟩)
           | ((with_reducible refine (HP2.out _).mono ?_); rintro e w4 ⟨rfl, hB4⟩)))
       go_ret
       exact ⟨rfl, HFin.out _ _ _ _ hB hB2 hB3 hB4⟩)

theorem tried_len (L : List (List UInt8)) (x : List UInt8) (h : x.length ≤ 200) : ∀ n ∈ tried L x, n.length < 4294967281 := by
  intro n hn
  rw [tried] at hn
  split at hn
  · obtain ⟨p, hp, rfl⟩ := List.mem_map.1 hn
    have h2 := (List.mem_filter.1 hp).2
    have := tl_le x
    simp at h2 ⊢
    omega
  · simp at hn; subst hn; omega
theorem tried_count (L : List (List UInt8)) (x : List UInt8) : (tried L x).length ≤ L.length + 3 := by
  rw [tried]
  split
  · have := nms_le (L ++ [[97], [98], [48]]) (tl x)
    simpa using this
  · simp

end Go.Proofs.YtfphfljndhideaaDoor
