/- Pieces, one behind the other: how they lie, whether they are few; the plain law. -/
import Derived.Test.YtfphfljndhideaaDoorF1
set_option linter.unusedVariables false
set_option linter.unusedSimpArgs false
namespace Go.Proofs.YtfphfljndhideaaDoor
open Go.RowKit Jw Lab

/-- A list of rows of bytes that is read. -/
def Rbb (w : World) (v : Value) (P : List (List UInt8)) : Prop :=
  ∃ (ao : Option Addr) (cap : Nat), v = .slice ao P.length cap ∧ (P.length ≠ 0 → ∃ b off, ao = some ⟨b, off, none⟩ ∧ b < w.heap.size ∧
    ∀ k, k < P.length → ∃ vk, w.cell? ⟨b, off + k, none⟩ = some vk ∧ Rb w vk (P.getD k []) ∧ ∀ n c, vk = .slice none n c → n = 0 ∧ c = 0)
theorem Rbb.below {w w' : World} {v : Value} {P : List (List UInt8)} {B : Nat} (h : Rbb w v P) (hb : Below B w w') (hB : w.heap.size ≤ B) : Rbb w' v P := by
  obtain ⟨ao, cap, hv, h1⟩ := h
  refine ⟨ao, cap, hv, fun hn => ?_⟩
  obtain ⟨b, off, e, hlt, hc⟩ := h1 hn
  refine ⟨b, off, e, Nat.lt_of_lt_of_le hlt hb.size, fun k hk => ?_⟩
  obtain ⟨vk, h2, h3, h4⟩ := hc k hk
  exact ⟨vk, (hb.cell (p := ⟨b, off + k, none⟩) (Nat.lt_of_lt_of_le hlt hB)).trans h2, h3.below hb hB, h4⟩
theorem flat_snoc (P : List (List UInt8)) (k : Nat) (hk : k < P.length) : (P.take (k + 1)).flatten = (P.take k).flatten ++ P.getD k [] := by
  have e : P.take (k + 1) = P.take k ++ [P.getD k []] := by
    rw [List.take_add_one, List.getElem?_eq_getElem hk, List.getD_eq_getElem?_getD, List.getElem?_eq_getElem hk]
    rfl
  rw [e, List.flatten_append]
  simp
theorem flat_le (P : List (List UInt8)) (k : Nat) : (P.take k).flatten.length ≤ P.flatten.length := by
  conv => rhs; rw [← List.take_append_drop k P]
  rw [List.flatten_append, List.length_append]
  omega

set_option maxHeartbeats 1000000 in
theorem few_any (P : List (List UInt8)) (v : Value) (w : World) (hr : Rbb w v P) (hP : P.length ≤ 9223372036854775807) (hl : ∀ p ∈ P, p.length ≤ 9223372036854775807) :
    Calls Tryd.prog 31 #[v] w fun e w' => (∃ fb : Bool, e = .returned (.bool fb) ∧ (fb = true → P.length + P.flatten.length ≤ 2000)) ∧ w = w' := by
  obtain ⟨ao, cap, rfl, hao⟩ := hr
  have HA := Lib.hid hao
  have HL := Lib.hid hl
  clear hao hl
  go_enter Tryd.func31, Tryd.ntmps31
  go_upto_region 3 with fail
  go_loopw [3, 5, 8] (fun s _ i wr => ∃ (k n : Nat), k ≤ P.length ∧ i = n64 k ∧ s = n64 n ∧ n = k + (P.take k).flatten.length ∧ n ≤ 4001 ∧ wr = w) (fun _ _ i _ => P.length - (intOf i).toNat)
  case atStart => exact ⟨0, 0, by omega, rfl, rfl, by simp, by omega, rfl⟩
  case round =>
    obtain ⟨k, n, hk, rfl, rfl, hn, hn4, rfl⟩ := hrel
    have HN := Lib.hid hn
    clear hn
    by_cases hlk : k < P.length
    · obtain ⟨b, off, rfl, hb, hc⟩ := HA.out (by omega)
      obtain ⟨vk, hx, hr, _⟩ := hc k hlk
      obtain ⟨p, hp⟩ : ∃ p, p = P.getD k [] := ⟨_, rfl⟩
      have hpl : p.length ≤ 9223372036854775807 := HL.out p (hp ▸ getD_mem P k [] hlk)
      have hfl := flat_snoc P k hlk
      rw [← hp] at hr hfl
      obtain ⟨ao2, cap2, rfl, hr2⟩ := hr
      have HC := Lib.hid hc
      have hn1 : k ≤ n := by have := HN.out; omega
      have HK := Lib.hid hn1
      clear hc hp hr2 hn1
      by_cases h1 : 2000 < n
      · have q1 : decide (2000 < (n : Int)) = true := by simp; omega
        clear h1 hfl
        go_wp2
        go_ret
        exact ⟨⟨false, rfl, fun h => by cases h⟩, rfl⟩
      · have q1 : decide (2000 < (n : Int)) = false := by simp; omega
        by_cases h2 : 2000 < p.length
        · have q2 : decide (2000 < (p.length : Int)) = true := by simp; omega
          clear h1 h2 hfl
          go_wp2
          go_ret
          exact ⟨⟨false, rfl, fun h => by cases h⟩, rfl⟩
        · have q2 : decide (2000 < (p.length : Int)) = false := by simp; omega
          have HF := Lib.hid hfl
          have w1 : IntKind.i64.wrap (1 + (p.length : Int)) = 1 + (p.length : Int) := IntWalk.i64_in _ (by omega)
          obtain ⟨n2, hn2⟩ : ∃ n2 : Nat, n2 = n + (1 + p.length) := ⟨_, rfl⟩
          have e1 : (n : Int) + (1 + (p.length : Int)) = (n2 : Int) := by omega
          have w2 : IntKind.i64.wrap (n2 : Int) = (n2 : Int) := IntWalk.i64_in _ (by omega)
          have ck : ((k : Int) + 1) ≤ 4294967290 := by have := HK.out; omega
          have HN2 := Lib.hid hn2
          have H1 := Lib.hid h1
          have H2 := Lib.hid h2
          clear hfl hn2 h1 h2
          go_wp2
          go_roundw
          case rel =>
            refine ⟨k + 1, n2, by omega, by go_num, rfl, ?_, ?_, trivial⟩
            · rw [HF.out, List.length_append]
              have := HN.out
              have := HN2.out
              omega
            · have := HN2.out
              have := H1.out
              have := H2.out
              omega
          case measure => simp [intOf]; omega
    · obtain rfl : k = P.length := by omega
      have hn := HN.out
      rw [List.take_length] at hn
      have HX := Lib.hid hn
      clear hn
      by_cases h1 : n ≤ 2000
      · have q1 : decide ((n : Int) ≤ 2000) = true := by simp; omega
        have H1 := Lib.hid h1
        clear h1
        go_wp2
        go_ret
        exact ⟨⟨true, rfl, fun _ => by have := HX.out; have := H1.out; omega⟩, rfl⟩
      · have q1 : decide ((n : Int) ≤ 2000) = false := by simp; omega
        clear h1
        go_wp2
        go_ret
        exact ⟨⟨false, rfl, fun h => by cases h⟩, rfl⟩

/-! The plain law. -/
theorem tkS_open {pre : List UInt8} {c : UInt8} (h : tkS pre c = 0) : tkL pre c = pre ++ [c] ∧ canB (pre ++ [c]) = true ∧ c ≠ 10 := by
  unfold tkS at h
  cases hc : canB (pre ++ [c]) with
  | false => rw [hc, if_neg (by simp)] at h; exact absurd h (by decide)
  | true =>
    rw [hc, if_pos rfl] at h
    refine ⟨by rw [tkL, if_pos hc], rfl, fun e => ?_⟩
    rw [if_pos e] at h
    exact absurd h (by decide)
theorem fd_append (p : List UInt8) : ∀ (pre q : List UInt8), fd pre (p ++ q) = if (fd pre p).2.1 = 0 then ((fd (fd pre p).2.2 q).1 + p.length, (fd (fd pre p).2.2 q).2) else fd pre p := by
  induction p with
  | nil => intro pre q; simp [fd]
  | cons c r ih =>
    intro pre q
    rw [List.cons_append, fd, fd]
    by_cases h : tkS pre c = 0
    · rw [if_pos h, if_pos h, ih]
      by_cases h2 : (fd (tkL pre c) r).2.1 = 0
      · rw [if_pos h2, if_pos h2]
        refine Prod.ext ?_ rfl
        simp
        omega
      · rw [if_neg h2, if_neg h2]
    · rw [if_neg h, if_neg h, if_neg h]
theorem fd_open (r : List UInt8) : ∀ pre, (fd pre r).2.1 = 0 → fd pre r = (r.length, 0, pre ++ r) := by
  induction r with
  | nil => intro pre _; simp [fd]
  | cons c r ih =>
    intro pre h
    rw [fd] at h ⊢
    by_cases h0 : tkS pre c = 0
    · rw [if_pos h0] at h ⊢
      rw [ih _ h, (tkS_open h0).1]
      simp
    · rw [if_neg h0] at h
      exact absurd h h0
theorem fd_live (r : List UInt8) : ∀ pre, (10 : UInt8) ∉ pre → canB pre = true → (fd pre r).2.1 = 0 → canB (pre ++ r) = true ∧ (10 : UInt8) ∉ pre ++ r := by
  induction r with
  | nil => intro pre h1 h2 _; rw [List.append_nil]; exact ⟨h2, h1⟩
  | cons c r ih =>
    intro pre h1 h2 h
    rw [fd] at h
    by_cases h0 : tkS pre c = 0
    · rw [if_pos h0] at h
      obtain ⟨e1, e2, e3⟩ := tkS_open h0
      rw [e1] at h
      have := ih (pre ++ [c]) (fun hm => by
        rcases List.mem_append.1 hm with e | e
        · exact h1 e
        · simp at e; exact e3 e.symm) e2 h
      rw [show pre ++ c :: r = pre ++ [c] ++ r by simp]
      exact this
    · rw [if_neg h0] at h
      exact absurd h h0
theorem live_len {A : List UInt8} (h1 : canB A = true) (h2 : (10 : UInt8) ∉ A) : A.length ≤ 66 := by
  rw [can_no A h2] at h1
  by_cases h3 : A.length < 3
  · omega
  · rw [if_neg h3, Bool.and_eq_true, beg, Bool.and_eq_true, Bool.and_eq_true, Bool.and_eq_true, decide_eq_true_eq, decide_eq_true_eq] at h1
    have := h1.2.1.2
    rw [List.length_drop] at this
    omega
theorem fd_size (r : List UInt8) : ∀ pre, (fd pre r).1 ≤ r.length ∧ ((fd pre r).2.1 ≠ 0 → 1 ≤ (fd pre r).1) := by
  induction r with
  | nil => intro pre; simp [fd]
  | cons c r ih =>
    intro pre
    rw [fd]
    by_cases h0 : tkS pre c = 0
    · rw [if_pos h0]
      have := (ih (tkL pre c)).1
      refine ⟨by simp; omega, fun _ => by simp⟩
    · rw [if_neg h0]
      exact ⟨by simp, fun _ => Nat.le_refl _⟩
theorem fd_wlk (r : List UInt8) : ∀ pre, (10 : UInt8) ∉ pre → canB pre = true →
    ((wlk pre r).2 = true ∧ fd pre r = ((wlk pre r).1 - pre.length, 1, (pre ++ r).take (wlk pre r).1) ∧ pre.length + 1 ≤ (wlk pre r).1 ∧ (wlk pre r).1 ≤ pre.length + r.length ∧ 5 ≤ (wlk pre r).1) ∨
    ((wlk pre r).2 = false ∧ pre.length ≤ (wlk pre r).1 ∧ (wlk pre r).1 < pre.length + r.length ∧ fd pre r = ((wlk pre r).1 - pre.length + 1, 2, [])) ∨
    ((wlk pre r).2 = false ∧ (wlk pre r).1 = pre.length + r.length ∧ fd pre r = (r.length, 0, pre ++ r)) := by
  induction r with
  | nil => intro pre h1 h2; exact .inr (.inr ⟨rfl, by simp [wlk], by simp [fd]⟩)
  | cons c r ih =>
    intro pre h1 h2
    rw [wlk, fd]
    by_cases hc : c = 10
    · subst hc
      rw [if_pos rfl]
      have he := can_end pre h1
      rw [h2, Bool.true_and] at he
      cases ho : endOk pre with
      | true =>
        have hS : tkS pre 10 = 1 := by rw [tkS, if_pos (by rw [he, ho]), if_pos rfl]
        have hL : tkL pre 10 = pre ++ [10] := by rw [tkL, if_pos (by rw [he, ho])]
        rw [if_pos rfl, if_neg (by rw [hS]; decide), hS, hL]
        refine .inl ⟨rfl, ?_, by simp, by simp, ?_⟩
        · have e : (pre ++ 10 :: r).take (pre.length + 1) = pre ++ [10] := by
            rw [show pre ++ 10 :: r = (pre ++ [10]) ++ r by simp, show pre.length + 1 = (pre ++ [10]).length by simp]
            exact List.take_left
          rw [e]
          refine Prod.ext (by simp) rfl
        · rw [endOk, Bool.and_eq_true, Bool.and_eq_true, decide_eq_true_eq, decide_eq_true_eq] at ho
          rcases Nat.lt_or_ge 3 pre.length with h5 | h5
          · show 5 ≤ pre.length + 1; omega
          · exact absurd (by rw [List.drop_eq_nil_of_le h5]; rfl) ho.1.2
      | false =>
        have hS : tkS pre 10 = 2 := by rw [tkS, if_neg (by rw [he, ho]; simp)]
        have hL : tkL pre 10 = [] := by rw [tkL, if_neg (by rw [he, ho]; simp)]
        rw [if_neg (by simp), if_neg (by rw [hS]; decide), hS, hL]
        exact .inr (.inl ⟨rfl, Nat.le_refl _, by simp, by simp⟩)
    · rw [if_neg hc]
      have hs := can_snoc pre c h1 hc
      rw [h2, Bool.true_and] at hs
      cases ho : okW pre c with
      | false =>
        have hS : tkS pre c = 2 := by rw [tkS, if_neg (by rw [hs, ho]; simp)]
        have hL : tkL pre c = [] := by rw [tkL, if_neg (by rw [hs, ho]; simp)]
        rw [if_neg (by simp), if_neg (by rw [hS]; decide), hS, hL]
        exact .inr (.inl ⟨rfl, Nat.le_refl _, by simp, by simp⟩)
      | true =>
        have hcb : canB (pre ++ [c]) = true := hs.trans ho
        have hS : tkS pre c = 0 := by rw [tkS, if_pos hcb, if_neg hc]
        have hL : tkL pre c = pre ++ [c] := by rw [tkL, if_pos hcb]
        rw [if_pos rfl, if_pos hS, hL]
        have h := ih (pre ++ [c]) (fun hm => by
          rcases List.mem_append.1 hm with e | e
          · exact h1 e
          · simp at e; exact hc e.symm) hcb
        have e : pre ++ c :: r = pre ++ [c] ++ r := by simp
        have el : (pre ++ [c]).length = pre.length + 1 := by simp
        rw [e]
        rw [el] at h
        rcases h with ⟨a1, a2, a3, a4, a5⟩ | ⟨a1, a2, a3, a4⟩ | ⟨a1, a2, a3⟩
        · refine .inl ⟨a1, ?_, by omega, by simp; omega, a5⟩
          rw [a2]
          exact Prod.ext (by simp; omega) rfl
        · refine .inr (.inl ⟨a1, by omega, by simp; omega, ?_⟩)
          rw [a4]
          exact Prod.ext (by simp; omega) rfl
        · refine .inr (.inr ⟨a1, by simp; omega, ?_⟩)
          rw [a3]
          simp
/-- One piece more. -/
theorem fd_piece (A p rest : List UInt8) (hA : (fd [] A).2.1 = 0) :
    ((fd A p).2.1 ≠ 0 ∧ fd [] (A ++ p ++ rest) = ((fd A p).1 + A.length, (fd A p).2) ∧ 1 ≤ (fd A p).1 ∧ (fd A p).1 ≤ p.length) ∨
    (fd A p = (p.length, 0, A ++ p) ∧ (fd [] (A ++ p)).2.1 = 0 ∧ A.length + p.length ≤ (fd [] (A ++ p ++ rest)).1 ∧ ((fd [] (A ++ p ++ rest)).2.1 ≠ 0 → A.length + p.length < (fd [] (A ++ p ++ rest)).1)) := by
  have h0 := fd_open A [] hA
  rw [List.nil_append] at h0
  have h1 : fd [] (A ++ p) = ((fd A p).1 + A.length, (fd A p).2) := by rw [fd_append, if_pos hA, h0]
  have hs := fd_size p A
  by_cases h : (fd A p).2.1 = 0
  · have h2 := fd_open p A h
    have h3 : (fd [] (A ++ p)).2.1 = 0 := by rw [h1]; exact h
    have h4 := fd_open (A ++ p) [] h3
    rw [List.nil_append] at h4
    have h5 : fd [] (A ++ p ++ rest) = ((fd (A ++ p) rest).1 + (A ++ p).length, (fd (A ++ p) rest).2) := by rw [fd_append, if_pos h3, h4]
    have hs2 := fd_size rest (A ++ p)
    refine .inr ⟨h2, h3, ?_, fun hn => ?_⟩
    · rw [h5]; simp
    · rw [h5] at hn ⊢
      have := hs2.2 hn
      simp
      omega
  · refine .inl ⟨h, ?_, hs.2 h, hs.1⟩
    rw [fd_append, if_neg (by rw [h1]; exact h), h1]
end Go.Proofs.YtfphfljndhideaaDoor
