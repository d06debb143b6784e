/- The state of the plays: both windows and both of the reference's, and what each call makes of it. -/
import Derived.Test.YtfklkkckfikfoaaDoorOps
set_option linter.unusedVariables false
set_option linter.unusedSimpArgs false
namespace Go.Proofs.YtfklkkckfikfoaaDoor
open Go.RowKit Jw Jf Go.Deep

/-- What lies in memory in a round: the call's argument at q; the windows from b on. -/
structure PlSt (w0 w : World) (b q : Nat) (n size o1 h1 d1 o2 h2 d2 : Int) : Prop where
  below : Below w0.heap.size w0 w
  arg : w.cell? ⟨q, 1, none⟩ = some (n64 n)
  s : Blk w b #[n64 size, n64 o1] 57
  r : Blk w (b + 1) #[n64 size, n64 h1, n64 d1] 60
  m : Blk w (b + 2) #[n64 size, n64 o2] 43
  k : Blk w (b + 3) #[n64 size, n64 h2, n64 d2] 46
  hq : q < w.heap.size

section
variable {w0 w w' : World} {b q : Nat} {n size o1 h1 d1 o2 h2 d2 o h d : Int} {A : Nat → Addr}

theorem PlSt.drew (h : PlSt w0 w b q n size o1 h1 d1 o2 h2 d2) : PlSt w0 w.drew b q n size o1 h1 d1 o2 h2 d2 := ⟨h.below.drew, h.arg, h.s, h.r, h.m, h.k, h.hq⟩
theorem PlSt.step (h : PlSt w0 w b q n size o1 h1 d1 o2 h2 d2) (hb : Below w.heap.size w w') : PlSt w0 w' b q n size o1 h1 d1 o2 h2 d2 :=
  ⟨h.below.trans (hb.mono h.below.size), (hb.cell (p := ⟨q, 1, none⟩) h.hq).trans h.arg, h.s.below hb h.s.lt, h.r.below hb h.r.lt, h.m.below hb h.m.lt, h.k.below hb h.k.lt, Nat.lt_of_lt_of_le h.hq hb.size⟩
theorem PlSt.num (h : PlSt w0 w b q n size o1 h1 d1 o2 h2 d2) (hA : Sents w0 A) (x most : Int) :
    Calls Tryd.prog 19 #[eV A (ask x most)] w fun e w' => e = .returned (n64 (ask x most)) ∧ PlSt w0 w' b q n size o1 h1 d1 o2 h2 d2 :=
  (num_all w A (hA.below h.below (Nat.le_refl _)) x most).mono fun e w' ⟨h1, h2⟩ => ⟨h1, h.step h2⟩
theorem PlSt.putS (h : PlSt w0 w b q n size o1 h1 d1 o2 h2 d2) (hb : w0.heap.size ≤ b) (hbq : b + 3 < q) (hp : Put b #[n64 size, n64 o] 57 w w') : PlSt w0 w' b q n size o h1 d1 o2 h2 d2 :=
  ⟨hp.below h.below hb, (hp.cell (p := ⟨q, 1, none⟩) (by show q ≠ b; omega)).trans h.arg, hp.blk, hp.keeps h.r (by omega), hp.keeps h.m (by omega), hp.keeps h.k (by omega), by rw [hp.size]; exact h.hq⟩
theorem PlSt.putR (h' : PlSt w0 w b q n size o1 h1 d1 o2 h2 d2) (hb : w0.heap.size ≤ b) (hbq : b + 3 < q) (hp : Put (b + 1) #[n64 size, n64 h, n64 d] 60 w w') : PlSt w0 w' b q n size o1 h d o2 h2 d2 :=
  ⟨hp.below h'.below (by omega), (hp.cell (p := ⟨q, 1, none⟩) (by show q ≠ b + 1; omega)).trans h'.arg, hp.keeps h'.s (by omega), hp.blk, hp.keeps h'.m (by omega), hp.keeps h'.k (by omega), by rw [hp.size]; exact h'.hq⟩
theorem PlSt.putM (h : PlSt w0 w b q n size o1 h1 d1 o2 h2 d2) (hb : w0.heap.size ≤ b) (hbq : b + 3 < q) (hp : Put (b + 2) #[n64 size, n64 o] 43 w w') : PlSt w0 w' b q n size o1 h1 d1 o h2 d2 :=
  ⟨hp.below h.below (by omega), (hp.cell (p := ⟨q, 1, none⟩) (by show q ≠ b + 2; omega)).trans h.arg, hp.keeps h.s (by omega), hp.keeps h.r (by omega), hp.blk, hp.keeps h.k (by omega), by rw [hp.size]; exact h.hq⟩
theorem PlSt.putK (h' : PlSt w0 w b q n size o1 h1 d1 o2 h2 d2) (hb : w0.heap.size ≤ b) (hbq : b + 3 < q) (hp : Put (b + 3) #[n64 size, n64 h, n64 d] 46 w w') : PlSt w0 w' b q n size o1 h1 d1 o2 h d :=
  ⟨hp.below h'.below (by omega), (hp.cell (p := ⟨q, 1, none⟩) (by show q ≠ b + 3; omega)).trans h'.arg, hp.keeps h'.s (by omega), hp.keeps h'.r (by omega), hp.keeps h'.m (by omega), hp.blk, by rw [hp.size]; exact h'.hq⟩
end

/-- The numbers' bounds. -/
structure PlOk (size out held due : Int) : Prop where
  s1 : 1 ≤ size
  s2 : size ≤ 65536
  o1 : 0 ≤ out
  o2 : out ≤ size
  h1 : 0 ≤ held
  d1 : 0 ≤ due
  hd : held + due ≤ size
theorem PlOk.spend {size out held due n : Int} (h : PlOk size out held due) : PlOk size (outS out n size) held due := by
  obtain ⟨a1, a2, a3, a4, a5, a6, a7⟩ := h
  unfold outS
  rcases ask_cases n (size - out) with ⟨_, e⟩ | ⟨_, _, e⟩ | ⟨_, _, e⟩ <;> rw [e]
  · exact ⟨a1, a2, a3, a4, a5, a6, a7⟩
  · exact ⟨a1, a2, a3, a4, a5, a6, a7⟩
  · exact ⟨a1, a2, by show 0 ≤ out + n; omega, by show out + n ≤ size; omega, a5, a6, a7⟩
theorem PlOk.grant {size out held due n : Int} (h : PlOk size out held due) : PlOk size (outG out n) held due := by
  obtain ⟨a1, a2, a3, a4, a5, a6, a7⟩ := h
  unfold outG
  rcases ask_cases n out with ⟨_, e⟩ | ⟨_, _, e⟩ | ⟨_, _, e⟩ <;> rw [e]
  · exact ⟨a1, a2, a3, a4, a5, a6, a7⟩
  · exact ⟨a1, a2, a3, a4, a5, a6, a7⟩
  · exact ⟨a1, a2, by show 0 ≤ out - n; omega, by show out - n ≤ size; omega, a5, a6, a7⟩
theorem PlOk.came {size out held due n : Int} (h : PlOk size out held due) : PlOk size out (heldC held due n size) due := by
  obtain ⟨a1, a2, a3, a4, a5, a6, a7⟩ := h
  unfold heldC
  rcases ask_cases n (size - held - due) with ⟨_, e⟩ | ⟨_, _, e⟩ | ⟨_, _, e⟩ <;> rw [e]
  · exact ⟨a1, a2, a3, a4, a5, a6, a7⟩
  · exact ⟨a1, a2, a3, a4, a5, a6, a7⟩
  · exact ⟨a1, a2, a3, a4, by show 0 ≤ held + n; omega, a6, by show held + n + due ≤ size; omega⟩
theorem PlOk.use {size out held due n : Int} (h : PlOk size out held due) : PlOk size out (heldU held n) (dueU held due n) := by
  obtain ⟨a1, a2, a3, a4, a5, a6, a7⟩ := h
  unfold heldU dueU
  rcases ask_cases n held with ⟨_, e⟩ | ⟨_, _, e⟩ | ⟨_, _, e⟩ <;> rw [e]
  · exact ⟨a1, a2, a3, a4, a5, a6, a7⟩
  · exact ⟨a1, a2, a3, a4, a5, a6, a7⟩
  · exact ⟨a1, a2, a3, a4, by show 0 ≤ held - n; omega, by show 0 ≤ due + n; omega, by show held - n + (due + n) ≤ size; omega⟩
theorem PlOk.paid {size out held due n : Int} (h : PlOk size out held due) : PlOk size out held (dueP due n) := by
  obtain ⟨a1, a2, a3, a4, a5, a6, a7⟩ := h
  unfold dueP
  rcases ask_cases n due with ⟨_, e⟩ | ⟨_, _, e⟩ | ⟨_, _, e⟩ <;> rw [e]
  · exact ⟨a1, a2, a3, a4, a5, a6, a7⟩
  · exact ⟨a1, a2, a3, a4, a5, a6, a7⟩
  · exact ⟨a1, a2, a3, a4, a5, by show 0 ≤ due - n; omega, by show held + (due - n) ≤ size; omega⟩
end Go.Proofs.YtfklkkckfikfoaaDoor
