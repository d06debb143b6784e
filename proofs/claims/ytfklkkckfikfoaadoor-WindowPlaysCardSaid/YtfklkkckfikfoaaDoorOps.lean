/- Each call of a window beside the reference's: one contract each, for all arguments. -/
import Derived.Test.YtfklkkckfikfoaaDoorErrs
set_option linter.unusedVariables false
set_option linter.unusedSimpArgs false
namespace Go.Proofs.YtfklkkckfikfoaaDoor
open Go.RowKit Jw Jf Go.Deep

/-- What a call answers, by number: within 0 and most. -/
def ask (n most : Int) : Int := if n < 0 then 1 else if most < n then 15 else 0
/-- The error of a number. -/
def eV (A : Nat → Addr) (c : Int) : Value := if c = 1 then er (A 0) else if c = 15 then er (A 14) else .nilIface
theorem ask_cases (n most : Int) : (n < 0 ∧ ask n most = 1) ∨ (0 ≤ n ∧ most < n ∧ ask n most = 15) ∨ (0 ≤ n ∧ n ≤ most ∧ ask n most = 0) := by
  unfold ask
  by_cases h1 : n < 0
  · exact .inl ⟨h1, by rw [if_pos h1]⟩
  · by_cases h2 : most < n
    · exact .inr (.inl ⟨by omega, h2, by rw [if_neg h1, if_pos h2]⟩)
    · exact .inr (.inr ⟨by omega, by omega, by rw [if_neg h1, if_neg h2]⟩)

theorem num_all (w : World) (A : Nat → Addr) (h : Sents w A) (n most : Int) : Calls Tryd.prog 19 #[eV A (ask n most)] w fun e w' => e = .returned (n64 (ask n most)) ∧ Below w.heap.size w w' := by
  rcases ask_cases n most with ⟨_, e⟩ | ⟨_, _, e⟩ | ⟨_, _, e⟩ <;> rw [e]
  · exact num_at w A h 0 (by decide)
  · exact num_at w A h 14 (by decide)
  · exact (num_nil w).mono fun e w' ⟨h1, h2⟩ => ⟨h1, by rw [← h2]; exact Below.refl _ _⟩

theorem put_drewN {w : World} {b : Nat} {cs : Array Value} {t : TypeId} (h : Blk w b cs t) (k : Nat) : Put b cs t w (w.drewN k) := (Put.self h).drewN k

/-- What is out, behind a call that asks for n. -/
def outS (out n size : Int) : Int := if ask n (size - out) = 0 then out + n else out
def outG (out n : Int) : Int := if ask n out = 0 then out - n else out

section
variable {w : World} {b : Nat} {size out held due n : Int} {A : Nat → Addr}

theorem spend_all (h : Blk w b #[n64 size, n64 out] 57) (hs : 0 ≤ size) (hs2 : size ≤ 65536) (ho : 0 ≤ out) (ho2 : out ≤ size) (hA : Sents w A) :
    Calls Tryd.prog 15 #[pt b, n64 n] w fun e w' => e = .returned (eV A (ask n (size - out))) ∧ Put b #[n64 size, n64 (outS out n size)] 57 w w' := by
  unfold outS
  rcases ask_cases n (size - out) with ⟨h1, e⟩ | ⟨h1, h2, e⟩ | ⟨h1, h2, e⟩ <;> rw [e]
  · exact (spend_neg h hs hs2 ho ho2 (hA.cell 0 (by decide)) h1).mono fun e w' ⟨q, k, hk⟩ => ⟨q, by rw [hk]; exact put_drewN h k⟩
  · exact (spend_over h hs hs2 ho ho2 (hA.cell 14 (by decide)) h1 h2).mono fun e w' ⟨q, k, hk⟩ => ⟨q, by rw [hk]; exact put_drewN h k⟩
  · exact spend_ok h hs hs2 ho ho2 h1 h2
theorem rspend_all (h : Blk w b #[n64 size, n64 out] 43) (hs : 0 ≤ size) (hs2 : size ≤ 65536) (ho : 0 ≤ out) (ho2 : out ≤ size) :
    Calls Tryd.prog 20 #[pt b, n64 n] w fun e w' => e = .returned (n64 (ask n (size - out))) ∧ Put b #[n64 size, n64 (outS out n size)] 43 w w' := by
  unfold outS
  rcases ask_cases n (size - out) with ⟨h1, e⟩ | ⟨h1, h2, e⟩ | ⟨h1, h2, e⟩ <;> rw [e]
  · exact (rspend_neg h hs hs2 ho ho2 h1).mono fun e w' ⟨q, k, hk⟩ => ⟨q, by rw [hk]; exact put_drewN h k⟩
  · exact (rspend_over h hs hs2 ho ho2 h1 h2).mono fun e w' ⟨q, k, hk⟩ => ⟨q, by rw [hk]; exact put_drewN h k⟩
  · exact rspend_ok h hs hs2 ho ho2 h1 h2
theorem grant_all (h : Blk w b #[n64 size, n64 out] 57) (ho : out ≤ 65536) (hA : Sents w A) :
    Calls Tryd.prog 16 #[pt b, n64 n] w fun e w' => e = .returned (eV A (ask n out)) ∧ Put b #[n64 size, n64 (outG out n)] 57 w w' := by
  unfold outG
  rcases ask_cases n out with ⟨h1, e⟩ | ⟨h1, h2, e⟩ | ⟨h1, h2, e⟩ <;> rw [e]
  · exact (grant_neg h (hA.cell 0 (by decide)) h1).mono fun e w' ⟨q, hk⟩ => ⟨q, by rw [← hk]; exact Put.self h⟩
  · exact (grant_over h (hA.cell 14 (by decide)) h1 h2).mono fun e w' ⟨q, hk⟩ => ⟨q, by rw [← hk]; exact Put.self h⟩
  · exact grant_ok h ho h1 h2
theorem rgrant_all (h : Blk w b #[n64 size, n64 out] 43) (ho : out ≤ 65536) :
    Calls Tryd.prog 21 #[pt b, n64 n] w fun e w' => e = .returned (n64 (ask n out)) ∧ Put b #[n64 size, n64 (outG out n)] 43 w w' := by
  unfold outG
  rcases ask_cases n out with ⟨h1, e⟩ | ⟨h1, h2, e⟩ | ⟨h1, h2, e⟩ <;> rw [e]
  · exact (rgrant_neg h ho h1).mono fun e w' ⟨q, k, hk⟩ => ⟨q, by rw [hk]; exact put_drewN h k⟩
  · exact (rgrant_over h ho h1 h2).mono fun e w' ⟨q, k, hk⟩ => ⟨q, by rw [hk]; exact put_drewN h k⟩
  · exact rgrant_ok h ho h1 h2
end

def heldC (held due n size : Int) : Int := if ask n (size - held - due) = 0 then held + n else held
def heldU (held n : Int) : Int := if ask n held = 0 then held - n else held
def dueU (held due n : Int) : Int := if ask n held = 0 then due + n else due
def dueP (due n : Int) : Int := if ask n due = 0 then due - n else due
section
variable {w : World} {b : Nat} {size out held due n : Int} {A : Nat → Addr}

theorem came_all (h : Blk w b #[n64 size, n64 held, n64 due] 60) (hs : 0 ≤ size) (hs2 : size ≤ 65536) (ho : 0 ≤ held) (ho2 : 0 ≤ due) (ho3 : held + due ≤ size) (hA : Sents w A) :
    Calls Tryd.prog 22 #[pt b, n64 n] w fun e w' => e = .returned (eV A (ask n (size - held - due))) ∧ Put b #[n64 size, n64 (heldC held due n size), n64 due] 60 w w' := by
  unfold heldC
  rcases ask_cases n ((size - held - due)) with ⟨h1, e⟩ | ⟨h1, h2, e⟩ | ⟨h1, h2, e⟩ <;> rw [e]
  · exact (came_neg h hs hs2 ho ho2 ho3 (hA.cell 0 (by decide)) h1).mono fun e w' ⟨q, k, hk⟩ => ⟨q, by rw [hk]; exact put_drewN h k⟩
  · exact (came_over h hs hs2 ho ho2 ho3 (hA.cell 14 (by decide)) h1 h2).mono fun e w' ⟨q, k, hk⟩ => ⟨q, by rw [hk]; exact put_drewN h k⟩
  · exact came_ok h hs hs2 ho ho2 ho3 h1 h2
theorem rcame_all (h : Blk w b #[n64 size, n64 held, n64 due] 46) (hs : 0 ≤ size) (hs2 : size ≤ 65536) (ho : 0 ≤ held) (ho2 : 0 ≤ due) (ho3 : held + due ≤ size) :
    Calls Tryd.prog 23 #[pt b, n64 n] w fun e w' => e = .returned (n64 (ask n (size - held - due))) ∧ Put b #[n64 size, n64 (heldC held due n size), n64 due] 46 w w' := by
  unfold heldC
  rcases ask_cases n ((size - held - due)) with ⟨h1, e⟩ | ⟨h1, h2, e⟩ | ⟨h1, h2, e⟩ <;> rw [e]
  · exact (rcame_neg h hs hs2 ho ho2 ho3 h1).mono fun e w' ⟨q, k, hk⟩ => ⟨q, by rw [hk]; exact put_drewN h k⟩
  · exact (rcame_over h hs hs2 ho ho2 ho3 h1 h2).mono fun e w' ⟨q, k, hk⟩ => ⟨q, by rw [hk]; exact put_drewN h k⟩
  · exact rcame_ok h hs hs2 ho ho2 ho3 h1 h2
theorem use_all (h : Blk w b #[n64 size, n64 held, n64 due] 60) (hs : 0 ≤ size) (hs2 : size ≤ 65536) (ho : 0 ≤ held) (ho2 : 0 ≤ due) (ho3 : held + due ≤ size) (hA : Sents w A) :
    Calls Tryd.prog 24 #[pt b, n64 n] w fun e w' => e = .returned (eV A (ask n held)) ∧ Put b #[n64 size, n64 (heldU held n), n64 (dueU held due n)] 60 w w' := by
  unfold heldU dueU
  rcases ask_cases n (held) with ⟨h1, e⟩ | ⟨h1, h2, e⟩ | ⟨h1, h2, e⟩ <;> rw [e]
  · exact (use_neg h (hA.cell 0 (by decide)) h1).mono fun e w' ⟨q, hk⟩ => ⟨q, by rw [← hk]; exact Put.self h⟩
  · exact (use_over h (hA.cell 14 (by decide)) h1 h2).mono fun e w' ⟨q, hk⟩ => ⟨q, by rw [← hk]; exact Put.self h⟩
  · exact use_ok h (by omega) ho2 (by omega) h1 h2
theorem ruse_all (h : Blk w b #[n64 size, n64 held, n64 due] 46) (hs : 0 ≤ size) (hs2 : size ≤ 65536) (ho : 0 ≤ held) (ho2 : 0 ≤ due) (ho3 : held + due ≤ size) :
    Calls Tryd.prog 25 #[pt b, n64 n] w fun e w' => e = .returned (n64 (ask n held)) ∧ Put b #[n64 size, n64 (heldU held n), n64 (dueU held due n)] 46 w w' := by
  unfold heldU dueU
  rcases ask_cases n (held) with ⟨h1, e⟩ | ⟨h1, h2, e⟩ | ⟨h1, h2, e⟩ <;> rw [e]
  · exact (ruse_neg h (by omega) ho2 (by omega) h1).mono fun e w' ⟨q, k, hk⟩ => ⟨q, by rw [hk]; exact put_drewN h k⟩
  · exact (ruse_over h (by omega) ho2 (by omega) h1 h2).mono fun e w' ⟨q, k, hk⟩ => ⟨q, by rw [hk]; exact put_drewN h k⟩
  · exact ruse_ok h (by omega) ho2 (by omega) h1 h2
theorem paid_all (h : Blk w b #[n64 size, n64 held, n64 due] 60) (hs : 0 ≤ size) (hs2 : size ≤ 65536) (ho : 0 ≤ held) (ho2 : 0 ≤ due) (ho3 : held + due ≤ size) (hA : Sents w A) :
    Calls Tryd.prog 26 #[pt b, n64 n] w fun e w' => e = .returned (eV A (ask n due)) ∧ Put b #[n64 size, n64 held, n64 (dueP due n)] 60 w w' := by
  unfold dueP
  rcases ask_cases n (due) with ⟨h1, e⟩ | ⟨h1, h2, e⟩ | ⟨h1, h2, e⟩ <;> rw [e]
  · exact (paid_neg h (hA.cell 0 (by decide)) h1).mono fun e w' ⟨q, hk⟩ => ⟨q, by rw [← hk]; exact Put.self h⟩
  · exact (paid_over h (hA.cell 14 (by decide)) h1 h2).mono fun e w' ⟨q, hk⟩ => ⟨q, by rw [← hk]; exact Put.self h⟩
  · exact paid_ok h (by omega) h1 h2
theorem rpaid_all (h : Blk w b #[n64 size, n64 held, n64 due] 46) (hs : 0 ≤ size) (hs2 : size ≤ 65536) (ho : 0 ≤ held) (ho2 : 0 ≤ due) (ho3 : held + due ≤ size) :
    Calls Tryd.prog 27 #[pt b, n64 n] w fun e w' => e = .returned (n64 (ask n due)) ∧ Put b #[n64 size, n64 held, n64 (dueP due n)] 46 w w' := by
  unfold dueP
  rcases ask_cases n (due) with ⟨h1, e⟩ | ⟨h1, h2, e⟩ | ⟨h1, h2, e⟩ <;> rw [e]
  · exact (rpaid_neg h (by omega) h1).mono fun e w' ⟨q, k, hk⟩ => ⟨q, by rw [hk]; exact put_drewN h k⟩
  · exact (rpaid_over h (by omega) h1 h2).mono fun e w' ⟨q, k, hk⟩ => ⟨q, by rw [hk]; exact put_drewN h k⟩
  · exact rpaid_ok h (by omega) h1 h2
end
end Go.Proofs.YtfklkkckfikfoaaDoor
