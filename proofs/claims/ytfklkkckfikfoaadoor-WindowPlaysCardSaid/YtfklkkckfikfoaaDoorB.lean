/- The methods of the sender's and the receiver's windows, and of their models: what each call comes to. -/
import Derived.Test.YtfklkkckfikfoaaDoorA
namespace Go.Proofs.YtfklkkckfikfoaaDoor
open Go.RowKit Jw

section
variable {aR aW : Addr} {w : World} {b : Nat} {size out held due n : Int}

theorem left_any (h : Blk w b #[n64 size, n64 out] 57) (hs : 0 ≤ size) (hs2 : size ≤ 65536) (ho : 0 ≤ out) (ho2 : out ≤ size) :
    Calls Tryd.prog 14 #[pt b] w fun e w' => e = .returned (n64 (size - out)) ∧ ∃ k, w' = w.drewN k := by
  have h0 := h.cell 0 (n64 size) rfl
  have h1 := h.cell 1 (n64 out) rfl
  clear h
  go_enter Tryd.func14, Tryd.ntmps14
  go_wp2
  go_quiet (fail)
  go_wp2
  go_ret
  exact ⟨rfl, _, rfl⟩
theorem out_any (h : Blk w b #[n64 size, n64 out] 57) :
    Calls Tryd.prog 17 #[pt b] w fun e w' => e = .returned (n64 out) ∧ w = w' := by
  have h1 := h.cell 1 (n64 out) rfl
  clear h
  go_enter Tryd.func17, Tryd.ntmps17
  go_wp2
  go_ret
  exact ⟨rfl, rfl⟩
theorem held_any (h : Blk w b #[n64 size, n64 held, n64 due] 60) :
    Calls Tryd.prog 28 #[pt b] w fun e w' => e = .returned (n64 held) ∧ w = w' := by
  have h1 := h.cell 1 (n64 held) rfl
  clear h
  go_enter Tryd.func28, Tryd.ntmps28
  go_wp2
  go_ret
  exact ⟨rfl, rfl⟩

/-- What a call that may refuse answers: the error. -/
theorem spend_neg (h : Blk w b #[n64 size, n64 out] 57) (hs : 0 ≤ size) (hs2 : size ≤ 65536) (ho : 0 ≤ out) (ho2 : out ≤ size) (hR : w.cell? ⟨0, 0, none⟩ = some (er aR)) (hn : n < 0) :
    Calls Tryd.prog 15 #[pt b, n64 n] w fun e w' => e = .returned (er aR) ∧ ∃ k, w' = w.drewN k := by
  go_enter Tryd.func15, Tryd.ntmps15
  go_wp2_with (first | (go_at_call 14; refine (left_any h hs hs2 ho ho2).mono ?_; rintro e w' ⟨rfl, k, rfl⟩) | (go_at_call 32; refine (within_neg _ _ (by exact hR) hn).mono ?_; rintro e w' ⟨rfl, rfl⟩))
  go_ret
  exact ⟨rfl, _, rfl⟩
theorem spend_over (h : Blk w b #[n64 size, n64 out] 57) (hs : 0 ≤ size) (hs2 : size ≤ 65536) (ho : 0 ≤ out) (ho2 : out ≤ size) (hW : w.cell? ⟨14, 0, none⟩ = some (er aW)) (hn : 0 ≤ n) (hn2 : size - out < n) :
    Calls Tryd.prog 15 #[pt b, n64 n] w fun e w' => e = .returned (er aW) ∧ ∃ k, w' = w.drewN k := by
  go_enter Tryd.func15, Tryd.ntmps15
  go_wp2_with (first | (go_at_call 14; refine (left_any h hs hs2 ho ho2).mono ?_; rintro e w' ⟨rfl, k, rfl⟩) | (go_at_call 32; refine (within_over _ _ (by exact hW) hn hn2).mono ?_; rintro e w' ⟨rfl, rfl⟩))
  go_ret
  exact ⟨rfl, _, rfl⟩
theorem spend_ok (h : Blk w b #[n64 size, n64 out] 57) (hs : 0 ≤ size) (hs2 : size ≤ 65536) (ho : 0 ≤ out) (ho2 : out ≤ size) (hn : 0 ≤ n) (hn2 : n ≤ size - out) :
    Calls Tryd.prog 15 #[pt b, n64 n] w fun e w' => e = .returned .nilIface ∧ Put b #[n64 size, n64 (out + n)] 57 w w' := by
  have h1 := h.cell 1 (n64 out) rfl
  have hf := h.free 1
  go_enter Tryd.func15, Tryd.ntmps15
  go_wp2_with (first | (go_at_call 14; refine (left_any h hs hs2 ho ho2).mono ?_; rintro e w' ⟨rfl, k, rfl⟩) | (go_at_call 32; refine (within_ok _ _ hn hn2).mono ?_; rintro e w' ⟨rfl, rfl⟩))
  go_ret
  exact ⟨rfl, by exact (((Put.self h).drewN _).set 1 _)⟩
end
end Go.Proofs.YtfklkkckfikfoaaDoor
