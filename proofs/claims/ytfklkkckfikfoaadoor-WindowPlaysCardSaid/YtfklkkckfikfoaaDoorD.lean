/- The models' methods (the document's answer): what each call comes to. Printed by a program of this work. -/
import Derived.Test.YtfklkkckfikfoaaDoorC
namespace Go.Proofs.YtfklkkckfikfoaaDoor
open Go.RowKit Jw

section
variable {w : World} {b : Nat} {size out held due n : Int}

theorem rspend_neg (h : Blk w b #[n64 size, n64 out] 43) (hs : 0 ≤ size) (hs2 : size ≤ 65536) (ho : 0 ≤ out) (ho2 : out ≤ size) (hn : n < 0) :
    Calls Tryd.prog 20 #[pt b, n64 n] w fun e w' => e = .returned (n64 1) ∧ ∃ k, w' = w.drewN k := by
  have h0 := h.cell 0 (n64 size) rfl
  have h1 := h.cell 1 (n64 out) rfl
  have e1 : IntKind.i64.wrap (size - out) = size - out := IntWalk.i64_in _ (by omega)
  go_enter Tryd.func20, Tryd.ntmps20
  go_wp2_with fail
  go_quiet ((go_at_call 33; refine quiet_eq (ask_neg _ _ hn)))
  go_wp2
  go_ret
  exact ⟨rfl, _, rfl⟩
theorem rspend_over (h : Blk w b #[n64 size, n64 out] 43) (hs : 0 ≤ size) (hs2 : size ≤ 65536) (ho : 0 ≤ out) (ho2 : out ≤ size) (hn : 0 ≤ n) (hn2 : size - out < n) :
    Calls Tryd.prog 20 #[pt b, n64 n] w fun e w' => e = .returned (n64 15) ∧ ∃ k, w' = w.drewN k := by
  have h0 := h.cell 0 (n64 size) rfl
  have h1 := h.cell 1 (n64 out) rfl
  have e1 : IntKind.i64.wrap (size - out) = size - out := IntWalk.i64_in _ (by omega)
  go_enter Tryd.func20, Tryd.ntmps20
  go_wp2_with fail
  go_quiet ((go_at_call 33; refine quiet_eq (ask_over _ _ hn hn2)))
  go_wp2
  go_ret
  exact ⟨rfl, _, rfl⟩
theorem rspend_ok (h : Blk w b #[n64 size, n64 out] 43) (hs : 0 ≤ size) (hs2 : size ≤ 65536) (ho : 0 ≤ out) (ho2 : out ≤ size) (hn : 0 ≤ n) (hn2 : n ≤ size - out) :
    Calls Tryd.prog 20 #[pt b, n64 n] w fun e w' => e = .returned (n64 0) ∧ Put b #[n64 size, n64 (out + n)] 43 w w' := by
  have h0 := h.cell 0 (n64 size) rfl
  have h1 := h.cell 1 (n64 out) rfl
  have hf1 := h.free 1
  have e1 : IntKind.i64.wrap (size - out) = size - out := IntWalk.i64_in _ (by omega)
  go_enter Tryd.func20, Tryd.ntmps20
  go_wp2_with fail
  go_quiet ((go_at_call 33; refine quiet_eq (ask_ok _ _ hn hn2)))
  go_wp2
  go_ret
  exact ⟨rfl, by exact (((Put.self h).drewN _).set 1 _)⟩
theorem rgrant_neg (h : Blk w b #[n64 size, n64 out] 43) (ho : out ≤ 65536) (hn : n < 0) :
    Calls Tryd.prog 21 #[pt b, n64 n] w fun e w' => e = .returned (n64 1) ∧ ∃ k, w' = w.drewN k := by
  have h0 := h.cell 0 (n64 size) rfl
  have h1 := h.cell 1 (n64 out) rfl
  go_enter Tryd.func21, Tryd.ntmps21
  go_wp2_with (go_at_call 33; refine (ask_neg _ _ hn).mono ?_; rintro e w' ⟨rfl, rfl⟩)
  go_ret
  exact ⟨rfl, 0, rfl⟩
theorem rgrant_over (h : Blk w b #[n64 size, n64 out] 43) (ho : out ≤ 65536) (hn : 0 ≤ n) (hn2 : out < n) :
    Calls Tryd.prog 21 #[pt b, n64 n] w fun e w' => e = .returned (n64 15) ∧ ∃ k, w' = w.drewN k := by
  have h0 := h.cell 0 (n64 size) rfl
  have h1 := h.cell 1 (n64 out) rfl
  go_enter Tryd.func21, Tryd.ntmps21
  go_wp2_with (go_at_call 33; refine (ask_over _ _ hn hn2).mono ?_; rintro e w' ⟨rfl, rfl⟩)
  go_ret
  exact ⟨rfl, 0, rfl⟩
theorem rgrant_ok (h : Blk w b #[n64 size, n64 out] 43) (ho : out ≤ 65536) (hn : 0 ≤ n) (hn2 : n ≤ out) :
    Calls Tryd.prog 21 #[pt b, n64 n] w fun e w' => e = .returned (n64 0) ∧ Put b #[n64 size, n64 (out - n)] 43 w w' := by
  have h0 := h.cell 0 (n64 size) rfl
  have h1 := h.cell 1 (n64 out) rfl
  have hf1 := h.free 1
  go_enter Tryd.func21, Tryd.ntmps21
  go_wp2_with (go_at_call 33; refine (ask_ok _ _ hn hn2).mono ?_; rintro e w' ⟨rfl, rfl⟩)
  go_ret
  exact ⟨rfl, by exact ((Put.self h).set 1 _)⟩
theorem rcame_neg (h : Blk w b #[n64 size, n64 held, n64 due] 46) (hs : 0 ≤ size) (hs2 : size ≤ 65536) (ho : 0 ≤ held) (ho2 : 0 ≤ due) (ho3 : held + due ≤ size) (hn : n < 0) :
    Calls Tryd.prog 23 #[pt b, n64 n] w fun e w' => e = .returned (n64 1) ∧ ∃ k, w' = w.drewN k := by
  have h0 := h.cell 0 (n64 size) rfl
  have h1 := h.cell 1 (n64 held) rfl
  have h2 := h.cell 2 (n64 due) rfl
  have e1 : IntKind.i64.wrap (size - held) = size - held := IntWalk.i64_in _ (by omega)
  have e2 : IntKind.i64.wrap (size - held - due) = size - held - due := IntWalk.i64_in _ (by omega)
  go_enter Tryd.func23, Tryd.ntmps23
  go_wp2_with fail
  go_quiet ((go_at_call 33; refine quiet_eq (ask_neg _ _ hn)))
  go_wp2
  go_ret
  exact ⟨rfl, _, rfl⟩
theorem rcame_over (h : Blk w b #[n64 size, n64 held, n64 due] 46) (hs : 0 ≤ size) (hs2 : size ≤ 65536) (ho : 0 ≤ held) (ho2 : 0 ≤ due) (ho3 : held + due ≤ size) (hn : 0 ≤ n) (hn2 : size - held - due < n) :
    Calls Tryd.prog 23 #[pt b, n64 n] w fun e w' => e = .returned (n64 15) ∧ ∃ k, w' = w.drewN k := by
  have h0 := h.cell 0 (n64 size) rfl
  have h1 := h.cell 1 (n64 held) rfl
  have h2 := h.cell 2 (n64 due) rfl
  have e1 : IntKind.i64.wrap (size - held) = size - held := IntWalk.i64_in _ (by omega)
  have e2 : IntKind.i64.wrap (size - held - due) = size - held - due := IntWalk.i64_in _ (by omega)
  go_enter Tryd.func23, Tryd.ntmps23
  go_wp2_with fail
  go_quiet ((go_at_call 33; refine quiet_eq (ask_over _ _ hn hn2)))
  go_wp2
  go_ret
  exact ⟨rfl, _, rfl⟩
theorem rcame_ok (h : Blk w b #[n64 size, n64 held, n64 due] 46) (hs : 0 ≤ size) (hs2 : size ≤ 65536) (ho : 0 ≤ held) (ho2 : 0 ≤ due) (ho3 : held + due ≤ size) (hn : 0 ≤ n) (hn2 : n ≤ size - held - due) :
    Calls Tryd.prog 23 #[pt b, n64 n] w fun e w' => e = .returned (n64 0) ∧ Put b #[n64 size, n64 (held + n), n64 due] 46 w w' := by
  have h0 := h.cell 0 (n64 size) rfl
  have h1 := h.cell 1 (n64 held) rfl
  have h2 := h.cell 2 (n64 due) rfl
  have hf1 := h.free 1
  have e1 : IntKind.i64.wrap (size - held) = size - held := IntWalk.i64_in _ (by omega)
  have e2 : IntKind.i64.wrap (size - held - due) = size - held - due := IntWalk.i64_in _ (by omega)
  go_enter Tryd.func23, Tryd.ntmps23
  go_wp2_with fail
  go_quiet ((go_at_call 33; refine quiet_eq (ask_ok _ _ hn hn2)))
  go_wp2
  go_ret
  exact ⟨rfl, by exact (((Put.self h).drewN _).set 1 _)⟩
theorem ruse_neg (h : Blk w b #[n64 size, n64 held, n64 due] 46) (ho : held ≤ 65536) (ho2 : 0 ≤ due) (ho3 : held + due ≤ 65536) (hn : n < 0) :
    Calls Tryd.prog 25 #[pt b, n64 n] w fun e w' => e = .returned (n64 1) ∧ ∃ k, w' = w.drewN k := by
  have h0 := h.cell 0 (n64 size) rfl
  have h1 := h.cell 1 (n64 held) rfl
  have h2 := h.cell 2 (n64 due) rfl
  go_enter Tryd.func25, Tryd.ntmps25
  go_wp2_with (go_at_call 33; refine (ask_neg _ _ hn).mono ?_; rintro e w' ⟨rfl, rfl⟩)
  go_ret
  exact ⟨rfl, 0, rfl⟩
theorem ruse_over (h : Blk w b #[n64 size, n64 held, n64 due] 46) (ho : held ≤ 65536) (ho2 : 0 ≤ due) (ho3 : held + due ≤ 65536) (hn : 0 ≤ n) (hn2 : held < n) :
    Calls Tryd.prog 25 #[pt b, n64 n] w fun e w' => e = .returned (n64 15) ∧ ∃ k, w' = w.drewN k := by
  have h0 := h.cell 0 (n64 size) rfl
  have h1 := h.cell 1 (n64 held) rfl
  have h2 := h.cell 2 (n64 due) rfl
  go_enter Tryd.func25, Tryd.ntmps25
  go_wp2_with (go_at_call 33; refine (ask_over _ _ hn hn2).mono ?_; rintro e w' ⟨rfl, rfl⟩)
  go_ret
  exact ⟨rfl, 0, rfl⟩
theorem ruse_ok (h : Blk w b #[n64 size, n64 held, n64 due] 46) (ho : held ≤ 65536) (ho2 : 0 ≤ due) (ho3 : held + due ≤ 65536) (hn : 0 ≤ n) (hn2 : n ≤ held) :
    Calls Tryd.prog 25 #[pt b, n64 n] w fun e w' => e = .returned (n64 0) ∧ Put b #[n64 size, n64 (held - n), n64 (due + n)] 46 w w' := by
  have h0 := h.cell 0 (n64 size) rfl
  have h1 := h.cell 1 (n64 held) rfl
  have h2 := h.cell 2 (n64 due) rfl
  have hf1 := h.free 1
  have hf2 := h.free 2
  go_enter Tryd.func25, Tryd.ntmps25
  go_wp2_with (go_at_call 33; refine (ask_ok _ _ hn hn2).mono ?_; rintro e w' ⟨rfl, rfl⟩)
  go_ret
  exact ⟨rfl, by exact (((Put.self h).set 1 _).set 2 _)⟩
theorem rpaid_neg (h : Blk w b #[n64 size, n64 held, n64 due] 46) (ho : due ≤ 65536) (hn : n < 0) :
    Calls Tryd.prog 27 #[pt b, n64 n] w fun e w' => e = .returned (n64 1) ∧ ∃ k, w' = w.drewN k := by
  have h0 := h.cell 0 (n64 size) rfl
  have h1 := h.cell 1 (n64 held) rfl
  have h2 := h.cell 2 (n64 due) rfl
  go_enter Tryd.func27, Tryd.ntmps27
  go_wp2_with (go_at_call 33; refine (ask_neg _ _ hn).mono ?_; rintro e w' ⟨rfl, rfl⟩)
  go_ret
  exact ⟨rfl, 0, rfl⟩
theorem rpaid_over (h : Blk w b #[n64 size, n64 held, n64 due] 46) (ho : due ≤ 65536) (hn : 0 ≤ n) (hn2 : due < n) :
    Calls Tryd.prog 27 #[pt b, n64 n] w fun e w' => e = .returned (n64 15) ∧ ∃ k, w' = w.drewN k := by
  have h0 := h.cell 0 (n64 size) rfl
  have h1 := h.cell 1 (n64 held) rfl
  have h2 := h.cell 2 (n64 due) rfl
  go_enter Tryd.func27, Tryd.ntmps27
  go_wp2_with (go_at_call 33; refine (ask_over _ _ hn hn2).mono ?_; rintro e w' ⟨rfl, rfl⟩)
  go_ret
  exact ⟨rfl, 0, rfl⟩
theorem rpaid_ok (h : Blk w b #[n64 size, n64 held, n64 due] 46) (ho : due ≤ 65536) (hn : 0 ≤ n) (hn2 : n ≤ due) :
    Calls Tryd.prog 27 #[pt b, n64 n] w fun e w' => e = .returned (n64 0) ∧ Put b #[n64 size, n64 held, n64 (due - n)] 46 w w' := by
  have h0 := h.cell 0 (n64 size) rfl
  have h1 := h.cell 1 (n64 held) rfl
  have h2 := h.cell 2 (n64 due) rfl
  have hf2 := h.free 2
  go_enter Tryd.func27, Tryd.ntmps27
  go_wp2_with (go_at_call 33; refine (ask_ok _ _ hn hn2).mono ?_; rintro e w' ⟨rfl, rfl⟩)
  go_ret
  exact ⟨rfl, by exact ((Put.self h).set 2 _)⟩
theorem now_all (h : Blk w b #[n64 size, n64 held, n64 due] 46) :
    Calls Tryd.prog 30 #[pt b, .bool true] w fun e w' => e = .returned (n64 due) ∧ ∃ k, w' = w.drewN k := by
  have h1 := h.cell 2 (n64 due) rfl
  go_enter Tryd.func30, Tryd.ntmps30
  go_wp2
  go_quiet (fail)
  go_wp2
  go_ret
  exact ⟨rfl, _, rfl⟩
theorem now_not (h : Blk w b #[n64 size, n64 held, n64 due] 46) (hd0 : 0 ≤ due) (hd1 : due ≤ 65536) :
    Calls Tryd.prog 30 #[pt b, .bool false] w fun e w' => e = .returned (n64 (if size ≤ 2 * due then due else 0)) ∧ ∃ k, w' = w.drewN k := by
  have h0 := h.cell 0 (n64 size) rfl
  have h1 := h.cell 2 (n64 due) rfl
  have e1 : IntKind.i64.wrap (2 * due) = 2 * due := IntWalk.i64_in _ (by omega)
  by_cases hd : size ≤ 2 * due
  · have hd' : decide (size ≤ 2 * due) = true := by simpa using hd
    rw [if_pos hd]
    go_enter Tryd.func30, Tryd.ntmps30
    go_wp2
    go_quiet (fail)
    go_wp2
    go_ret
    exact ⟨rfl, _, rfl⟩
  · have hd' : decide (size ≤ 2 * due) = false := by simpa using hd
    rw [if_neg hd]
    go_enter Tryd.func30, Tryd.ntmps30
    go_wp2
    go_quiet (fail)
    go_wp2
    go_ret
    exact ⟨rfl, _, rfl⟩
end
end Go.Proofs.YtfklkkckfikfoaaDoor
