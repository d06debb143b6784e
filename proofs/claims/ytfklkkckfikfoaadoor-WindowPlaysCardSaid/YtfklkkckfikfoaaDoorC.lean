/- More of the windows' methods, and their models'. -/
import Derived.Test.YtfklkkckfikfoaaDoorB
namespace Go.Proofs.YtfklkkckfikfoaaDoor
open Go.RowKit Jw

section
variable {aR aW : Addr} {w : World} {b : Nat} {size out held due n : Int}

theorem grant_neg (h : Blk w b #[n64 size, n64 out] 57) (hR : w.cell? ⟨0, 0, none⟩ = some (er aR)) (hn : n < 0) :
    Calls Tryd.prog 16 #[pt b, n64 n] w fun e w' => e = .returned (er aR) ∧ w = w' := by
  have h1 := h.cell 1 (n64 out) rfl
  go_enter Tryd.func16, Tryd.ntmps16
  go_wp2_with (go_at_call 32; refine (within_neg _ _ (by exact hR) hn).mono ?_; rintro e w' ⟨rfl, rfl⟩)
  go_ret
  exact ⟨rfl, rfl⟩
theorem grant_over (h : Blk w b #[n64 size, n64 out] 57) (hW : w.cell? ⟨14, 0, none⟩ = some (er aW)) (hn : 0 ≤ n) (hn2 : out < n) :
    Calls Tryd.prog 16 #[pt b, n64 n] w fun e w' => e = .returned (er aW) ∧ w = w' := by
  have h1 := h.cell 1 (n64 out) rfl
  go_enter Tryd.func16, Tryd.ntmps16
  go_wp2_with (go_at_call 32; refine (within_over _ _ (by exact hW) hn hn2).mono ?_; rintro e w' ⟨rfl, rfl⟩)
  go_ret
  exact ⟨rfl, rfl⟩
theorem grant_ok (h : Blk w b #[n64 size, n64 out] 57) (hout : out ≤ 65536) (hn : 0 ≤ n) (hn2 : n ≤ out) :
    Calls Tryd.prog 16 #[pt b, n64 n] w fun e w' => e = .returned .nilIface ∧ Put b #[n64 size, n64 (out - n)] 57 w w' := by
  have h1 := h.cell 1 (n64 out) rfl
  have hf := h.free 1
  go_enter Tryd.func16, Tryd.ntmps16
  go_wp2_with (go_at_call 32; refine (within_ok _ _ hn hn2).mono ?_; rintro e w' ⟨rfl, rfl⟩)
  go_ret
  exact ⟨rfl, by exact ((Put.self h).set 1 _)⟩

-- the receiver
theorem came_neg (h : Blk w b #[n64 size, n64 held, n64 due] 60) (hs : 0 ≤ size) (hs2 : size ≤ 65536) (ho : 0 ≤ held) (ho2 : 0 ≤ due) (ho3 : held + due ≤ size) (hR : w.cell? ⟨0, 0, none⟩ = some (er aR)) (hn : n < 0) :
    Calls Tryd.prog 22 #[pt b, n64 n] w fun e w' => e = .returned (er aR) ∧ ∃ k, w' = w.drewN k := by
  have h0 := h.cell 0 (n64 size) rfl
  have h1 := h.cell 1 (n64 held) rfl
  have h2 := h.cell 2 (n64 due) rfl
  have e1 : IntKind.i64.wrap (size - held) = size - held := IntWalk.i64_in _ (by omega)
  have e2 : IntKind.i64.wrap (size - held - due) = size - held - due := IntWalk.i64_in _ (by omega)
  go_enter Tryd.func22, Tryd.ntmps22
  go_wp2_with fail
  go_quiet ((go_at_call 32; refine quiet_eq (within_neg _ _ (by exact hR) hn)))
  go_wp2
  go_ret
  exact ⟨rfl, _, rfl⟩
theorem came_over (h : Blk w b #[n64 size, n64 held, n64 due] 60) (hs : 0 ≤ size) (hs2 : size ≤ 65536) (ho : 0 ≤ held) (ho2 : 0 ≤ due) (ho3 : held + due ≤ size) (hW : w.cell? ⟨14, 0, none⟩ = some (er aW)) (hn : 0 ≤ n) (hn2 : size - held - due < n) :
    Calls Tryd.prog 22 #[pt b, n64 n] w fun e w' => e = .returned (er aW) ∧ ∃ k, w' = w.drewN k := by
  have h0 := h.cell 0 (n64 size) rfl
  have h1 := h.cell 1 (n64 held) rfl
  have h2 := h.cell 2 (n64 due) rfl
  have e1 : IntKind.i64.wrap (size - held) = size - held := IntWalk.i64_in _ (by omega)
  have e2 : IntKind.i64.wrap (size - held - due) = size - held - due := IntWalk.i64_in _ (by omega)
  go_enter Tryd.func22, Tryd.ntmps22
  go_wp2_with fail
  go_quiet ((go_at_call 32; refine quiet_eq (within_over _ _ (by exact hW) hn hn2)))
  go_wp2
  go_ret
  exact ⟨rfl, _, rfl⟩
theorem came_ok (h : Blk w b #[n64 size, n64 held, n64 due] 60) (hs : 0 ≤ size) (hs2 : size ≤ 65536) (ho : 0 ≤ held) (ho2 : 0 ≤ due) (ho3 : held + due ≤ size) (hn : 0 ≤ n) (hn2 : n ≤ size - held - due) :
    Calls Tryd.prog 22 #[pt b, n64 n] w fun e w' => e = .returned .nilIface ∧ Put b #[n64 size, n64 (held + n), n64 due] 60 w w' := by
  have h0 := h.cell 0 (n64 size) rfl
  have h1 := h.cell 1 (n64 held) rfl
  have h2 := h.cell 2 (n64 due) rfl
  have hf := h.free 1
  have e1 : IntKind.i64.wrap (size - held) = size - held := IntWalk.i64_in _ (by omega)
  have e2 : IntKind.i64.wrap (size - held - due) = size - held - due := IntWalk.i64_in _ (by omega)
  go_enter Tryd.func22, Tryd.ntmps22
  go_wp2_with fail
  go_quiet ((go_at_call 32; refine quiet_eq (within_ok _ _ hn hn2)))
  go_wp2
  go_ret
  exact ⟨rfl, by exact (((Put.self h).drewN _).set 1 _)⟩
theorem use_neg (h : Blk w b #[n64 size, n64 held, n64 due] 60) (hR : w.cell? ⟨0, 0, none⟩ = some (er aR)) (hn : n < 0) :
    Calls Tryd.prog 24 #[pt b, n64 n] w fun e w' => e = .returned (er aR) ∧ w = w' := by
  have h1 := h.cell 1 (n64 held) rfl
  go_enter Tryd.func24, Tryd.ntmps24
  go_wp2_with (go_at_call 32; refine (within_neg _ _ (by exact hR) hn).mono ?_; rintro e w' ⟨rfl, rfl⟩)
  go_ret
  exact ⟨rfl, rfl⟩
theorem use_over (h : Blk w b #[n64 size, n64 held, n64 due] 60) (hW : w.cell? ⟨14, 0, none⟩ = some (er aW)) (hn : 0 ≤ n) (hn2 : held < n) :
    Calls Tryd.prog 24 #[pt b, n64 n] w fun e w' => e = .returned (er aW) ∧ w = w' := by
  have h1 := h.cell 1 (n64 held) rfl
  go_enter Tryd.func24, Tryd.ntmps24
  go_wp2_with (go_at_call 32; refine (within_over _ _ (by exact hW) hn hn2).mono ?_; rintro e w' ⟨rfl, rfl⟩)
  go_ret
  exact ⟨rfl, rfl⟩
theorem use_ok (h : Blk w b #[n64 size, n64 held, n64 due] 60) (ho : held ≤ 65536) (ho2 : 0 ≤ due) (ho3 : held + due ≤ 65536) (hn : 0 ≤ n) (hn2 : n ≤ held) :
    Calls Tryd.prog 24 #[pt b, n64 n] w fun e w' => e = .returned .nilIface ∧ Put b #[n64 size, n64 (held - n), n64 (due + n)] 60 w w' := by
  have h1 := h.cell 1 (n64 held) rfl
  have h2 := h.cell 2 (n64 due) rfl
  have hf := h.free 1
  have hf2 := h.free 2
  go_enter Tryd.func24, Tryd.ntmps24
  go_wp2_with (go_at_call 32; refine (within_ok _ _ hn hn2).mono ?_; rintro e w' ⟨rfl, rfl⟩)
  go_region
  all_goals go_wp2
  all_goals go_ret
  all_goals exact ⟨rfl, by first | exact ((((Put.self h).drew).set 1 _).set 2 _) | exact ((((Put.self h).drew).set 2 _).set 1 _) | exact ((((Put.self h)).set 1 _).set 2 _).drew | exact ((((Put.self h)).set 2 _).set 1 _).drew⟩
theorem paid_neg (h : Blk w b #[n64 size, n64 held, n64 due] 60) (hR : w.cell? ⟨0, 0, none⟩ = some (er aR)) (hn : n < 0) :
    Calls Tryd.prog 26 #[pt b, n64 n] w fun e w' => e = .returned (er aR) ∧ w = w' := by
  have h1 := h.cell 2 (n64 due) rfl
  go_enter Tryd.func26, Tryd.ntmps26
  go_wp2_with (go_at_call 32; refine (within_neg _ _ (by exact hR) hn).mono ?_; rintro e w' ⟨rfl, rfl⟩)
  go_ret
  exact ⟨rfl, rfl⟩
theorem paid_over (h : Blk w b #[n64 size, n64 held, n64 due] 60) (hW : w.cell? ⟨14, 0, none⟩ = some (er aW)) (hn : 0 ≤ n) (hn2 : due < n) :
    Calls Tryd.prog 26 #[pt b, n64 n] w fun e w' => e = .returned (er aW) ∧ w = w' := by
  have h1 := h.cell 2 (n64 due) rfl
  go_enter Tryd.func26, Tryd.ntmps26
  go_wp2_with (go_at_call 32; refine (within_over _ _ (by exact hW) hn hn2).mono ?_; rintro e w' ⟨rfl, rfl⟩)
  go_ret
  exact ⟨rfl, rfl⟩
theorem paid_ok (h : Blk w b #[n64 size, n64 held, n64 due] 60) (ho : due ≤ 65536) (hn : 0 ≤ n) (hn2 : n ≤ due) :
    Calls Tryd.prog 26 #[pt b, n64 n] w fun e w' => e = .returned .nilIface ∧ Put b #[n64 size, n64 held, n64 (due - n)] 60 w w' := by
  have h1 := h.cell 2 (n64 due) rfl
  have hf := h.free 2
  go_enter Tryd.func26, Tryd.ntmps26
  go_wp2_with (go_at_call 32; refine (within_ok _ _ hn hn2).mono ?_; rintro e w' ⟨rfl, rfl⟩)
  go_ret
  exact ⟨rfl, by exact ((Put.self h).set 2 _)⟩
theorem due_all (h : Blk w b #[n64 size, n64 held, n64 due] 60) :
    Calls Tryd.prog 29 #[pt b, .bool true] w fun e w' => e = .returned (n64 due) ∧ ∃ k, w' = w.drewN k := by
  have h1 := h.cell 2 (n64 due) rfl
  go_enter Tryd.func29, Tryd.ntmps29
  go_wp2
  go_quiet (fail)
  go_wp2
  go_ret
  exact ⟨rfl, _, rfl⟩
theorem due_not (h : Blk w b #[n64 size, n64 held, n64 due] 60) (hs : 0 ≤ size) (hs2 : size ≤ 65536) :
    Calls Tryd.prog 29 #[pt b, .bool false] w fun e w' => e = .returned (n64 (if (size + 1) / 2 ≤ due then due else 0)) ∧ ∃ k, w' = w.drewN k := by
  have h0 := h.cell 0 (n64 size) rfl
  have h1 := h.cell 2 (n64 due) rfl
  have e1 : IntKind.i64.wrap (size + 1) = size + 1 := IntWalk.i64_in _ (by omega)
  have e2 : (size + 1).tdiv 2 = (size + 1) / 2 := Int.tdiv_eq_ediv_of_nonneg (by omega)
  have e3 : IntKind.i64.wrap ((size + 1) / 2) = (size + 1) / 2 := IntWalk.i64_in _ (by omega)
  by_cases hd : (size + 1) / 2 ≤ due
  · have hd' : decide ((size + 1) / 2 ≤ due) = true := by simpa using hd
    rw [if_pos hd]
    go_enter Tryd.func29, Tryd.ntmps29
    go_wp2
    go_quiet (fail)
    go_wp2
    go_ret
    exact ⟨rfl, _, rfl⟩
  · have hd' : decide ((size + 1) / 2 ≤ due) = false := by simpa using hd
    rw [if_neg hd]
    go_enter Tryd.func29, Tryd.ntmps29
    go_wp2
    go_quiet (fail)
    go_wp2
    go_ret
    exact ⟨rfl, _, rfl⟩
end
end Go.Proofs.YtfklkkckfikfoaaDoor
