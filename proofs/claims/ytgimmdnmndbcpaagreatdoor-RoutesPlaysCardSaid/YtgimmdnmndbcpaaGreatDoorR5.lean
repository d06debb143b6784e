/- Routes: ask, find, named; those calls that only read. -/
import Derived.Test.YtgimmdnmndbcpaaGreatDoorR4
set_option linter.unusedVariables false
set_option linter.unusedSimpArgs false
namespace Go.Proofs.YtgimmdnmndbcpaaGreatDoor
open Go.RowKit Jw Lab Go.Shelf

theorem cell_lt {w : World} {a : Addr} {v : Value} (h : w.cell? a = some v) : a.block < w.heap.size := by
  rcases Nat.lt_or_ge a.block w.heap.size with h' | h'
  · exact h'
  · simp [World.cell?, Array.getElem?_eq_none h'] at h
theorem en26 : ∀ args w, (callFunc 48 args).run Tryz.prog w = .ok (.enter 48 args) w := enters_of Tryz.func48 (by kernel_rfl) rfl
theorem en45 : ∀ args w, (callFunc 61 args).run Tryz.prog w = .ok (.enter 61 args) w := enters_of Tryz.func61 (by kernel_rfl) rfl
theorem en46 : ∀ args w, (callFunc 62 args).run Tryz.prog w = .ok (.enter 62 args) w := enters_of Tryz.func62 (by kernel_rfl) rfl
theorem en47 : ∀ args w, (callFunc 63 args).run Tryz.prog w = .ok (.enter 63 args) w := enters_of Tryz.func63 (by kernel_rfl) rfl
theorem en38 : ∀ args w, (callFunc 44 args).run Tryz.prog w = .ok (.enter 44 args) w := enters_of Tryz.func44 (by kernel_rfl) rfl
theorem en32 : ∀ args w, (callFunc 47 args).run Tryz.prog w = .ok (.enter 47 args) w := enters_of Tryz.func47 (by kernel_rfl) rfl

section
variable {M : List (Nat × Rt)} {w : World} {S : Nat → Prop} {b1 b2 : Nat} {p : List UInt8} {a : Int}
/-- A route of this name and this agent. -/
def isR (p : List UInt8) (a : Int) (r : Rt) : Bool := r.nm == p && r.ag == a
def nmR (p : List UInt8) (r : Rt) : Bool := r.nm == p
def agR (a : Int) (r : Rt) : Bool := r.ag == a
def svR (r : Rt) : Bool := r.un == 0 && !r.dr
def goneR (a : Int) (r : Rt) : Bool := r.un != 0 && decide (r.un < a)
def pickR (p : List UInt8) (r : Rt) : Bool := r.nm == p && (r.un == 0 && !r.dr)
theorem asks45 (hR : ∀ x ∈ M, Blk w x.1 (rc x.2) 67) (h1 : w.cell? ⟨b1, 0, none⟩ = some (.string (bs p))) (h2 : w.cell? ⟨b2, 0, none⟩ = some (n64 a)) (s1 : ¬ S b1) (s2 : ¬ S b2) (sM : ∀ x ∈ M, ¬ S x.1) : Asks 61 #[pp b1, pp b2] (isR p a) M S w :=
  fun w' hf x hx => clo45 b1 b2 x.1 p a x.2 w' ((hf.cell (p := ⟨b1, 0, none⟩) (cell_lt h1) s1).trans h1) ((hf.cell (p := ⟨b2, 0, none⟩) (cell_lt h2) s2).trans h2) (hf.blk (hR x hx) (sM x hx))
theorem asks46 (hR : ∀ x ∈ M, Blk w x.1 (rc x.2) 67) (h1 : w.cell? ⟨b1, 0, none⟩ = some (.string (bs p))) (s1 : ¬ S b1) (sM : ∀ x ∈ M, ¬ S x.1) : Asks 62 #[pp b1] (nmR p) M S w :=
  fun w' hf x hx => clo46 b1 x.1 p x.2 w' ((hf.cell (p := ⟨b1, 0, none⟩) (cell_lt h1) s1).trans h1) (hf.blk (hR x hx) (sM x hx))
theorem asks32 (hR : ∀ x ∈ M, Blk w x.1 (rc x.2) 67) (h1 : w.cell? ⟨b1, 0, none⟩ = some (.string (bs p))) (s1 : ¬ S b1) (sM : ∀ x ∈ M, ¬ S x.1) : Asks 47 #[pp b1] (pickR p) M S w :=
  fun w' hf x hx => clo32 b1 x.1 p x.2 w' ((hf.cell (p := ⟨b1, 0, none⟩) (cell_lt h1) s1).trans h1) (hf.blk (hR x hx) (sM x hx))
theorem asks47 (hR : ∀ x ∈ M, Blk w x.1 (rc x.2) 67) (h1 : w.cell? ⟨b1, 0, none⟩ = some (n64 a)) (s1 : ¬ S b1) (sM : ∀ x ∈ M, ¬ S x.1) : Asks 63 #[pp b1] (agR a) M S w :=
  fun w' hf x hx => clo47 b1 x.1 a x.2 w' ((hf.cell (p := ⟨b1, 0, none⟩) (cell_lt h1) s1).trans h1) (hf.blk (hR x hx) (sM x hx))
theorem asks38 (hR : ∀ x ∈ M, Blk w x.1 (rc x.2) 67) (h1 : w.cell? ⟨b1, 0, none⟩ = some (n64 a)) (s1 : ¬ S b1) (sM : ∀ x ∈ M, ¬ S x.1) : Asks 44 #[pp b1] (goneR a) M S w :=
  fun w' hf x hx => clo38 b1 x.1 a x.2 w' ((hf.cell (p := ⟨b1, 0, none⟩) (cell_lt h1) s1).trans h1) (hf.blk (hR x hx) (sM x hx))
theorem asks26 (hR : ∀ x ∈ M, Blk w x.1 (rc x.2) 67) (sM : ∀ x ∈ M, ¬ S x.1) : Asks 48 #[] svR M S w :=
  fun w' hf x hx => (serves_any x.1 x.2 w' (hf.blk (hR x hx) (sM x hx))).mono fun e w2 ⟨h, h'⟩ => ⟨h, by rw [← h']; exact Below.refl _ _⟩
end

def numOk (n : Int) : Bool := decide (0 ≤ n) && decide (n ≤ 1099511627776)
/-- What is wrong with a pattern and an agent. -/
def askE (p : List UInt8) (a : Int) : Option Nat := if patOk p = true then (if numOk a = true then none else some 0) else some 9

set_option maxRecDepth 20000 in
set_option maxHeartbeats 1000000 in
theorem ask_any {K : Nat → Prop} {w : World} {ads : Nat → Addr} {m : Int} (hg : Gw K w ads m) (p : List UInt8) (hl : p.length < 4294967281) (a : Int) :
    Calls Tryz.prog 29 #[.string (bs p), n64 a] w fun e w' => e = .returned (ev ads (askE p a)) ∧ Below w.heap.size w w' := by
  have hcc := check_any p hl (ads 9) m w hg.gl
  have HN := Lib.hid (number_any a)
  have HG := Lib.hid hg
  have HE := Lib.hid (show askE p a = if patOk p = true then (if numOk a = true then none else some 0) else some 9 from rfl)
  have HO := Lib.hid (show numOk a = (decide (0 ≤ a) && decide (a ≤ 1099511627776)) from rfl)
  clear hg
  cases h1 : patOk p with
  | false =>
    rw [h1] at hcc HE
    have HC := Lib.hid (show Calls Tryz.prog 45 #[.string (bs p)] w fun e w' => e = .returned (.iface 126 (.pointer (some (ads 9)))) ∧ Below w.heap.size w w' from hcc)
    clear hcc
    go_enter Tryz.func29, Tryz.ntmps29
    go_wp2_with (go_at_call 45; refine HC.out.mono ?_; rintro e w1 ⟨rfl, hB⟩; have hc := (HG.out.below hB).gl.name; have HB := Lib.hid hB; clear hB)
    go_ret
    rw [HE.out]
    exact ⟨rfl, HB.out⟩
  | true =>
    rw [h1] at hcc HE
    have HC := Lib.hid (show Calls Tryz.prog 45 #[.string (bs p)] w fun e w' => e = .returned .nilIface ∧ Below w.heap.size w w' from hcc)
    clear hcc
    have HN := Lib.hid (show ∀ w, Calls Tryz.prog 37 #[n64 a] w fun e w' => e = .returned (.bool (numOk a)) ∧ w = w' from HN.out)
    cases h2 : numOk a with
    | false =>
      rw [h2] at HN HE
      go_enter Tryz.func29, Tryz.ntmps29
      go_wp2_with (first | (go_at_call 45; refine HC.out.mono ?_; rintro e w1 ⟨rfl, hB⟩; have hc := (HG.out.below hB).er 0 (by decide); have HB := Lib.hid hB; clear hB) | (go_at_call 37; refine (HN.out _).mono ?_; rintro e w1 ⟨rfl, rfl⟩))
      go_ret
      rw [HE.out]
      exact ⟨rfl, HB.out⟩
    | true =>
      rw [h2] at HN HE
      go_enter Tryz.func29, Tryz.ntmps29
      go_wp2_with (first | (go_at_call 45; refine HC.out.mono ?_; rintro e w1 ⟨rfl, hB⟩; have HB := Lib.hid hB; clear hB) | (go_at_call 37; refine (HN.out _).mono ?_; rintro e w1 ⟨rfl, rfl⟩))
      go_ret
      rw [HE.out]
      exact ⟨rfl, HB.out⟩

theorem find_any {t : Nat} {lv : Value} {M : List (Nat × Rt)} {w : World} (hs : St t lv M w) (hM : M.length ≤ 100000) (p : List UInt8) (a : Int) :
    Calls Tryz.prog 30 #[pp t, .string (bs p), n64 a] w fun e w' => e = .returned (n64 (idx (isR p a) (M.map Prod.snd))) ∧ Below w.heap.size w w' := by
  have hmf : ∀ (fn : Fn) (first cap : Array Value) (w : World), (Instr.makeFunc fn first cap).run Tryz.prog w = .ok (.func fn first cap) w := fun _ _ _ _ => rfl
  obtain ⟨w1, hw1⟩ : ∃ w1, w1 = (w.alloc (.cells #[.string (bs p)] 9)).alloc (.cells #[n64 a] 3) := ⟨_, rfl⟩
  have hb1 : Below w.heap.size w w1 := by rw [hw1]; exact ((Below.refl _ _).alloc (Nat.le_refl _) _).alloc (by simp) _
  have h1 : w1.cell? ⟨w.heap.size, 0, none⟩ = some (.string (bs p)) := by rw [hw1]; exact ((blk_new w _ 9).alloc _).cell 0 _ rfl
  have h2 : w1.cell? ⟨w.heap.size + 1, 0, none⟩ = some (n64 a) := by
    rw [hw1]
    have := (blk_new (w.alloc (.cells #[.string (bs p)] 9)) #[n64 a] 3).cell 0 _ rfl
    simp
  have hs1 := hs.below hb1
  have HI := Lib.hid (idx_any 61 en45 _ (isR p a) lv M w1 (Pr.own hs1.own) (by omega) (asks45 hs1.rts h1 h2 (fun e => e) (fun e => e) (fun _ _ e => e)))
  have hc : w1.cell? ⟨t, 0, none⟩ = some lv := hs1.blk.cell 0 _ rfl
  have HB := Lib.hid hb1
  have HS := Lib.hid hs
  rw [hw1] at hc
  have HW := Lib.hid hw1
  clear hs hs1 hb1 h1 h2 hw1
  go_enter Tryz.func30, Tryz.ntmps30
  go_wp2_with (go_at_call 60; rw [← HW.out]; refine HI.out.mono ?_; rintro e w2 ⟨rfl, hB⟩)
  go_ret
  exact ⟨rfl, below_all HB.out hB⟩

theorem named_any {t : Nat} {lv : Value} {M : List (Nat × Rt)} {w : World} (hs : St t lv M w) (hM : M.length ≤ 100000) (p : List UInt8) :
    Calls Tryz.prog 31 #[pp t, .string (bs p)] w fun e w' => ∃ v, e = .returned v ∧ w'.ownsRow w.heap.size 65 1 v (M.filter fun x => nmR p x.2).length (pv (M.filter fun x => nmR p x.2)) ∧ Below w.heap.size w w' := by
  have hmf : ∀ (fn : Fn) (first cap : Array Value) (w : World), (Instr.makeFunc fn first cap).run Tryz.prog w = .ok (.func fn first cap) w := fun _ _ _ _ => rfl
  obtain ⟨w1, hw1⟩ : ∃ w1, w1 = w.alloc (.cells #[.string (bs p)] 9) := ⟨_, rfl⟩
  have hb1 : Below w.heap.size w w1 := by rw [hw1]; exact (Below.refl _ _).alloc (Nat.le_refl _) _
  have h1 : w1.cell? ⟨w.heap.size, 0, none⟩ = some (.string (bs p)) := by rw [hw1]; exact (blk_new w _ 9).cell 0 _ rfl
  have hs1 := hs.below hb1
  have HI := Lib.hid (of_any 62 en46 _ (nmR p) t lv M w1 (hs1.blk.cell 0 _ rfl) (Pr.own hs1.own) hM (asks46 hs1.rts h1 (fun e => e) (fun _ _ e => e)))
  have HB := Lib.hid hb1
  have HS := Lib.hid hs
  have HW := Lib.hid hw1
  clear hs hs1 hb1 h1 hw1
  go_enter Tryz.func31, Tryz.ntmps31
  go_wp2_with (go_at_call 46; rw [← HW.out]; refine HI.out.mono ?_; rintro e w2 ⟨v, rfl, hO, hB⟩; have HO := Lib.hid hO; clear hO)
  go_ret
  exact ⟨v, rfl, own_base HO.out HB.out.size, below_all HB.out hB⟩

theorem idx_pos (f : Rt → Bool) (M : List (Nat × Rt)) : decide (0 ≤ idx f (M.map Prod.snd)) = (M.map Prod.snd).any f := by
  rcases idx_cases f M with ⟨h, hno⟩ | ⟨k, x, hx, hf, h, _⟩
  · rw [h]
    symm
    simp only [List.any_map, List.any_eq_false, Function.comp, Bool.not_eq_true, show decide ((0 : Int) ≤ -1) = false from by decide]
    intro x hx
    exact hno x hx
  · rw [h]
    symm
    simp only [List.any_map, show decide ((0 : Int) ≤ (k : Int)) = true from by simp]
    exact List.any_eq_true.2 ⟨x, List.mem_of_getElem? hx, hf⟩

theorem cont_any {v : Value} {M : List (Nat × Rt)} {w : World} (hr : Pr w v M) (hM : M.length ≤ 100000) (hR : ∀ x ∈ M, Blk w x.1 (rc x.2) 67) :
    Calls Tryz.prog 59 #[v, .func (.func 48) #[] #[]] w fun e w' => e = .returned (.bool ((M.map Prod.snd).any svR)) ∧ Below w.heap.size w w' := by
  have HI := Lib.hid (idx_any 48 en26 #[] svR v M w hr (by omega) (asks26 hR (fun _ _ e => e)))
  have HP := Lib.hid (idx_pos svR M)
  clear hr hR
  generalize (M.map Prod.snd).any svR = bb at *
  generalize idx svR (M.map Prod.snd) = i at *
  go_enter Tryz.func59, Tryz.ntmps59
  go_wp2_with (go_at_call 60; refine HI.out.mono ?_; rintro e w2 ⟨rfl, hB⟩)
  go_ret
  rw [← HP.out]
  exact ⟨rfl, hB⟩

theorem sub_blk {t : Nat} {lv : Value} {M : List (Nat × Rt)} {w w' : World} (hs : St t lv M w) (hb : Below w.heap.size w w') (f : Nat × Rt → Bool) : ∀ x ∈ M.filter f, Blk w' x.1 (rc x.2) 67 :=
  fun x hx => (hs.below hb).rts x (List.mem_filter.1 hx).1

theorem serve_any {t : Nat} {lv : Value} {M : List (Nat × Rt)} {w : World} (hs : St t lv M w) (hM : M.length ≤ 100000) (p : List UInt8) :
    Calls Tryz.prog 28 #[pp t, .string (bs p)] w fun e w' => e = .returned (.bool (((M.map Prod.snd).filter (nmR p)).any svR)) ∧ Below w.heap.size w w' := by
  have HN := Lib.hid (named_any hs hM p)
  have HS := Lib.hid hs
  have hfm : (M.map Prod.snd).filter (nmR p) = (M.filter fun x => nmR p x.2).map Prod.snd := by rw [List.filter_map]; rfl
  rw [hfm]
  have hln : (M.filter fun x => nmR p x.2).length ≤ 100000 := Nat.le_trans (List.length_filter_le _ _) hM
  obtain ⟨bb, hbb⟩ : ∃ bb, bb = ((M.filter fun x => nmR p x.2).map Prod.snd).any svR := ⟨_, rfl⟩
  have HBB := Lib.hid hbb
  rw [← hbb]
  clear hs hfm hbb
  go_enter Tryz.func28, Tryz.ntmps28
  go_wp2_with (first | (go_at_call 31; refine HN.out.mono ?_; rintro e w1 ⟨v, rfl, hO, hB⟩; have HI := Lib.hid (cont_any (Pr.own hO) hln (sub_blk HS.out hB _)); rw [← HBB.out] at HI; have HB := Lib.hid hB; clear hO hB) | (go_at_call 59; refine HI.out.mono ?_; rintro e w2 ⟨rfl, hB2⟩))
  go_ret
  exact ⟨rfl, below_all HB.out hB2⟩

theorem list_any {t : Nat} {lv : Value} {M : List (Nat × Rt)} {w : World} (hs : St t lv M w) (hM : M.length ≤ 100000) (p : List UInt8) :
    Calls Tryz.prog 27 #[pp t, .string (bs p)] w fun e w' => ∃ v, e = .returned v ∧ w'.ownsRow w.heap.size 57 5 v (M.filter fun x => nmR p x.2).length (tv (M.filter fun x => nmR p x.2)) ∧ Below w.heap.size w w' := by
  have HN := Lib.hid (named_any hs hM p)
  have HS := Lib.hid hs
  have hln : (M.filter fun x => nmR p x.2).length ≤ 100000 := Nat.le_trans (List.length_filter_le _ _) hM
  clear hs
  go_enter Tryz.func27, Tryz.ntmps27
  go_wp2_with (first | (go_at_call 31; refine HN.out.mono ?_; rintro e w1 ⟨v, rfl, hO, hB⟩; have HI := Lib.hid (told_any _ _ _ (Pr.own hO) hln (sub_blk HS.out hB _)); have HB := Lib.hid hB; clear hO hB) | (go_at_call 58; refine HI.out.mono ?_; rintro e w2 ⟨v2, rfl, hO2, hB2⟩; have HO2 := Lib.hid hO2; clear hO2))
  go_ret
  exact ⟨v2, rfl, own_base HO2.out HB.out.size, below_all HB.out hB2⟩

theorem all_any {t : Nat} {lv : Value} {M : List (Nat × Rt)} {w : World} (hs : St t lv M w) (hM : M.length ≤ 100000) :
    Calls Tryz.prog 26 #[pp t] w fun e w' => ∃ v, e = .returned v ∧ w'.ownsRow w.heap.size 57 5 v M.length (tv M) ∧ Below w.heap.size w w' := by
  have HT := Lib.hid (told_any lv M w (Pr.own hs.own) hM hs.rts)
  have hc : w.cell? ⟨t, 0, none⟩ = some lv := hs.blk.cell 0 _ rfl
  clear hs
  go_enter Tryz.func26, Tryz.ntmps26
  go_wp2_with (go_at_call 58; refine HT.out.mono ?_; rintro e w2 ⟨v2, rfl, hO2, hB2⟩; have HO2 := Lib.hid hO2; clear hO2)
  go_ret
  exact ⟨v2, rfl, HO2.out, hB2⟩
end Go.Proofs.YtgimmdnmndbcpaaGreatDoor
