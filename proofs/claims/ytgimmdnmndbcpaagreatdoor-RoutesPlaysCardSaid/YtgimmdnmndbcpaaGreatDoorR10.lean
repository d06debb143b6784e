/- Routes: who is picked, in plain Lean; who is busy. -/
import Derived.Test.YtgimmdnmndbcpaaGreatDoorR9
set_option linter.unusedVariables false
set_option linter.unusedSimpArgs false
namespace Go.Proofs.YtgimmdnmndbcpaaGreatDoor
open Go.RowKit Jw Lab Go.Shelf

def busyR (zs : List Int) (r : Rt) : Bool := zs.contains r.ag
def freeR (p : List UInt8) (zs : List Int) (r : Rt) : Bool := pickR p r && !busyR zs r
def tnR (t : Nat) (r : Rt) : Rt := ⟨r.nm, r.ag, r.wt, r.dr, r.un, t⟩
/-- The turns of some routes, set anew in their order. -/
def setT (q : Rt → Bool) : List Rt → List Nat → List Rt
  | [], _ => []
  | r :: L, ts => if q r = true then tnR (ts.headD r.tn) r :: setT q L ts.tail else r :: setT q L ts
def shF (L : List Rt) : List (Nat × Nat) := L.map fun r => (r.wt, r.tn)
/-- Pick: the agent, what is wrong, the routes behind it. -/
def pickL (p : List UInt8) (zs : List Int) (L : List Rt) : (Int × Option Nat) × List Rt :=
  if patOk p = true then
    if (L.filter (pickR p)).length = 0 then ((0, some 11), L)
    else if (L.filter (freeR p zs)).length = 0 then ((0, some 17), L)
    else ((((L.filter (freeR p zs)).getD (pickW (shF (L.filter (freeR p zs)))).1.toNat default).ag, none), setT (freeR p zs) L ((pickW (shF (L.filter (freeR p zs)))).2.map Prod.snd))
  else ((0, some 9), L)

theorem setT_map (q : Rt → Bool) : ∀ (M : List (Nat × Rt)) (ts : List Nat), (M.map Prod.fst).Nodup → ts.length = (M.filter fun x => q x.2).length →
    (M.map fun x => if x.1 ∈ (M.filter fun x => q x.2).map Prod.fst then tnR (ts.getD (((M.filter fun x => q x.2).map Prod.fst).idxOf x.1) 0) x.2 else x.2) = setT q (M.map Prod.snd) ts
  | [], ts, _, _ => rfl
  | x :: M, ts, hn, hl => by
    rw [List.map_cons, List.nodup_cons] at hn
    rw [List.map_cons, List.map_cons, setT]
    cases hq : q x.2 with
    | true =>
      have hf : ((x :: M).filter fun x => q x.2) = x :: M.filter fun x => q x.2 := by simp [hq]
      rw [hf] at hl ⊢
      rw [if_pos rfl, if_pos (by simp)]
      cases ts with
      | nil => simp at hl
      | cons u ts =>
        rw [List.tail_cons, ← setT_map q M ts hn.2 (by simpa using hl)]
        congr 1
        · simp
        · apply List.map_congr_left
          intro y hy
          have hne : y.1 ≠ x.1 := fun e => hn.1 (e ▸ List.mem_map.2 ⟨y, hy, rfl⟩)
          have hne' : (x.1 == y.1) = false := beq_eq_false_iff_ne.2 (fun e => hne e.symm)
          simp only [List.map_cons, List.mem_cons, hne, false_or, List.idxOf_cons, hne', cond_false, List.getD_cons_succ, List.tail_cons]
    | false =>
      have hf : ((x :: M).filter fun x => q x.2) = M.filter fun x => q x.2 := by simp [hq]
      rw [hf] at hl ⊢
      have hm' : x.1 ∉ (M.filter fun x => q x.2).map Prod.fst := ?_
      rw [← setT_map q M ts hn.2 hl, if_neg hm', if_neg (by decide)]
      intro hm
      obtain ⟨y, hy, e⟩ := List.mem_map.1 hm
      exact hn.1 (e ▸ List.mem_map.2 ⟨y, (List.mem_filter.1 hy).1, rfl⟩)
theorem free_filter (p : List UInt8) (zs : List Int) (M : List (Nat × Rt)) : ((M.filter fun x => pickR p x.2).filter fun x => !busyR zs x.2) = M.filter fun x => freeR p zs x.2 := by
  rw [List.filter_filter]
  congr 1
  funext x
  rw [freeR, Bool.and_comm]

theorem en34 : ∀ args w, (callFunc 50 args).run Tryz.prog w = .ok (.enter 50 args) w := enters_of Tryz.func50 (by kernel_rfl) rfl
theorem clo34 (b1 b : Nat) (v : Value) (zs : List Int) (hz : zs.length ≤ 9223372036854775807) (r : Rt) (w : World) (h1 : w.cell? ⟨b1, 0, none⟩ = some v) (hv : Ri w v zs) (hb : Blk w b (rc r) 67) :
    Calls Tryz.prog 50 #[pp b, pp b1] w fun e w' => e = .returned (.bool (busyR zs r)) ∧ Below w.heap.size w w' := by
  have c0 : w.cell? ⟨b, 1, none⟩ = some (n64 r.ag) := hb.cell 1 _ rfl
  have hC : ∀ n, Calls Tryz.prog 51 #[v, n64 r.ag] (w.drewN n) fun e w' => e = .returned (.bool (busyR zs r)) ∧ w.drewN n = w' := fun n =>
    (contains_any (w := w.drewN n) (v := v) (zs := zs) hv hz r.ag).mono fun e w' ⟨h, h'⟩ => ⟨h, h'.symm⟩
  obtain ⟨ao, cap, rfl, _⟩ := hv
  clear hb
  generalize busyR zs r = bb at *
  go_enter Tryz.func50, Tryz.ntmps50
  go_wp2
  go_quiet (exact quiet_eq (hC _))
  go_wp2
  go_ret
  exact ⟨rfl, ⟨rfl, rfl, rfl, Nat.le_refl _, fun _ _ => rfl⟩⟩
theorem Ri.fp {w w' : World} {v : Value} {zs : List Int} {S : Nat → Prop} (h : Ri w v zs) (hf : Fp S w w') (hS : ∀ b off n c, v = .slice (some ⟨b, off, none⟩) n c → zs.length ≠ 0 → ¬ S b) : Ri w' v zs := by
  obtain ⟨ao, cap, rfl, h⟩ := h
  refine ⟨ao, cap, rfl, fun hn => ?_⟩
  obtain ⟨b, off, rfl, hlt, hc⟩ := h hn
  exact ⟨b, off, rfl, Nat.lt_of_lt_of_le hlt hf.size, fun k hk => (hf.cell (p := ⟨b, off + k, none⟩) hlt (hS b off _ _ rfl hn)).trans (hc k hk)⟩
theorem asks34 {M : List (Nat × Rt)} {w : World} {S : Nat → Prop} {b1 : Nat} {v : Value} {zs : List Int} (hz : zs.length ≤ 9223372036854775807) (hR : ∀ x ∈ M, Blk w x.1 (rc x.2) 67) (h1 : w.cell? ⟨b1, 0, none⟩ = some v) (hv : Ri w v zs)
    (hS : ∀ b off n c, v = .slice (some ⟨b, off, none⟩) n c → zs.length ≠ 0 → ¬ S b) (s1 : ¬ S b1) (sM : ∀ x ∈ M, ¬ S x.1) : Asks 50 #[pp b1] (busyR zs) M S w :=
  fun w' hf x hx => clo34 b1 x.1 v zs hz x.2 w' ((hf.cell (p := ⟨b1, 0, none⟩) (cell_lt h1) s1).trans h1) (hv.fp hf hS) (hf.blk (hR x hx) (sM x hx))
end Go.Proofs.YtgimmdnmndbcpaaGreatDoor
