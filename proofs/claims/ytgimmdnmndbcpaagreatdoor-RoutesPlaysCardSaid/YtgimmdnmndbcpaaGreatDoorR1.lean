/- Routes: how they lie; what is asked of a route; the first of a row; those of which something holds. -/
import Derived.Test.YtgimmdnmndbcpaaGreatDoorShD
import Derived.OneCell
import Derived.Laws.AppendOwnNone
import Derived.Shelf.Abstract
set_option linter.unusedVariables false
set_option linter.unusedSimpArgs false
namespace Go.Proofs.YtgimmdnmndbcpaaGreatDoor
open Go.RowKit Jw Lab Go.Shelf

/-- A route: name, agent, weight, drained, until when, turn. -/
structure Rt where
  nm : List UInt8
  ag : Int
  wt : Nat
  dr : Bool
  un : Int
  tn : Nat
instance : Inhabited Rt := ⟨⟨[], 0, 0, false, 0, 0⟩⟩
def rc (r : Rt) : Array Value := #[.string (bs r.nm), n64 r.ag, fl r.wt, .bool r.dr, n64 r.un, fl r.tn]
abbrev pp (b : Nat) : Value := .pointer (some ⟨b, 0, none⟩)
/-- Routes with their blocks, as pointers. -/
def pv (M : List (Nat × Rt)) : List Value := M.map fun x => pp x.1
theorem pv_len (M : List (Nat × Rt)) : (pv M).length = M.length := by simp [pv]
theorem pv_at {M : List (Nat × Rt)} {k : Nat} {x : Nat × Rt} (h : M[k]? = some x) : (pv M)[k]? = some (pp x.1) := by
  rw [pv, List.getElem?_map, h]; rfl
theorem pv_append (M N : List (Nat × Rt)) : pv (M ++ N) = pv M ++ pv N := by simp [pv]
theorem pv_cell (M : List (Nat × Rt)) : ∀ u ∈ pv M, u.oneCell' = true := by
  intro u hu
  obtain ⟨x, _, rfl⟩ := List.mem_map.1 hu
  rfl
theorem info57 : (Tryz.prog.info? 65).map (fun i => (i.zero, i.size, i.bytes)) = some (some (.pointer none), 1, 8) := by kernel_rfl

/-- As w was, but for some blocks and what is new. -/
structure Fp (S : Nat → Prop) (w w' : World) : Prop where
  os : w'.os = w.os
  tape : w'.tape = w.tape
  output : w'.output = w.output
  size : w.heap.size ≤ w'.heap.size
  other : ∀ k, k < w.heap.size → ¬ S k → w'.heap[k]? = w.heap[k]?
theorem Fp.refl (S : Nat → Prop) (w : World) : Fp S w w := ⟨rfl, rfl, rfl, Nat.le_refl _, fun _ _ _ => rfl⟩
theorem Fp.trans {S S' : Nat → Prop} {w w1 w2 : World} (h : Fp S w w1) (h' : Fp S' w1 w2) (ho : ∀ k, S' k → S k ∨ w.heap.size ≤ k) : Fp S w w2 :=
  ⟨h'.os.trans h.os, h'.tape.trans h.tape, h'.output.trans h.output, Nat.le_trans h.size h'.size, fun k hk h1 => (h'.other k (Nat.lt_of_lt_of_le hk h.size) (fun e => by
    rcases ho k e with h3 | h3
    · exact h1 h3
    · omega)).trans (h.other k hk h1)⟩
theorem Fp.then {S : Nat → Prop} {w w1 w2 : World} (h : Fp S w w1) (h' : Fp S w1 w2) : Fp S w w2 := h.trans h' (fun _ e => .inl e)
theorem Fp.of_below {S : Nat → Prop} {w w' : World} (h : Below w.heap.size w w') : Fp S w w' := ⟨h.os, h.tape, h.output, h.size, fun k hk _ => h.block k hk⟩
theorem Fp.below {S : Nat → Prop} {w w' : World} {B : Nat} (h : Fp S w w') (hS : ∀ k, S k → B ≤ k) (hB : B ≤ w.heap.size) : Below B w w' :=
  ⟨h.os, h.tape, h.output, h.size, fun k hk => h.other k (Nat.lt_of_lt_of_le hk hB) (fun e => by have := hS k e; omega)⟩
theorem Fp.set {S : Nat → Prop} (p i : Nat) (v : Value) (w : World) (h : S p) : Fp S w (w.setCell ⟨p, i, none⟩ v) :=
  ⟨rfl, rfl, rfl, by simp, fun k _ h1 => Below.heap_setCell _ _ _ _ (fun e => h1 (by rw [e]; exact h))⟩
theorem Fp.mono {S S' : Nat → Prop} {w w' : World} (h : Fp S w w') (hs : ∀ k, S k → S' k) : Fp S' w w' := ⟨h.os, h.tape, h.output, h.size, fun k hk h1 => h.other k hk (fun e => h1 (hs k e))⟩
theorem Fp.blk {S : Nat → Prop} {w w' : World} {b : Nat} {cs : Array Value} {t : TypeId} (h : Fp S w w') (hb : Blk w b cs t) (hs : ¬ S b) : Blk w' b cs t := hb.same (h.other b hb.lt hs)
theorem Fp.cell {S : Nat → Prop} {w w' : World} (h : Fp S w w') {p : Addr} (hp : p.block < w.heap.size) (hs : ¬ S p.block) : w'.cell? p = w.cell? p := World.cell?_of_block (w := w) (h.other p.block hp hs)
theorem below_all {w w' w2 : World} (h : Below w.heap.size w w') (h' : Below w'.heap.size w' w2) : Below w.heap.size w w2 := h.trans (h'.mono h.size)

/-- An own row stays where its block stays. -/
theorem own_same {w w' : World} {base n : Nat} {e : TypeId} {size : Nat} {v : Value} {xs : List Value} (h : w.ownsRow base e size v n xs) (hb : ∀ g, v.ownBlock = some g → w'.heap[g]? = w.heap[g]?) : w'.ownsRow base e size v n xs := by
  obtain ⟨h1, ⟨rfl, h2⟩ | ⟨g, cap, cur, rfl, hb', hh, r⟩⟩ := h
  · exact ⟨h1, .inl ⟨rfl, h2⟩⟩
  · exact ⟨h1, .inr ⟨g, cap, cur, rfl, hb', by rw [hb g rfl]; exact hh, r⟩⟩
theorem own_lo {w : World} {base n : Nat} {e : TypeId} {size : Nat} {v : Value} {xs : List Value} (h : w.ownsRow base e size v n xs) : ∀ g, v.ownBlock = some g → base ≤ g ∧ g < w.heap.size := h.lt
theorem own_base {w : World} {base b2 n : Nat} {e : TypeId} {size : Nat} {v : Value} {xs : List Value} (h : w.ownsRow base e size v n xs) (hb : b2 ≤ base) : w.ownsRow b2 e size v n xs := by
  obtain ⟨h1, ⟨rfl, h2⟩ | ⟨g, cap, cur, rfl, hb', r⟩⟩ := h
  · exact ⟨h1, .inl ⟨rfl, h2⟩⟩
  · exact ⟨h1, .inr ⟨g, cap, cur, rfl, Nat.le_trans hb hb', r⟩⟩

/-- A row of routes, as it can be read. -/
def Pr (w : World) (v : Value) (M : List (Nat × Rt)) : Prop :=
  ∃ ao cap, v = .slice ao M.length cap ∧ (M.length ≠ 0 → ∃ g, ao = some ⟨g, 0, none⟩ ∧ g < w.heap.size ∧ ∀ k x, M[k]? = some x → w.cell? ⟨g, k, none⟩ = some (pp x.1))
theorem Pr.own {w : World} {base : Nat} {v : Value} {M : List (Nat × Rt)} (h : w.ownsRow base 65 1 v M.length (pv M)) : Pr w v M := by
  rcases Nat.eq_zero_or_pos M.length with h0 | h0
  · rw [h0] at h
    obtain ⟨h1, ⟨rfl, _⟩ | ⟨g', cap', cur, rfl, _⟩⟩ := h
    · exact ⟨_, _, by rw [h0], fun h => absurd h0 h⟩
    · exact ⟨_, _, by rw [h0], fun h => absurd h0 h⟩
  · obtain ⟨g, cap, rfl, hb, hlt⟩ := h.form h0
    refine ⟨_, _, rfl, fun _ => ⟨g, rfl, hlt, fun k x hx => ?_⟩⟩
    have hk : k < M.length := (List.getElem?_eq_some_iff.1 hx).1
    exact (own_cell h k hk).1.trans (pv_at hx)

/-- What is asked of a route, by a function value. -/
def Asks (g : FuncId) (cap : Array Value) (f : Rt → Bool) (M : List (Nat × Rt)) (S : Nat → Prop) (w : World) : Prop :=
  ∀ w', Fp S w w' → ∀ x ∈ M, Calls Tryz.prog g (#[pp x.1] ++ cap) w' fun e w'' => e = .returned (.bool (f x.2)) ∧ Below w'.heap.size w' w''
theorem Asks.at {g : FuncId} {cap : Array Value} {f : Rt → Bool} {M : List (Nat × Rt)} {w w' : World} (h : Asks g cap f M (fun _ => False) w) (hb : Below w.heap.size w w') {x : Nat × Rt} (hx : x ∈ M) :
    Calls Tryz.prog g (#[pp x.1] ++ cap) w' fun e w'' => e = .returned (.bool (f x.2)) ∧ Below w'.heap.size w' w'' := h w' (Fp.of_below hb) x hx

/-- The first of which something holds; -1: none. -/
def idx (f : Rt → Bool) (L : List Rt) : Int := match L.findIdx? f with | some i => (i : Int) | none => -1
theorem idx_hit {f : Rt → Bool} {M : List (Nat × Rt)} {k : Nat} {x : Nat × Rt} (hx : M[k]? = some x) (hf : f x.2 = true) (hb : ∀ j y, j < k → M[j]? = some y → f y.2 = false) : idx f (M.map Prod.snd) = k := by
  have hk : k < M.length := (List.getElem?_eq_some_iff.1 hx).1
  have : (M.map Prod.snd).findIdx? f = some k := by
    rw [List.findIdx?_eq_some_iff_getElem]
    refine ⟨by simpa using hk, ?_, fun j hj => ?_⟩
    · simp only [List.getElem_map]
      rw [(List.getElem?_eq_some_iff.1 hx).2]; exact hf
    · simp only [List.getElem_map]
      rw [hb j M[j] hj (List.getElem?_eq_getElem (by omega))]
      simp
  rw [idx, this]
theorem idx_none {f : Rt → Bool} {M : List (Nat × Rt)} (hb : ∀ (j : Nat) (y : Nat × Rt), M[j]? = some y → f y.2 = false) : idx f (M.map Prod.snd) = -1 := by
  have : (M.map Prod.snd).findIdx? f = none := by
    rw [List.findIdx?_eq_none_iff]
    intro r hr
    obtain ⟨x, hx, rfl⟩ := List.mem_map.1 hr
    obtain ⟨j, hj, rfl⟩ := List.mem_iff_getElem.1 hx
    exact hb j _ (List.getElem?_eq_getElem hj)
  rw [idx, this]
theorem idx_cases (f : Rt → Bool) (M : List (Nat × Rt)) : (idx f (M.map Prod.snd) = -1 ∧ ∀ x ∈ M, f x.2 = false) ∨ ∃ (k : Nat) (x : Nat × Rt), M[k]? = some x ∧ f x.2 = true ∧ idx f (M.map Prod.snd) = k ∧ ∀ j y, j < k → M[j]? = some y → f y.2 = false := by
  unfold idx
  cases h : (M.map Prod.snd).findIdx? f with
  | none =>
    left
    refine ⟨rfl, fun x hx => ?_⟩
    rw [List.findIdx?_eq_none_iff] at h
    exact h x.2 (List.mem_map.2 ⟨x, hx, rfl⟩)
  | some k =>
    right
    rw [List.findIdx?_eq_some_iff_getElem] at h
    obtain ⟨hk, h1, h2⟩ := h
    have hk' : k < M.length := by simpa using hk
    refine ⟨k, M[k], List.getElem?_eq_getElem hk', by simpa using h1, rfl, fun j y hj hy => ?_⟩
    have := h2 j hj
    obtain ⟨hj', rfl⟩ := List.getElem?_eq_some_iff.1 hy
    simpa using this

set_option maxRecDepth 20000 in
set_option maxHeartbeats 1000000 in
theorem idx_any (g : FuncId) (eg : ∀ args w, (callFunc g args).run Tryz.prog w = .ok (.enter g args) w) (cap : Array Value) (f : Rt → Bool) (v : Value) (M : List (Nat × Rt)) (w : World) (hr : Pr w v M) (hM : M.length ≤ 4294967290) (hp : Asks g cap f M (fun _ => False) w) :
    Calls Tryz.prog 60 #[v, .func (.func g) #[] cap] w fun e w' => e = .returned (n64 (idx f (M.map Prod.snd))) ∧ Below w.heap.size w w' := by
  obtain ⟨ao, c, rfl, hao⟩ := hr
  have HA := Lib.hid hao
  have HP := Lib.hid hp
  clear hao hp
  go_enter Tryz.func60, Tryz.ntmps60
  go_wp2
  go_loopw [5, 8] (fun _ i wr => ∃ k : Nat, k ≤ M.length ∧ i = n64 k ∧ Below w.heap.size w wr ∧ ∀ j y, j < k → M[j]? = some y → f y.2 = false) (fun _ i _ => M.length - (intOf i).toNat)
  case atStart => exact ⟨0, by omega, rfl, Below.refl _ _, fun _ _ h => by omega⟩
  case round =>
    obtain ⟨k, hk, rfl, hb, hno⟩ := hrel
    by_cases hlk : k < M.length
    · obtain ⟨gg, rfl, hgg, hc⟩ := HA.out (by omega)
      obtain ⟨x, hx⟩ : ∃ x, M[k]? = some x := ⟨_, List.getElem?_eq_getElem hlk⟩
      have hcx : wr.cell? ⟨gg, k, none⟩ = some (pp x.1) := (hb.cell (p := ⟨gg, k, none⟩) hgg).trans (hc k x hx)
      have hcall := HP.out.at hb (List.mem_of_getElem? hx)
      have HN := Lib.hid hno
      have HX := Lib.hid hx
      clear hno hc hx
      cases hf : f x.2 with
      | true =>
        rw [hf] at hcall
        have HF := Lib.hid hf
        clear hf
        go_wp2_with (go_at_fn g; refine hcall.mono ?_; rintro e w' ⟨rfl, hB⟩)
        go_ret
        rw [idx_hit HX.out HF.out HN.out]
        exact ⟨rfl, below_all hb hB⟩
      | false =>
        rw [hf] at hcall
        have HF := Lib.hid hf
        clear hf
        go_wp2_with (go_at_fn g; refine hcall.mono ?_; rintro e w' ⟨rfl, hB⟩)
        go_roundw
        case rel =>
          refine ⟨k + 1, by omega, by go_num, below_all hb hB, fun j y hj hy => ?_⟩
          rcases Nat.lt_or_ge j k with h | h
          · exact HN.out j y h hy
          · obtain rfl : j = k := by omega
            rw [HX.out] at hy
            injection hy with hy
            rw [← hy]; exact HF.out
        case measure => simp [intOf]; omega
    · obtain rfl : k = M.length := by omega
      have HN := Lib.hid hno
      clear hno
      go_wp2
      go_ret
      rw [idx_none (fun j y hy => HN.out j y (List.getElem?_eq_some_iff.1 hy).1 hy)]
      exact ⟨rfl, hb⟩
end Go.Proofs.YtgimmdnmndbcpaaGreatDoor
