/- The reference of layer 16: how its routes lie; what is asked, what is found. -/
import Derived.Test.YtgimmdnmndbcpaaGreatDoorR12
import Derived.Maps.AppendAt
set_option linter.unusedVariables false
set_option linter.unusedSimpArgs false
namespace Go.Proofs.YtgimmdnmndbcpaaGreatDoor
open Go.RowKit Jw Lab Go.Shelf
attribute [local go_sem] run_store_float

def tnL (L : List Rt) : List Value := L.map fun r => fl r.tn
theorem tnL_len (L : List Rt) : (tnL L).length = L.length := by simp [tnL]
theorem tL_len (L : List Rt) : (tL L).length = L.length * 5 := by
  induction L with
  | nil => rfl
  | cons r L ih => show (tc r ++ tL L).length = _; rw [List.length_append, ih]; simp [tc]; omega
theorem tL_app (L M : List Rt) : tL (L ++ M) = tL L ++ tL M := by simp [tL]
theorem tnL_app (L M : List Rt) : tnL (L ++ M) = tnL L ++ tnL M := by simp [tnL]
theorem tL_at : ∀ (N : List Rt) (j i : Nat) (r : Rt), N[j]? = some r → i < 5 → (tL N)[j * 5 + i]? = (tc r)[i]?
  | [], j, i, r, h, _ => by simp at h
  | x :: N, 0, i, r, h, hi => by
    simp only [List.getElem?_cons_zero, Option.some.injEq] at h
    subst h
    show (tc x ++ tL N)[0 * 5 + i]? = _
    rw [List.getElem?_append_left (by simp [tc]; omega)]
    simp
  | x :: N, j + 1, i, r, h, hi => by
    show (tc x ++ tL N)[(j + 1) * 5 + i]? = _
    rw [List.getElem?_append_right (by simp [tc]; omega), ← tL_at N j i r (by simpa using h) hi]
    congr 1
    simp [tc]
    omega
theorem tnL_at {N : List Rt} {j : Nat} {r : Rt} (h : N[j]? = some r) : (tnL N)[j]? = some (fl r.tn) := by rw [tnL, List.getElem?_map, h]; rfl

/-- One cell of an own row, of elements of any size. -/
theorem own_cellN {w : World} {base n size : Nat} {v : Value} {e : TypeId} {xs : List Value} (h : w.ownsRow base e size v n xs) (hn : 0 < n) : ∃ g cap, v = .slice (some ⟨g, 0, none⟩) n cap ∧ base ≤ g ∧ g < w.heap.size ∧ ∀ k, k < n * size → w.cell? ⟨g, k, none⟩ = xs[k]? := by
  obtain ⟨hl, ⟨_, h0⟩ | ⟨g, cap, cur, rfl, hb, hg, hn', hm, hs, ht⟩⟩ := h
  · omega
  refine ⟨g, cap, rfl, hb, (Array.getElem?_eq_some_iff.1 hg).1, fun k hk => ?_⟩
  rw [cell_of_row w g k cur e (0, 0) hg, ← ht, List.getElem?_take, if_pos hk]
  simp
theorem own_form {w : World} {base n size : Nat} {v : Value} {e : TypeId} {xs : List Value} (h : w.ownsRow base e size v n xs) : ∃ ao cap, v = .slice ao n cap := by
  obtain ⟨hl, ⟨rfl, h0⟩ | ⟨g, cap, cur, rfl, _⟩⟩ := h
  · exact ⟨none, 0, by rw [h0]⟩
  · exact ⟨_, _, rfl⟩
theorem own_free {w : World} {base n size : Nat} {g cap : Nat} {e : TypeId} {xs : List Value} (h : w.ownsRow base e size (.slice (some ⟨g, 0, none⟩) n cap) n xs) (i : Nat) : w.frozen? ⟨g, i, none⟩ = false := by
  obtain ⟨hl, ⟨h0, _⟩ | ⟨g', cap', cur, e1, hb, hg, _⟩⟩ := h
  · cases h0
  · injection e1 with e1 _ _
    injection e1 with e1
    injection e1 with e1 _ _
    subst e1
    exact Blk.free (cs := cur) (t := e) hg i
/-- One cell of an own row is written. -/
theorem own_setN {w : World} {base n size : Nat} {g cap : Nat} {e : TypeId} {xs : List Value} (h : w.ownsRow base e size (.slice (some ⟨g, 0, none⟩) n cap) n xs) (i : Nat) (u : Value) :
    (w.setCell ⟨g, i, none⟩ u).ownsRow base e size (.slice (some ⟨g, 0, none⟩) n cap) n (xs.set i u) := by
  obtain ⟨hl, ⟨h0, _⟩ | ⟨g', cap', cur, e1, hb, hg, hn, hm, hs, ht⟩⟩ := h
  · cases h0
  · injection e1 with e1 _ e3
    injection e1 with e1
    injection e1 with e1 _ _
    subst e1 e3
    refine ⟨by simpa using hl, .inr ⟨g, cap, cur.setIfInBounds i u, rfl, hb, Blk.set (cs := cur) (t := e) hg i u, hn, hm, by simpa using hs, ?_⟩⟩
    rw [Array.toList_setIfInBounds, ← ht, List.take_set]

/-- The reference's routes: block mb, its two rows. -/
structure Mr (mb : Nat) (lv tv : Value) (L : List Rt) (w : World) : Prop where
  blk : Blk w mb #[lv, tv] 30
  ol : w.ownsRow 0 57 5 lv L.length (tL L)
  ot : w.ownsRow 0 31 1 tv L.length (tnL L)
/-- The blocks that are theirs. -/
def Fm (mb : Nat) (lv tv : Value) (k : Nat) : Prop := k = mb ∨ lv.ownBlock = some k ∨ tv.ownBlock = some k
section
variable {mb : Nat} {lv tv : Value} {L : List Rt} {w w' : World}
theorem Mr.lt (h : Mr mb lv tv L w) {k : Nat} (hk : Fm mb lv tv k) : k < w.heap.size := by
  rcases hk with rfl | hk | hk
  · exact h.blk.lt
  · exact (own_lo h.ol k hk).2
  · exact (own_lo h.ot k hk).2
theorem Mr.same (h : Mr mb lv tv L w) (hf : ∀ k, Fm mb lv tv k → w'.heap[k]? = w.heap[k]?) : Mr mb lv tv L w' :=
  ⟨h.blk.same (hf mb (.inl rfl)), own_same h.ol (fun g hg => hf g (.inr (.inl hg))), own_same h.ot (fun g hg => hf g (.inr (.inr hg)))⟩
theorem Mr.below (h : Mr mb lv tv L w) (hb : Below w.heap.size w w') : Mr mb lv tv L w' := h.same fun k hk => hb.block k (h.lt hk)
theorem Mr.fp {S : Nat → Prop} (h : Mr mb lv tv L w) (hb : Fp S w w') (hS : ∀ k, Fm mb lv tv k → ¬ S k) : Mr mb lv tv L w' := h.same fun k hk => hb.other k (h.lt hk) (hS k hk)
theorem own_ty {base n size : Nat} {v : Value} {e : TypeId} {xs : List Value} (h : w.ownsRow base e size v n xs) {k : Nat} (hk : v.ownBlock = some k) : ∃ cs, Blk w k cs e := by
  obtain ⟨_, ⟨rfl, _⟩ | ⟨g', cap, cur, rfl, _, hh, _⟩⟩ := h
  · simp [Value.ownBlock] at hk
  · simp [Value.ownBlock] at hk
    subst hk
    exact ⟨cur, hh⟩
theorem blk_ty {k : Nat} {cs ds : Array Value} {t u : TypeId} (h : Blk w k cs t) (h' : Blk w k ds u) (hne : t ≠ u) : False := by
  unfold Blk at h h'
  rw [h] at h'
  simp only [Option.some.injEq, Go.Obj.cells.injEq] at h'
  exact hne h'.2.1
/-- The kinds of the blocks keep them apart. -/
theorem Mr.apart (h : Mr mb lv tv L w) : lv.ownBlock ≠ some mb ∧ tv.ownBlock ≠ some mb ∧ ∀ k, lv.ownBlock = some k → tv.ownBlock ≠ some k := by
  refine ⟨fun e => ?_, fun e => ?_, fun k e e' => ?_⟩
  · obtain ⟨cs, hb⟩ := own_ty h.ol e
    exact blk_ty hb h.blk (by decide)
  · obtain ⟨cs, hb⟩ := own_ty h.ot e
    exact blk_ty hb h.blk (by decide)
  · obtain ⟨cs, hb⟩ := own_ty h.ol e
    obtain ⟨ds, hb'⟩ := own_ty h.ot e'
    exact blk_ty hb hb' (by decide)
end

/-- The number of an error. -/
def nE : Option Nat → Int
  | none => 0
  | some i => (i : Int) + 1
theorem map_zero (L : List Rt) : (L.map (Prod.mk (0 : Nat))).map Prod.snd = L := by rw [List.map_map]; exact List.map_id L
theorem idxL_hit {f : Rt → Bool} {L : List Rt} {k : Nat} {r : Rt} (hx : L[k]? = some r) (hf : f r = true) (hb : ∀ j y, j < k → L[j]? = some y → f y = false) : idx f L = k := by
  have := idx_hit (M := L.map (Prod.mk 0)) (f := f) (k := k) (x := (0, r)) (by rw [List.getElem?_map, hx]; rfl) hf (fun j y hj hy => by
    rw [List.getElem?_map] at hy
    obtain ⟨z, hz, rfl⟩ := Option.map_eq_some_iff.1 hy
    exact hb j z hj hz)
  rw [map_zero] at this
  exact this
theorem idxL_none {f : Rt → Bool} {L : List Rt} (hb : ∀ (j : Nat) (y : Rt), L[j]? = some y → f y = false) : idx f L = -1 := by
  have := idx_none (M := L.map (Prod.mk 0)) (f := f) (fun j y hy => by
    rw [List.getElem?_map] at hy
    obtain ⟨z, hz, rfl⟩ := Option.map_eq_some_iff.1 hy
    exact hb j z hz)
  rw [map_zero] at this
  exact this
theorem idxL_cases (f : Rt → Bool) (L : List Rt) : (idx f L = -1 ∧ ∀ x ∈ L, f x = false) ∨ ∃ (k : Nat) (r : Rt), L[k]? = some r ∧ f r = true ∧ idx f L = k ∧ ∀ j y, j < k → L[j]? = some y → f y = false := by
  unfold idx
  cases h : L.findIdx? f with
  | none =>
    left
    rw [List.findIdx?_eq_none_iff] at h
    exact ⟨rfl, fun x hx => h x hx⟩
  | some k =>
    right
    rw [List.findIdx?_eq_some_iff_getElem] at h
    obtain ⟨hk, h1, h2⟩ := h
    refine ⟨k, L[k], List.getElem?_eq_getElem hk, h1, rfl, fun j y hj hy => ?_⟩
    obtain ⟨hj', rfl⟩ := List.getElem?_eq_some_iff.1 hy
    simpa using h2 j hj

theorem rnumber_any (n : Int) (w : World) : Calls Tryz.prog 40 #[n64 n] w fun e w' => e = .returned (.bool (numOk n)) ∧ w = w' := by
  go_enter Tryz.func40, Tryz.ntmps40
  go_wp2
  all_goals (go_ret; exact ⟨by simp_all [numOk] <;> omega, rfl⟩)
theorem rpat_any (p : List UInt8) (hl : p.length < 4294967281) (w : World) :
    Calls Tryz.prog 69 #[.string (bs p)] w fun e w' => ∃ s b, e = .returned (.tuple #[.string s, .bool b, .bool (patOk p)]) ∧ Below w.heap.size w w' := by
  by_cases h : 2 < p.length ∧ wld p = true
  · exact (rpat_wild p hl w h.1 h.2).mono fun e w' ⟨h1, h2⟩ => ⟨_, _, h1, h2⟩
  · exact (rpat_plain p hl w h).mono fun e w' ⟨h1, h2⟩ => ⟨_, _, h1, h2⟩
theorem rpattern_any (p : List UInt8) (hl : p.length < 4294967281) (w : World) :
    Calls Tryz.prog 53 #[.string (bs p)] w fun e w' => e = .returned (.bool (patOk p)) ∧ Below w.heap.size w w' := by
  have HP := Lib.hid (rpat_any p hl w)
  go_enter Tryz.func53, Tryz.ntmps53
  go_wp2_with (go_at_call 69; refine HP.out.mono ?_; rintro e w' ⟨s, b, rfl, hB⟩; have HB := Lib.hid hB; clear hB)
  go_ret
  exact ⟨rfl, HB.out⟩
theorem rask_any (p : List UInt8) (hl : p.length < 4294967281) (a : Int) (w : World) :
    Calls Tryz.prog 32 #[.string (bs p), n64 a] w fun e w' => e = .returned (n64 (nE (askE p a))) ∧ Below w.heap.size w w' := by
  have HP := Lib.hid (rpattern_any p hl w)
  have HN := Lib.hid (rnumber_any a)
  cases hp : patOk p with
  | false =>
    have e : nE (askE p a) = 10 := by rw [askE, hp]; rfl
    rw [e]
    rw [hp] at HP
    clear e hp
    go_enter Tryz.func32, Tryz.ntmps32
    go_wp2_with (go_at_call 53; refine HP.out.mono ?_; rintro e w' ⟨rfl, hB⟩; have HB := Lib.hid hB; clear hB)
    go_ret
    exact ⟨rfl, HB.out⟩
  | true =>
    rw [hp] at HP
    cases hn : numOk a with
    | false =>
      have e : nE (askE p a) = 1 := by rw [askE, hp, hn]; rfl
      rw [e]
      rw [hn] at HN
      clear e hp hn
      go_enter Tryz.func32, Tryz.ntmps32
      go_wp2_with (first | (go_at_call 53; refine HP.out.mono ?_; rintro e w' ⟨rfl, hB⟩; have HB := Lib.hid hB; clear hB) | (go_at_call 40; refine (HN.out _).mono ?_; rintro e w2 ⟨rfl, rfl⟩))
      go_ret
      exact ⟨rfl, HB.out⟩
    | true =>
      have e : nE (askE p a) = 0 := by rw [askE, hp, hn]; rfl
      rw [e]
      rw [hn] at HN
      clear e hp hn
      go_enter Tryz.func32, Tryz.ntmps32
      go_wp2_with (first | (go_at_call 53; refine HP.out.mono ?_; rintro e w' ⟨rfl, hB⟩; have HB := Lib.hid hB; clear hB) | (go_at_call 40; refine (HN.out _).mono ?_; rintro e w2 ⟨rfl, rfl⟩))
      go_ret
      exact ⟨rfl, HB.out⟩

set_option maxRecDepth 20000 in
set_option maxHeartbeats 1000000 in
theorem rfind_any {mb : Nat} {lv tv : Value} {L : List Rt} {w : World} (h : Mr mb lv tv L w) (hL : L.length ≤ 100000) (p : List UInt8) (a : Int) :
    Calls Tryz.prog 33 #[pp mb, .string (bs p), n64 a] w fun e w' => e = .returned (n64 (idx (isR p a) L)) ∧ Below w.heap.size w w' := by
  have cm : w.cell? ⟨mb, 0, none⟩ = some lv := h.blk.cell 0 _ rfl
  have HM := Lib.hid h
  obtain ⟨ao, cap, rfl⟩ := own_form h.ol
  clear h
  go_enter Tryz.func33, Tryz.ntmps33
  go_wp2
  go_loopw [7, 8, 14] (fun _ _ i wr => ∃ k : Nat, k ≤ L.length ∧ i = n64 k ∧ Below w.heap.size w wr ∧ ∀ j y, j < k → L[j]? = some y → isR p a y = false) (fun _ _ i _ => L.length - (intOf i).toNat)
  case atStart => exact ⟨0, by omega, rfl, Below.refl _ _, fun _ _ h => by omega⟩
  case round =>
    obtain ⟨k, hk, rfl, hb, hno⟩ := hrel
    by_cases hlk : k < L.length
    · obtain ⟨g, cg, hvg, _, hgl, hcell⟩ := own_cellN HM.out.ol (by omega)
      injection hvg with hv1 _ hv3
      subst hv1 hv3
      obtain ⟨r, hr⟩ : ∃ r, L[k]? = some r := ⟨_, List.getElem?_eq_getElem hlk⟩
      have cc : ∀ i, i < 5 → wr.cell? ⟨g, k * 5 + i, none⟩ = (tc r)[i]? := fun i hi => ((hb.cell (p := ⟨g, k * 5 + i, none⟩) hgl).trans (hcell (k * 5 + i) (by omega))).trans (tL_at L k i r hr hi)
      have c0 : wr.cell? ⟨g, k * 5, none⟩ = some (.string (bs r.nm)) := cc 0 (by omega)
      have c1 : wr.cell? ⟨g, k * 5 + 1, none⟩ = some (n64 r.ag) := cc 1 (by omega)
      have c2 : wr.cell? ⟨g, k * 5 + 2, none⟩ = some (fl r.wt) := cc 2 (by omega)
      have c3 : wr.cell? ⟨g, k * 5 + 3, none⟩ = some (.bool r.dr) := cc 3 (by omega)
      have c4 : wr.cell? ⟨g, k * 5 + 4, none⟩ = some (n64 r.un) := cc 4 (by omega)
      have hbe := bs_eql r.nm p
      have HB2 := Lib.hid (hb.alloc hb.size (.cells #[.string (bs r.nm), n64 r.ag, fl r.wt, .bool r.dr, n64 r.un] 57))
      have HN := Lib.hid hno
      have HR := Lib.hid hr
      clear hno hr cc hcell hb
      cases h1 : r.nm == p with
      | false =>
        have hf : isR p a r = false := by simp [isR, h1]
        rw [h1] at hbe
        have HF := Lib.hid hf
        clear hf h1
        go_wp2_with fail
        go_roundw
        case rel =>
          refine ⟨k + 1, by omega, by go_num, HB2.out, fun j y hj hy => ?_⟩
          rcases Nat.lt_or_ge j k with h | h
          · exact HN.out j y h hy
          · obtain rfl : j = k := by omega
            rw [HR.out] at hy
            injection hy with hy
            rw [← hy]; exact HF.out
        case measure => simp [intOf]; omega
      | true =>
        cases h2 : r.ag == a with
        | false =>
          have hf : isR p a r = false := by simp [isR, h2]
          rw [h1] at hbe
          have HF := Lib.hid hf
          clear hf h1
          go_wp2_with fail
          go_roundw
          case rel =>
            refine ⟨k + 1, by omega, by go_num, HB2.out, fun j y hj hy => ?_⟩
            rcases Nat.lt_or_ge j k with h | h
            · exact HN.out j y h hy
            · obtain rfl : j = k := by omega
              rw [HR.out] at hy
              injection hy with hy
              rw [← hy]; exact HF.out
          case measure => simp [intOf]; omega
        | true =>
          have hf : isR p a r = true := by rw [isR, h1, h2]; rfl
          rw [h1] at hbe
          have HF := Lib.hid hf
          clear hf h1
          go_wp2_with fail
          go_ret
          rw [idxL_hit HR.out HF.out HN.out]
          exact ⟨rfl, HB2.out⟩
    · obtain rfl : k = L.length := by omega
      have HN := Lib.hid hno
      have HB := Lib.hid hb
      clear hno hb
      go_wp2_with fail
      go_ret
      rw [idxL_none (fun j y hy => HN.out j y (List.getElem?_eq_some_iff.1 hy).1 hy)]
      exact ⟨rfl, HB.out⟩
end Go.Proofs.YtgimmdnmndbcpaaGreatDoor
