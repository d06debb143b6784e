/- A sniffer: how it lies; the walk of take. -/
import Derived.Test.YtfphfljndhideaaDoorS3
import Derived.OneCell
import Derived.Laws.AppendOwnNone
set_option linter.unusedVariables false
set_option linter.unusedSimpArgs false
namespace Go.Proofs.YtfphfljndhideaaDoor
open Go.RowKit Jw Lab

/-- Bytes as values. -/
def bv (l : List UInt8) : List Value := l.map fun c => Value.int .u8 (c.toNat : Int)
theorem bv_at (l : List UInt8) (k : Nat) (h : k < l.length) : (bv l)[k]? = some (.int .u8 ((l.getD k 0).toNat : Int)) := by
  rw [bv, List.getElem?_map, List.getElem?_eq_getElem h, List.getD_eq_getElem?_getD, List.getElem?_eq_getElem h]
  rfl
theorem bv_len (l : List UInt8) : (bv l).length = l.length := by simp [bv]
theorem bv_append (l m : List UInt8) : bv (l ++ m) = bv l ++ bv m := by simp [bv]
theorem bv_cell (l : List UInt8) : ∀ u ∈ bv l, u.oneCell' = true := by
  intro u hu
  obtain ⟨c, _, rfl⟩ := List.mem_map.1 hu
  rfl
theorem info5 : (Tryd.prog.info? 5).map (fun i => (i.zero, i.size, i.bytes)) = some (some (.int .u8 0), 1, 1) := by kernel_rfl
/-- One cell of an own row. -/
theorem own_cell5 {w : World} {base g n cap : Nat} {e : TypeId} {xs : List Value} (h : w.ownsRow base e 1 (.slice (some ⟨g, 0, none⟩) n cap) n xs) (k : Nat) (hk : k < n) : w.cell? ⟨g, k, none⟩ = xs[k]? ∧ w.frozen? ⟨g, k, none⟩ = false ∧ g < w.heap.size ∧ base ≤ g := by
  obtain ⟨h1, ⟨h, _⟩ | ⟨g', cap', cur, h, hb, hh, hcp, hm, hs, ht⟩⟩ := h
  · cases h
  · injection h with h2 _ h3
    injection h2 with h2
    injection h2 with h2 _ _
    subst h2 h3
    have hk' : Blk w g cur e := hh
    refine ⟨?_, hk'.free k, hk'.lt, hb⟩
    have hkc : k < cur.size := by omega
    rw [hk'.cell k cur[k] (by simp [hkc]), ← ht, List.getElem?_take_of_lt (by omega)]
    simp [hkc]
theorem Rb.own {w : World} {base : Nat} {v : Value} {l : List UInt8} (h : w.ownsRow base 5 1 v l.length (bv l)) : Rb w v l := by
  rcases Nat.eq_zero_or_pos l.length with h0 | h0
  · rw [h0] at h
    obtain ⟨h1, ⟨rfl, _⟩ | ⟨g', cap', cur, rfl, _⟩⟩ := h
    · exact ⟨_, _, by rw [h0], fun h => absurd h0 h⟩
    · exact ⟨_, _, by rw [h0], fun h => absurd h0 h⟩
  · obtain ⟨g, cap, rfl, hb, hlt⟩ := h.form h0
    exact ⟨_, _, rfl, fun _ => ⟨g, 0, rfl, hlt, fun k hk => by rw [Nat.zero_add]; exact (own_cell5 h k hk).1.trans (bv_at l k hk)⟩⟩
/-- An own row stays where its block stays. -/
theorem own_same {w w' : World} {base n : Nat} {e : TypeId} {size : Nat} {v : Value} {xs : List Value} (h : w.ownsRow base e size v n xs) (hb : ∀ g, v.ownBlock = some g → w'.heap[g]? = w.heap[g]?) : w'.ownsRow base e size v n xs := by
  obtain ⟨h1, ⟨rfl, h2⟩ | ⟨g, cap, cur, rfl, hb', hh, r⟩⟩ := h
  · exact ⟨h1, .inl ⟨rfl, h2⟩⟩
  · exact ⟨h1, .inr ⟨g, cap, cur, rfl, hb', by rw [hb g rfl]; exact hh, r⟩⟩
theorem own_lo {w : World} {base n : Nat} {e : TypeId} {size : Nat} {v : Value} {xs : List Value} (h : w.ownsRow base e size v n xs) : ∀ g, v.ownBlock = some g → base ≤ g ∧ g < w.heap.size := h.lt

/-- As w was, but for one block, one row and what is new. -/
structure Fs (p : Nat) (ob : Option Nat) (w w' : World) : Prop where
  os : w'.os = w.os
  tape : w'.tape = w.tape
  output : w'.output = w.output
  size : w.heap.size ≤ w'.heap.size
  other : ∀ k, k < w.heap.size → k ≠ p → ob ≠ some k → w'.heap[k]? = w.heap[k]?
theorem Fs.refl (p : Nat) (ob : Option Nat) (w : World) : Fs p ob w w := ⟨rfl, rfl, rfl, Nat.le_refl _, fun _ _ _ _ => rfl⟩
theorem Fs.trans {p : Nat} {ob ob' : Option Nat} {w w1 w2 : World} (h : Fs p ob w w1) (h' : Fs p ob' w1 w2) (ho : ∀ k, ob' = some k → ob = some k ∨ w.heap.size ≤ k) : Fs p ob w w2 :=
  ⟨h'.os.trans h.os, h'.tape.trans h.tape, h'.output.trans h.output, Nat.le_trans h.size h'.size, fun k hk h1 h2 => (h'.other k (Nat.lt_of_lt_of_le hk h.size) h1 (fun e => by
    rcases ho k e with h3 | h3
    · exact h2 h3
    · omega)).trans (h.other k hk h1 h2)⟩
theorem Fs.below {p : Nat} {ob : Option Nat} {w w' : World} {B : Nat} (h : Fs p ob w w') (hp : B ≤ p) (ho : ∀ k, ob = some k → B ≤ k) (hB : B ≤ w.heap.size) : Below B w w' :=
  ⟨h.os, h.tape, h.output, h.size, fun k hk => h.other k (Nat.lt_of_lt_of_le hk hB) (by omega) (fun e => by have := ho k e; omega)⟩
theorem Fs.of_below {p : Nat} {ob : Option Nat} {w w' : World} (h : Below w.heap.size w w') : Fs p ob w w' := ⟨h.os, h.tape, h.output, h.size, fun k hk _ _ => h.block k hk⟩

theorem Fs.set (p i : Nat) (v : Value) (ob : Option Nat) (w : World) : Fs p ob w (w.setCell ⟨p, i, none⟩ v) :=
  ⟨rfl, rfl, rfl, by simp, fun k hk h1 _ => Below.heap_setCell _ _ _ _ h1⟩
theorem Fs.then {p : Nat} {ob : Option Nat} {w w1 w2 : World} (h : Fs p ob w w1) (h' : Fs p ob w1 w2) : Fs p ob w w2 := h.trans h' (fun _ e => .inl e)
/-- A sniffer in block p: its state, its line. -/
structure Sn (base p : Nat) (st : Int) (l : List UInt8) (lv : Value) (w : World) : Prop where
  blk : Blk w p #[n64 st, lv] 63
  own : w.ownsRow base 5 1 lv l.length (bv l)
  ne : lv.ownBlock ≠ some p
  low : base ≤ p
theorem Sn.same {base p : Nat} {st : Int} {l : List UInt8} {lv : Value} {w w' : World} (h : Sn base p st l lv w) (hp : w'.heap[p]? = w.heap[p]?) (ho : ∀ g, lv.ownBlock = some g → w'.heap[g]? = w.heap[g]?) : Sn base p st l lv w' :=
  ⟨h.blk.same hp, own_same h.own ho, h.ne, h.low⟩
theorem Sn.below {base p : Nat} {st : Int} {l : List UInt8} {lv : Value} {w w' : World} {B : Nat} (h : Sn base p st l lv w) (hb : Below B w w') (hB : w.heap.size ≤ B) : Sn base p st l lv w' :=
  h.same (hb.block p (Nat.lt_of_lt_of_le h.blk.lt hB)) (fun g hg => hb.block g (Nat.lt_of_lt_of_le (own_lo h.own g hg).2 hB))

/-- The program's variables, below a base. -/
structure Gb (base : Nat) (w : World) (a : Addr) (m : Int) : Prop where
  gl : Gl w a m
  lo : 3 ≤ base
  ab : a.block < base
  sz : base ≤ w.heap.size
theorem Gb.below {base : Nat} {w w' : World} {a : Addr} {m : Int} (h : Gb base w a m) (hb : Below base w w') : Gb base w' a m := by
  have hl := h.lo
  refine ⟨⟨(hb.cell (p := ⟨0, 0, none⟩) (by show 0 < base; omega)).trans h.gl.name, (hb.cell (p := ⟨2, 0, none⟩) (by show 2 < base; omega)).trans h.gl.mx, ?_, Nat.le_trans h.gl.low hb.size⟩, h.lo, h.ab, Nat.le_trans h.sz hb.size⟩
  obtain ⟨c, t, e⟩ := h.gl.blk
  exact ⟨c, t, by rw [hb.block _ h.ab]; exact e⟩
theorem Gl.gb {w : World} {a : Addr} {m : Int} (h : Gl w a m) : Gb w.heap.size w a m := by
  obtain ⟨c, t, e⟩ := h.blk
  exact ⟨h, h.low, Blk.lt (cs := c) (t := t) e, Nat.le_refl _⟩

/-- What a byte makes of a line. -/
def tkS (pre : List UInt8) (c : UInt8) : Int := if canB (pre ++ [c]) then (if c = 10 then 1 else 0) else 2
def tkL (pre : List UInt8) (c : UInt8) : List UInt8 := if canB (pre ++ [c]) then pre ++ [c] else []

set_option maxHeartbeats 1000000 in
theorem take_any (base p : Nat) (pre : List UInt8) (c : UInt8) (lv : Value) (w : World) (hs : Sn base p 0 pre lv w) (a : Addr) (m : Int) (hg : Gb base w a m) (hl : pre.length + 1 < 4294967281) :
    Calls Tryd.prog 50 #[.pointer (some ⟨p, 0, none⟩), .int .u8 (c.toNat : Int)] w fun e w' => e = .returned (.tuple #[]) ∧ ∃ lv', Sn base p (tkS pre c) (tkL pre c) lv' w' ∧ Fs p lv.ownBlock w w' ∧ (∀ k, lv'.ownBlock = some k → lv.ownBlock = some k ∨ w.heap.size ≤ k) := by
  obtain ⟨i0, hi, hz0, hz1, hz2⟩ := info_parts' info5
  have HS := Lib.hid hs
  have HG := Lib.hid hg
  have hlv := hs.blk.cell 1 lv rfl
  have HO := Lib.hid hs.own
  have hsz := hg.sz
  clear hs hg
  go_enter Tryd.func50, Tryd.ntmps50
  go_wp2_with (at_builtin; refine wpList_append_lies _ rfl (.tmp 8) (.tmp 10) 37 rfl base 5 i0 _ 1 1 Tryd.underlying37 hi hz0 hz1 hz2 rfl (by decide) _ pre.length _ rfl (HO.out.alloc _) ⟨w.heap.size, 0, none⟩ 1 1 (bv [c]) rfl rfl ?c1 ?c2 (by decide) ?c3 ?c4 ?c5 _ rfl ?_)
  case c1 => intro j u hj; rw [addr_add, Nat.zero_add]; exact (blk_new w (bv [c]).toArray 5).cell j u (by simpa using hj)
  case c2 => exact bv_cell [c]
  case c3 => unfold maxLen; omega
  case c4 => omega
  case c5 => simp; omega
  intro g cap w1 hown hgrow hat hlt
  have hgp : g ≠ p := by
    rintro rfl
    rcases hat with h | h
    · exact HS.out.ne h
    · have := HS.out.blk.lt; omega
  have hbk1 : Blk w1 p #[n64 0, lv] 63 := (HS.out.blk.alloc _).same (hgrow.block p (by have := HS.out.blk.lt; simp; omega) (fun e => HS.out.ne e.symm))
  obtain ⟨l1, hl1⟩ : ∃ l, l = pre ++ [c] := ⟨_, rfl⟩
  have hlen1 : pre.length + 1 = l1.length := by rw [hl1]; simp
  have hbv : bv pre ++ bv [c] = bv l1 := by rw [hl1, bv_append]
  rw [hlen1, hbv] at hown
  rw [hlen1]
  have hfr : w1.frozen? ⟨p, 1, none⟩ = false := hbk1.free 1
  have hcr : w1.cell? ⟨p, 1, none⟩ = some lv := hbk1.cell 1 _ rfl
  obtain ⟨w2, hw2⟩ : ∃ w2, w2 = w1.setCell ⟨p, 1, none⟩ (.slice (some ⟨g, 0, none⟩) l1.length cap) := ⟨_, rfl⟩
  have hbk2 : Blk w2 p #[n64 0, .slice (some ⟨g, 0, none⟩) l1.length cap] 63 := by rw [hw2]; exact hbk1.set 1 _
  have hown2 : w2.ownsRow base 5 1 (.slice (some ⟨g, 0, none⟩) l1.length cap) l1.length (bv l1) := by
    rw [hw2]
    exact own_same hown (fun k hk => Below.heap_setCell _ _ _ _ (by simp [Value.ownBlock] at hk; rw [← hk]; exact hgp))
  have hfs2 : Fs p lv.ownBlock w w2 := by
    have h0 : w.heap.size ≤ w1.heap.size := Nat.le_trans (by simp) hgrow.size
    rw [hw2]
    exact ⟨hgrow.os, hgrow.tape, hgrow.output, by simpa using h0, fun k hk h1 h2 => (Below.heap_setCell _ _ _ _ h1).trans ((hgrow.block k (by simp; omega) (fun e => h2 e.symm)).trans (Below.heap_alloc _ _ _ hk))⟩
  have hob : ∀ k, g = k → lv.ownBlock = some k ∨ w.heap.size ≤ k := by
    rintro k rfl
    rcases hat with h | h
    · exact .inl h
    · exact .inr (by omega)
  have hg2 : Gb base w2 a m := HG.out.below (hfs2.below HS.out.low (fun k hk => (own_lo HS.out.own k hk).1) hsz)
  have hcn := can_any l1 (by omega) _ a m w2 hg2.gl (Rb.own hown2)
  have hc2 : w2.cell? ⟨p, 1, none⟩ = some (.slice (some ⟨g, 0, none⟩) l1.length cap) := hbk2.cell 1 _ rfl
  have hS : tkS pre c = if canB l1 then (if c = 10 then 1 else 0) else 2 := by rw [tkS, hl1]
  have hL : tkL pre c = if canB l1 then l1 else [] := by rw [tkL, hl1]
  have HC := Lib.hid hcn
  have HB2 := Lib.hid hbk2
  have HO2 := Lib.hid hown2
  have HF2 := Lib.hid hfs2
  have HOB := Lib.hid hob
  have HS' := Lib.hid hS
  have HL' := Lib.hid hL
  have HW2 := Lib.hid hw2
  clear hown hgrow hat hlt hbk1 hbv hlen1 hl1 hbk2 hown2 hfs2 hob hg2 hcn hS hL hw2
  go_upto_region 1 with fail
  rw [← HW2.out]
  clear hfr hcr HW2
  cases hcb : canB l1 with
  | false =>
    rw [hcb] at HC HS' HL'
    clear hcb
    go_wp2_with (go_at_call 26; refine HC.out.mono ?_; rintro e w3 ⟨rfl, hB3⟩; have hb3 := HB2.out.below hB3 HB2.out.lt; have hc30 : w3.cell? ⟨p, 0, none⟩ = some (n64 0) := hb3.cell 0 _ rfl; have hf30 := hb3.free 0; have hc31 : w3.cell? ⟨p, 1, none⟩ = some (.slice (some ⟨g, 0, none⟩) l1.length cap) := hb3.cell 1 _ rfl; have hf31 := hb3.free 1; have HB3 := Lib.hid hb3; clear hb3)
    go_end0
    have hS : tkS pre c = 2 := by rw [HS'.out]; rfl
    have hL : tkL pre c = [] := by rw [HL'.out]; rfl
    rw [hS, hL]
    refine ⟨rfl, .slice none 0 0, ⟨(HB3.out.set 0 (n64 2)).set 1 (.slice none 0 0), World.ownsRow_nil _ _ _ _, (fun e => by simp [Value.ownBlock] at e), HS.out.low⟩, ?_, fun k hk => by simp [Value.ownBlock] at hk⟩
    exact ((HF2.out.then (Fs.trans (Fs.of_below hB3) (Fs.refl p none w3) (fun _ e => by cases e))).then (Fs.set p 0 _ _ _)).then (Fs.set p 1 _ _ _)
  | true =>
    rw [hcb] at HC HS' HL'
    clear hcb
    by_cases h10 : c = 10
    · have q : ((c.toNat : Int) == 10) = true := by rw [h10]; rfl
      have HT := Lib.hid h10
      clear h10
      go_wp2_with (go_at_call 26; refine HC.out.mono ?_; rintro e w3 ⟨rfl, hB3⟩; have hb3 := HB2.out.below hB3 HB2.out.lt; have hc30 : w3.cell? ⟨p, 0, none⟩ = some (n64 0) := hb3.cell 0 _ rfl; have hf30 := hb3.free 0; have hc31 : w3.cell? ⟨p, 1, none⟩ = some (.slice (some ⟨g, 0, none⟩) l1.length cap) := hb3.cell 1 _ rfl; have hf31 := hb3.free 1; have HB3 := Lib.hid hb3; clear hb3)
      go_end0
      have hS : tkS pre c = 1 := by rw [HS'.out, if_pos HT.out]; rfl
      have hL : tkL pre c = l1 := by rw [HL'.out]; rfl
      rw [hS, hL]
      have hown3 : w3.ownsRow base 5 1 (.slice (some ⟨g, 0, none⟩) l1.length cap) l1.length (bv l1) := own_same HO2.out (fun k hk => hB3.block k (own_lo HO2.out k hk).2)
      refine ⟨rfl, .slice (some ⟨g, 0, none⟩) l1.length cap, ⟨HB3.out.set 0 (n64 1), own_same hown3 (fun k hk => Below.heap_setCell _ _ _ _ (by simp [Value.ownBlock] at hk; rw [← hk]; exact hgp)), (fun e => hgp (by simpa [Value.ownBlock] using e)), HS.out.low⟩, ?_, fun k hk => HOB.out k (by simpa [Value.ownBlock] using hk)⟩
      exact (HF2.out.then (Fs.trans (Fs.of_below hB3) (Fs.refl p none w3) (fun _ e => by cases e))).then (Fs.set p 0 _ _ _)
    · have q : ((c.toNat : Int) == 10) = false := by
        rw [beq_eq_false_iff_ne]
        intro e
        exact h10 (UInt8.toNat_inj.1 (by show c.toNat = 10; omega))
      have HT := Lib.hid h10
      clear h10
      go_wp2_with (go_at_call 26; refine HC.out.mono ?_; rintro e w3 ⟨rfl, hB3⟩)
      go_end0
      have hS : tkS pre c = 0 := by rw [HS'.out, if_neg HT.out]; rfl
      have hL : tkL pre c = l1 := by rw [HL'.out]; rfl
      rw [hS, hL]
      have hown3 : w3.ownsRow base 5 1 (.slice (some ⟨g, 0, none⟩) l1.length cap) l1.length (bv l1) := own_same HO2.out (fun k hk => hB3.block k (own_lo HO2.out k hk).2)
      refine ⟨rfl, .slice (some ⟨g, 0, none⟩) l1.length cap, ⟨HB2.out.below hB3 HB2.out.lt, hown3, (fun e => hgp (by simpa [Value.ownBlock] using e)), HS.out.low⟩, ?_, fun k hk => HOB.out k (by simpa [Value.ownBlock] using hk)⟩
      exact HF2.out.then (Fs.trans (Fs.of_below hB3) (Fs.refl p none w3) (fun _ e => by cases e))
end Go.Proofs.YtfphfljndhideaaDoor
