/- Routes: the state; what the small functions come to; those that only read. -/
import Derived.Test.YtgimmdnmndbcpaaGreatDoorR3
set_option linter.unusedVariables false
set_option linter.unusedSimpArgs false
namespace Go.Proofs.YtgimmdnmndbcpaaGreatDoor
open Go.RowKit Jw Lab Go.Shelf

/-- Routes in block t, their row lv, each route in its block. -/
structure St (t : Nat) (lv : Value) (M : List (Nat × Rt)) (w : World) : Prop where
  blk : Blk w t #[lv] 63
  own : w.ownsRow 0 65 1 lv M.length (pv M)
  rts : ∀ x ∈ M, Blk w x.1 (rc x.2) 67
  nod : (M.map Prod.fst).Nodup
/-- The blocks that are theirs. -/
def Foot (t : Nat) (lv : Value) (M : List (Nat × Rt)) (k : Nat) : Prop := k = t ∨ lv.ownBlock = some k ∨ k ∈ M.map Prod.fst
theorem St.lt {t : Nat} {lv : Value} {M : List (Nat × Rt)} {w : World} (h : St t lv M w) {k : Nat} (hk : Foot t lv M k) : k < w.heap.size := by
  rcases hk with rfl | hk | hk
  · exact h.blk.lt
  · exact (own_lo h.own k hk).2
  · obtain ⟨x, hx, rfl⟩ := List.mem_map.1 hk
    exact (h.rts x hx).lt
theorem St.same {t : Nat} {lv : Value} {M : List (Nat × Rt)} {w w' : World} (h : St t lv M w) (hf : ∀ k, Foot t lv M k → w'.heap[k]? = w.heap[k]?) : St t lv M w' :=
  ⟨h.blk.same (hf t (.inl rfl)), own_same h.own (fun g hg => hf g (.inr (.inl hg))), fun x hx => (h.rts x hx).same (hf x.1 (.inr (.inr (List.mem_map.2 ⟨x, hx, rfl⟩)))), h.nod⟩
theorem St.below {t : Nat} {lv : Value} {M : List (Nat × Rt)} {w w' : World} (h : St t lv M w) (hb : Below w.heap.size w w') : St t lv M w' := h.same (fun k hk => hb.block k (h.lt hk))
theorem St.fp {t : Nat} {lv : Value} {M : List (Nat × Rt)} {w w' : World} {S : Nat → Prop} (h : St t lv M w) (hb : Fp S w w') (hS : ∀ k, Foot t lv M k → ¬ S k) : St t lv M w' := h.same (fun k hk => hb.other k (h.lt hk) (hS k hk))
/-- The kinds of the blocks keep them apart. -/
theorem St.apart {t : Nat} {lv : Value} {M : List (Nat × Rt)} {w : World} (h : St t lv M w) : (∀ x ∈ M, x.1 ≠ t) ∧ lv.ownBlock ≠ some t ∧ ∀ x ∈ M, lv.ownBlock ≠ some x.1 := by
  have hown : ∀ g, lv.ownBlock = some g → ∃ cs, Blk w g cs 65 := fun g hg => by
    obtain ⟨h1, ⟨rfl, _⟩ | ⟨g', cap, cur, rfl, _, hh, _⟩⟩ := h.own
    · simp [Value.ownBlock] at hg
    · simp [Value.ownBlock] at hg
      subst hg
      exact ⟨cur, hh⟩
  refine ⟨fun x hx e => ?_, fun e => ?_, fun x hx e => ?_⟩
  · have h1 := h.rts x hx
    rw [e] at h1
    have h2 := h.blk
    unfold Blk at h1 h2
    rw [h1] at h2
    simp at h2
  · obtain ⟨cs, h1⟩ := hown t e
    have h2 := h.blk
    unfold Blk at h1 h2
    rw [h1] at h2
    simp at h2
  · obtain ⟨cs, h1⟩ := hown x.1 e
    have h2 := h.rts x hx
    unfold Blk at h1 h2
    rw [h1] at h2
    simp at h2

/-- What lies at the program's variables; K: the blocks that are to stay. -/
structure Gw (K : Nat → Prop) (w : World) (ads : Nat → Addr) (m : Int) : Prop where
  gl : Gl w (ads 9) m
  er : ∀ i, i < 18 → w.cell? ⟨i, 0, none⟩ = some (.iface 126 (.pointer (some (ads i))))
  k7 : ∀ k, k < 20 → K k
  ka : K (ads 9).block
theorem Gw.fp {K : Nat → Prop} {w w' : World} {ads : Nat → Addr} {m : Int} {S : Nat → Prop} (h : Gw K w ads m) (hb : Fp S w w') (hS : ∀ k, K k → ¬ S k) : Gw K w' ads m := by
  have hl := h.gl.low
  have cc : ∀ i, i < 20 → w'.cell? ⟨i, 0, none⟩ = w.cell? ⟨i, 0, none⟩ := fun i hi => hb.cell (p := ⟨i, 0, none⟩) (show i < w.heap.size by omega) (hS i (h.k7 i hi))
  refine ⟨⟨(cc 9 (by omega)).trans h.gl.name, (cc 19 (by omega)).trans h.gl.mx, ?_, Nat.le_trans hl hb.size⟩, fun i hi => (cc i (by omega)).trans (h.er i hi), h.k7, h.ka⟩
  obtain ⟨c, t, e⟩ := h.gl.blk
  have hlt : (ads 9).block < w.heap.size := Blk.lt (cs := c) (t := t) e
  exact ⟨c, t, by rw [hb.other _ hlt (hS _ h.ka)]; exact e⟩
theorem Gw.below {K : Nat → Prop} {w w' : World} {ads : Nat → Addr} {m : Int} (h : Gw K w ads m) (hb : Below w.heap.size w w') : Gw K w' ads m :=
  h.fp (Fp.of_below (S := fun _ => False) hb) (fun _ _ e => e)
def ev (ads : Nat → Addr) : Option Nat → Value
  | none => .nilIface
  | some i => .iface 126 (.pointer (some (ads i)))

/-- From one state to the next. -/
def Nx (t : Nat) (lv : Value) (M : List (Nat × Rt)) (w w' : World) (L' : List Rt) : Prop :=
  ∃ lv' M', M'.map Prod.snd = L' ∧ St t lv' M' w' ∧ Fp (Foot t lv M) w w' ∧ ∀ k, Foot t lv' M' k → Foot t lv M k ∨ w.heap.size ≤ k
theorem Nx.of_below {t : Nat} {lv : Value} {M : List (Nat × Rt)} {w w' : World} (h : St t lv M w) (hb : Below w.heap.size w w') : Nx t lv M w w' (M.map Prod.snd) :=
  ⟨lv, M, rfl, h.below hb, Fp.of_below hb, fun k hk => .inl hk⟩
/-- Routes beside the blocks that are to stay. -/
structure Sk (K : Nat → Prop) (t : Nat) (L : List Rt) (w : World) : Prop where
  lo : ∀ k, K k → k < w.heap.size
  ex : ∃ lv M, M.map Prod.snd = L ∧ St t lv M w ∧ ∀ k, Foot t lv M k → ¬ K k
theorem Sk.nx {K : Nat → Prop} {t : Nat} {lv : Value} {M : List (Nat × Rt)} {w w' : World} {L' : List Rt} (lo : ∀ k, K k → k < w.heap.size) (hK : ∀ k, Foot t lv M k → ¬ K k) (h : Nx t lv M w w' L') : Sk K t L' w' ∧ Fp (fun k => ¬ K k) w w' := by
  obtain ⟨lv', M', h1, h2, h3, h4⟩ := h
  refine ⟨⟨fun k hk => Nat.lt_of_lt_of_le (lo k hk) h3.size, lv', M', h1, h2, fun k hk hkk => ?_⟩, h3.mono hK⟩
  rcases h4 k hk with h | h
  · exact hK k h hkk
  · have := lo k hkk; omega
theorem Sk.below {K : Nat → Prop} {t : Nat} {L : List Rt} {w w' : World} (h : Sk K t L w) (hb : Below w.heap.size w w') : Sk K t L w' := by
  obtain ⟨lo, lv, M, rfl, hs, hK⟩ := h
  exact ⟨fun k hk => Nat.lt_of_lt_of_le (lo k hk) hb.size, lv, M, rfl, hs.below hb, hK⟩

theorem bs_eql (a b : List UInt8) : ((bs a).toList == (bs b).toList) = (a == b) := by
  rw [show (bs a).toList = a from ByteArray.toList_mk _, show (bs b).toList = b from ByteArray.toList_mk _]

theorem number_any (n : Int) (w : World) : Calls Tryz.prog 37 #[n64 n] w fun e w' => e = .returned (.bool (decide (0 ≤ n) && decide (n ≤ 1099511627776))) ∧ w = w' := by
  go_enter Tryz.func37, Tryz.ntmps37
  go_wp2
  all_goals (go_ret; exact ⟨by simp_all <;> omega, rfl⟩)

theorem serves_any (b : Nat) (r : Rt) (w : World) (hb : Blk w b (rc r) 67) : Calls Tryz.prog 48 #[pp b] w fun e w' => e = .returned (.bool (r.un == 0 && !r.dr)) ∧ w = w' := by
  have c3 : w.cell? ⟨b, 3, none⟩ = some (.bool r.dr) := hb.cell 3 _ rfl
  have c4 : w.cell? ⟨b, 4, none⟩ = some (n64 r.un) := hb.cell 4 _ rfl
  clear hb
  cases h : (r.un == 0)
  all_goals
    go_enter Tryz.func48, Tryz.ntmps48
    go_wp2
    go_ret
    exact ⟨rfl, rfl⟩
theorem clo45 (b1 b2 b : Nat) (p : List UInt8) (a : Int) (r : Rt) (w : World) (h1 : w.cell? ⟨b1, 0, none⟩ = some (.string (bs p))) (h2 : w.cell? ⟨b2, 0, none⟩ = some (n64 a)) (hb : Blk w b (rc r) 67) :
    Calls Tryz.prog 61 #[pp b, pp b1, pp b2] w fun e w' => e = .returned (.bool (r.nm == p && r.ag == a)) ∧ Below w.heap.size w w' := by
  have c0 : w.cell? ⟨b, 0, none⟩ = some (.string (bs r.nm)) := hb.cell 0 _ rfl
  have c1 : w.cell? ⟨b, 1, none⟩ = some (n64 r.ag) := hb.cell 1 _ rfl
  clear hb
  have e := bs_eql r.nm p
  cases h : (r.nm == p)
  all_goals
    rw [h] at e
    go_enter Tryz.func61, Tryz.ntmps61
    go_wp2
    go_quiet (fail)
    go_wp2
    go_ret
    exact ⟨rfl, ⟨rfl, rfl, rfl, Nat.le_refl _, fun _ _ => rfl⟩⟩
theorem clo46 (b1 b : Nat) (p : List UInt8) (r : Rt) (w : World) (h1 : w.cell? ⟨b1, 0, none⟩ = some (.string (bs p))) (hb : Blk w b (rc r) 67) :
    Calls Tryz.prog 62 #[pp b, pp b1] w fun e w' => e = .returned (.bool (r.nm == p)) ∧ Below w.heap.size w w' := by
  have c0 : w.cell? ⟨b, 0, none⟩ = some (.string (bs r.nm)) := hb.cell 0 _ rfl
  clear hb
  have e := bs_eql r.nm p
  cases h : (r.nm == p)
  all_goals
    rw [h] at e
    go_enter Tryz.func62, Tryz.ntmps62
    go_wp2
    go_quiet (fail)
    go_wp2
    go_ret
    exact ⟨rfl, ⟨rfl, rfl, rfl, Nat.le_refl _, fun _ _ => rfl⟩⟩
theorem clo47 (b1 b : Nat) (a : Int) (r : Rt) (w : World) (h1 : w.cell? ⟨b1, 0, none⟩ = some (n64 a)) (hb : Blk w b (rc r) 67) :
    Calls Tryz.prog 63 #[pp b, pp b1] w fun e w' => e = .returned (.bool (r.ag == a)) ∧ Below w.heap.size w w' := by
  have c0 : w.cell? ⟨b, 1, none⟩ = some (n64 r.ag) := hb.cell 1 _ rfl
  clear hb
  go_enter Tryz.func63, Tryz.ntmps63
  go_wp2
  go_quiet (fail)
  go_wp2
  go_ret
  exact ⟨rfl, ⟨rfl, rfl, rfl, Nat.le_refl _, fun _ _ => rfl⟩⟩
theorem clo38 (b1 b : Nat) (a : Int) (r : Rt) (w : World) (h1 : w.cell? ⟨b1, 0, none⟩ = some (n64 a)) (hb : Blk w b (rc r) 67) :
    Calls Tryz.prog 44 #[pp b, pp b1] w fun e w' => e = .returned (.bool (r.un != 0 && decide (r.un < a))) ∧ Below w.heap.size w w' := by
  have c0 : w.cell? ⟨b, 4, none⟩ = some (n64 r.un) := hb.cell 4 _ rfl
  clear hb
  cases h : (r.un != 0)
  all_goals
    go_enter Tryz.func44, Tryz.ntmps44
    go_wp2
    go_quiet (fail)
    go_wp2
    go_ret
    exact ⟨rfl, ⟨rfl, rfl, rfl, Nat.le_refl _, fun _ _ => rfl⟩⟩
theorem clo32 (b1 b : Nat) (p : List UInt8) (r : Rt) (w : World) (h1 : w.cell? ⟨b1, 0, none⟩ = some (.string (bs p))) (hb : Blk w b (rc r) 67) :
    Calls Tryz.prog 47 #[pp b, pp b1] w fun e w' => e = .returned (.bool (r.nm == p && (r.un == 0 && !r.dr))) ∧ Below w.heap.size w w' := by
  have c0 : w.cell? ⟨b, 0, none⟩ = some (.string (bs r.nm)) := hb.cell 0 _ rfl
  have hS : ∀ n, Calls Tryz.prog 48 #[pp b] (w.drewN n) fun e w' => e = .returned (.bool (r.un == 0 && !r.dr)) ∧ w.drewN n = w' := fun n => serves_any b r _ (hb.drewN n)
  clear hb
  have e := bs_eql r.nm p
  cases h : (r.nm == p)
  all_goals
    rw [h] at e
    go_enter Tryz.func47, Tryz.ntmps47
    go_wp2
    go_quiet (exact quiet_eq (hS _))
    go_wp2
    go_ret
    exact ⟨rfl, ⟨rfl, rfl, rfl, Nat.le_refl _, fun _ _ => rfl⟩⟩
end Go.Proofs.YtgimmdnmndbcpaaGreatDoor
