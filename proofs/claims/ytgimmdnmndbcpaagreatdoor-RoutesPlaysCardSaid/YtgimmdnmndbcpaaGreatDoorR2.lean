/- Routes: those of which something holds; routes as they are handed out. -/
import Derived.Test.YtgimmdnmndbcpaaGreatDoorR1
import Derived.Deep.AppendLies
set_option linter.unusedVariables false
set_option linter.unusedSimpArgs false
namespace Go.Proofs.YtgimmdnmndbcpaaGreatDoor
open Go.RowKit Jw Lab Go.Shelf

theorem grownBy_below {w w1 w' : World} {B : Nat} {ob : Option Nat} (h : Below B w w1) (hg : w1.grownBy w' ob) (hB : B ≤ w.heap.size) (ho : ∀ k, ob = some k → B ≤ k) : Below B w w' :=
  h.trans ⟨hg.os, hg.tape, hg.output, hg.size, fun k hk => hg.block k (Nat.lt_of_lt_of_le (Nat.lt_of_lt_of_le hk hB) h.size) (fun e => by have := ho k e.symm; omega)⟩

set_option maxRecDepth 20000 in
set_option maxHeartbeats 1000000 in
theorem of_any (g : FuncId) (eg : ∀ args w, (callFunc g args).run Tryz.prog w = .ok (.enter g args) w) (cap : Array Value) (f : Rt → Bool) (t : Nat) (lv : Value) (M : List (Nat × Rt)) (w : World) (ht : w.cell? ⟨t, 0, none⟩ = some lv) (hr : Pr w lv M) (hM : M.length ≤ 100000) (hp : Asks g cap f M (fun _ => False) w) :
    Calls Tryz.prog 46 #[pp t, .func (.func g) #[] cap] w fun e w' => ∃ v, e = .returned v ∧ w'.ownsRow w.heap.size 65 1 v (M.filter fun x => f x.2).length (pv (M.filter fun x => f x.2)) ∧ Below w.heap.size w w' := by
  obtain ⟨i0, hi, hz0, hz1, hz2⟩ := info_parts' info57
  obtain ⟨ao, c, rfl, hao⟩ := hr
  have HA := Lib.hid hao
  have HP := Lib.hid hp
  clear hao hp
  go_enter Tryz.func46, Tryz.ntmps46
  go_wp2
  go_loopw [5, 7, 13] (fun v _ i wr => ∃ k : Nat, k ≤ M.length ∧ i = n64 k ∧ Below w.heap.size w wr ∧ wr.ownsRow w.heap.size 65 1 v ((M.take k).filter fun x => f x.2).length (pv ((M.take k).filter fun x => f x.2))) (fun _ _ i _ => M.length - (intOf i).toNat)
  case atStart => exact ⟨0, by omega, rfl, Below.refl _ _, World.ownsRow_nil _ _ _ _⟩
  case round =>
    obtain ⟨k, hk, rfl, hb, hown⟩ := hrel
    by_cases hlk : k < M.length
    · obtain ⟨gg, rfl, hgg, hc⟩ := HA.out (by omega)
      obtain ⟨x, hx⟩ : ∃ x, M[k]? = some x := ⟨_, List.getElem?_eq_getElem hlk⟩
      have hcx : wr.cell? ⟨gg, k, none⟩ = some (pp x.1) := (hb.cell (p := ⟨gg, k, none⟩) hgg).trans (hc k x hx)
      have hcall := HP.out.at hb (List.mem_of_getElem? hx)
      obtain ⟨N, hN⟩ : ∃ N, N = (M.take k).filter fun x => f x.2 := ⟨_, rfl⟩
      have hNl : N.length ≤ k := by rw [hN]; exact Nat.le_trans (List.length_filter_le _ _) (by simp; omega)
      have htk : M.take (k + 1) = M.take k ++ [x] := by rw [List.take_add_one, hx]; rfl
      rw [← hN] at hown
      cases hf : f x.2 with
      | true =>
        rw [hf] at hcall
        have hN2 : N ++ [x] = (M.take (k + 1)).filter fun x => f x.2 := by rw [htk, List.filter_append, hN]; congr 1; simp [hf]
        have HN2 := Lib.hid hN2
        have HOW := Lib.hid hown
        clear hc hx hf hN htk hown hN2
        go_wp2_with (first | (go_at_fn g; refine hcall.mono ?_; rintro e w2 ⟨rfl, hB⟩; have HB := Lib.hid hB; clear hB) | (at_builtin; refine wpList_append_lies _ rfl (.tmp 20) (.tmp 22) 61 rfl w.heap.size 65 i0 _ 1 8 Tryz.underlying61 hi hz0 hz1 hz2 rfl (by decide) _ N.length _ rfl ((own_same HOW.out (fun k hk => HB.out.block k (own_lo HOW.out k hk).2)).alloc _) ⟨w2.heap.size, 0, none⟩ 1 1 [pp x.1] rfl rfl ?c1 ?c2 (by decide) ?c3 ?c4 ?c5 _ rfl ?_))
        case c1 => intro j u hj; rw [addr_add, Nat.zero_add]; exact (blk_new w2 #[pp x.1] 65).cell j u (by simpa using hj)
        case c2 => intro u hu; simp at hu; subst hu; rfl
        case c3 => unfold maxLen; omega
        case c4 => omega
        case c5 => have := hb.size; have := HB.out.size; simp; omega
        intro g2 cap2 w3 hown3 hgrow hat hlt3
        have hlen : N.length + 1 = (N ++ [x]).length := by simp
        have hpv : pv N ++ [pp x.1] = pv (N ++ [x]) := by rw [pv_append]; rfl
        rw [hlen, hpv] at hown3
        rw [hlen]
        have H3 := Lib.hid hown3
        have hb3 : Below w.heap.size w w3 := grownBy_below ((below_all hb HB.out).trans ((Below.refl _ _).alloc (by have := hb.size; have := HB.out.size; omega) _)) hgrow (Nat.le_refl _) (fun k hk => (own_lo HOW.out k hk).1)
        clear hown3 hgrow hat hlen hpv
        go_wp2
        go_roundw
        case rel =>
          refine ⟨k + 1, by omega, by go_num, hb3, ?_⟩
          rw [← HN2.out]
          exact H3.out
        case measure => simp [intOf]; omega
      | false =>
        rw [hf] at hcall
        have hN2 : N = (M.take (k + 1)).filter fun x => f x.2 := by rw [htk, List.filter_append, hN]; simp [hf]
        have HN2 := Lib.hid hN2
        have HOW := Lib.hid hown
        clear hc hx hf hN htk hown hN2
        go_wp2_with (go_at_fn g; refine hcall.mono ?_; rintro e w2 ⟨rfl, hB⟩; have HB := Lib.hid hB; clear hB)
        go_roundw
        case rel =>
          refine ⟨k + 1, by omega, by go_num, below_all hb HB.out, ?_⟩
          rw [← HN2.out]
          exact own_same HOW.out (fun k hk => HB.out.block k (own_lo HOW.out k hk).2)
        case measure => simp [intOf]; omega
    · obtain rfl : k = M.length := by omega
      rw [List.take_length] at hown
      have HOW := Lib.hid hown
      clear hown
      go_wp2
      go_ret
      exact ⟨_, rfl, HOW.out, hb⟩

/-- A route as it is handed out. -/
def tc (r : Rt) : List Value := [.string (bs r.nm), n64 r.ag, fl r.wt, .bool r.dr, n64 r.un]
def tv (M : List (Nat × Rt)) : List Value := M.flatMap fun x => tc x.2
theorem tv_append (M N : List (Nat × Rt)) : tv (M ++ N) = tv M ++ tv N := by simp [tv]
theorem info50 : (Tryz.prog.info? 57).map (fun i => (i.zero, i.size, i.bytes)) = some (some (.agg #[.string ⟨#[]⟩, n64 0, fl 0, .bool false, n64 0]), 5, 48) := by kernel_rfl

set_option maxRecDepth 20000 in
set_option maxHeartbeats 1000000 in
theorem told_any (v : Value) (M : List (Nat × Rt)) (w : World) (hr : Pr w v M) (hM : M.length ≤ 100000) (hR : ∀ x ∈ M, Blk w x.1 (rc x.2) 67) :
    Calls Tryz.prog 58 #[v] w fun e w' => ∃ v', e = .returned v' ∧ w'.ownsRow w.heap.size 57 5 v' M.length (tv M) ∧ Below w.heap.size w w' := by
  obtain ⟨i0, hi, hz0, hz1, hz2⟩ := info_parts' info50
  obtain ⟨ao, c, rfl, hao⟩ := hr
  have HA := Lib.hid hao
  have HR := Lib.hid hR
  clear hao hR
  go_enter Tryz.func58, Tryz.ntmps58
  go_wp2
  go_loopw [3, 5, 8] (fun v _ i wr => ∃ k : Nat, k ≤ M.length ∧ i = n64 k ∧ Below w.heap.size w wr ∧ wr.ownsRow w.heap.size 57 5 v (M.take k).length (tv (M.take k))) (fun _ _ i _ => M.length - (intOf i).toNat)
  case atStart => exact ⟨0, by omega, rfl, Below.refl _ _, World.ownsRow_nil _ _ _ _⟩
  case round =>
    obtain ⟨k, hk, rfl, hb, hown⟩ := hrel
    by_cases hlk : k < M.length
    · obtain ⟨gg, rfl, hgg, hc⟩ := HA.out (by omega)
      obtain ⟨x, hx⟩ : ∃ x, M[k]? = some x := ⟨_, List.getElem?_eq_getElem hlk⟩
      have hcx : wr.cell? ⟨gg, k, none⟩ = some (pp x.1) := (hb.cell (p := ⟨gg, k, none⟩) hgg).trans (hc k x hx)
      have hbk : Blk wr x.1 (rc x.2) 67 := (HR.out x (List.mem_of_getElem? hx)).below hb (HR.out x (List.mem_of_getElem? hx)).lt
      have hlN : (M.take k).length = k := by simp; omega
      have htk : M.take (k + 1) = M.take k ++ [x] := by rw [List.take_add_one, hx]; rfl
      rw [hlN] at hown
      have c0 : wr.cell? ⟨x.1, 0, none⟩ = some (.string (bs x.2.nm)) := hbk.cell 0 _ rfl
      have c1 : wr.cell? ⟨x.1, 1, none⟩ = some (n64 x.2.ag) := hbk.cell 1 _ rfl
      have c2 : wr.cell? ⟨x.1, 2, none⟩ = some (fl x.2.wt) := hbk.cell 2 _ rfl
      have c3 : wr.cell? ⟨x.1, 3, none⟩ = some (.bool x.2.dr) := hbk.cell 3 _ rfl
      have c4 : wr.cell? ⟨x.1, 4, none⟩ = some (n64 x.2.un) := hbk.cell 4 _ rfl
      have HOW := Lib.hid hown
      have HTK := Lib.hid htk
      clear hc hx htk hown hbk hlN
      go_wp2_with (at_builtin; refine wpList_append_lies _ rfl (.tmp 12) (.tmp 17) 27 rfl w.heap.size 57 i0 _ 5 48 Tryz.underlying27 hi hz0 hz1 hz2 rfl (by decide) _ k _ rfl (HOW.out.alloc _) ⟨wr.heap.size, 0, none⟩ 1 1 (tc x.2) rfl rfl ?c1 ?c2 (by decide) ?c3 ?c4 ?c5 _ rfl ?_)
      case c1 => intro j u hj; rw [addr_add, Nat.zero_add]; exact (blk_new wr (tc x.2).toArray 57).cell j u (by simpa using hj)
      case c2 => intro u hu; simp [tc] at hu; rcases hu with rfl | rfl | rfl | rfl | rfl <;> rfl
      case c3 => unfold maxLen; omega
      case c4 => omega
      case c5 => have := hb.size; simp; omega
      intro g2 cap2 w3 hown3 hgrow hat hlt3
      have hpv : tv (M.take k) ++ tc x.2 = tv (M.take (k + 1)) := by rw [HTK.out, tv_append]; simp [tv]
      rw [hpv] at hown3
      have H3 := Lib.hid hown3
      have hb3 : Below w.heap.size w w3 := grownBy_below (hb.trans ((Below.refl _ _).alloc (by have := hb.size; omega) _)) hgrow (Nat.le_refl _) (fun k hk => (own_lo HOW.out k hk).1)
      clear hown3 hgrow hat hpv c0 c1 c2 c3 c4 hcx
      go_wp2
      go_roundw
      case rel =>
        refine ⟨k + 1, by omega, by go_num, hb3, ?_⟩
        rw [show (M.take (k + 1)).length = k + 1 from by simp; omega]
        exact H3.out
      case measure => simp [intOf]; omega
    · obtain rfl : k = M.length := by omega
      rw [List.take_length] at hown
      have HOW := Lib.hid hown
      clear hown
      go_wp2
      go_ret
      exact ⟨_, rfl, HOW.out, hb⟩
end Go.Proofs.YtgimmdnmndbcpaaGreatDoor
