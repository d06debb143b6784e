/- jackfieldnum.In; how a script lies in memory. -/
import Derived.Test.YtgimmdnmndbcpaaGreatDoorR13
set_option linter.unusedVariables false
set_option linter.unusedSimpArgs false
namespace Go.Proofs.YtgimmdnmndbcpaaGreatDoor
open Go.RowKit Jw Lab Go.Shelf

theorem in_any {v : Value} {zs : List Int} {w : World} (h : Ri w v zs) (hl : zs.length ≤ 9223372036854775807) (x : Int) :
    Calls Tryz.prog 54 #[v, n64 x] w fun e w' => e = .returned (.bool (zs.contains x)) ∧ w = w' := by
  obtain ⟨ao, cap, rfl, hao⟩ := h
  have HA := Lib.hid hao
  clear hao
  go_enter Tryz.func54, Tryz.ntmps54
  go_wp2
  go_loopw [6, 9] (fun _ i wr => ∃ k : Nat, k ≤ zs.length ∧ i = n64 k ∧ w = wr ∧ (zs.take k).contains x = false) (fun _ i _ => zs.length - (intOf i).toNat)
  case atStart => exact ⟨0, by omega, rfl, rfl, by simp⟩
  case round =>
    obtain ⟨k, hk, rfl, rfl, hno⟩ := hrel
    by_cases hlk : k < zs.length
    · obtain ⟨b, off, rfl, hb, hc⟩ := HA.out (by omega)
      have hck := hc k hlk
      obtain ⟨z, hz⟩ : ∃ z, z = zs.getD k 0 := ⟨_, rfl⟩
      have htk : zs.take (k + 1) = zs.take k ++ [z] := by
        rw [List.take_add_one, List.getElem?_eq_getElem hlk, hz, List.getD_eq_getElem?_getD, List.getElem?_eq_getElem hlk]; rfl
      have hzm : z ∈ zs := by rw [hz, List.getD_eq_getElem?_getD, List.getElem?_eq_getElem hlk]; exact List.getElem_mem hlk
      rw [← hz] at hck
      have HN := Lib.hid hno
      have HT := Lib.hid htk
      have HM := Lib.hid hzm
      clear hc hz hno htk hzm
      cases hx : z == x with
      | true =>
        have hxc : zs.contains x = true := by
          rw [← (beq_iff_eq.1 hx)]
          exact List.contains_iff_mem.2 HM.out
        have HXC := Lib.hid hxc
        clear hxc
        go_wp2_with fail
        go_ret
        exact ⟨by rw [HXC.out]; rfl, rfl⟩
      | false =>
        have hx2 : (zs.take (k + 1)).contains x = false := by
          rw [HT.out, List.contains_eq_any_beq, List.any_append, ← List.contains_eq_any_beq, HN.out]
          simp
          intro e; subst e; simp at hx
        have HX := Lib.hid hx2
        clear hx2
        go_wp2_with fail
        go_roundw
        case rel => exact ⟨k + 1, by omega, by go_num, by first | rfl | trivial, HX.out⟩
        case measure => simp [intOf]; omega
    · obtain rfl : k = zs.length := by omega
      rw [List.take_length] at hno
      have HN := Lib.hid hno
      clear hno
      go_wp2_with fail
      go_ret
      exact ⟨by rw [HN.out]; rfl, rfl⟩

/-- One call of a script. -/
structure Po where
  kd : Int
  ag : Int
  nw : Int
  pt : List UInt8
  wt : Nat
  bz : List Int
instance : Inhabited Po := ⟨⟨0, 0, 0, [], 0, []⟩⟩
/-- A nil slice has no room. -/
def Nl (v : Value) : Prop := ∀ ao n c, v = .slice ao n c → ao = none → n = 0 ∧ c = 0
/-- A script as it can be read. -/
def Ro (w : World) (v : Value) (ops : List Po) : Prop :=
  ∃ ao cap, v = .slice ao ops.length cap ∧ (ops.length ≠ 0 → ∃ b off, ao = some ⟨b, off, none⟩ ∧ b < w.heap.size ∧
    ∀ k, k < ops.length → ∃ bv, w.cell? ⟨b, off + k * 6, none⟩ = some (n64 (ops.getD k default).kd) ∧ w.cell? ⟨b, off + k * 6 + 1, none⟩ = some (n64 (ops.getD k default).ag) ∧ w.cell? ⟨b, off + k * 6 + 2, none⟩ = some (n64 (ops.getD k default).nw) ∧
      w.cell? ⟨b, off + k * 6 + 3, none⟩ = some (.string (bs (ops.getD k default).pt)) ∧ w.cell? ⟨b, off + k * 6 + 4, none⟩ = some (fl (ops.getD k default).wt) ∧ w.cell? ⟨b, off + k * 6 + 5, none⟩ = some bv ∧ Ri w bv (ops.getD k default).bz ∧ Nl bv ∧ (ops.getD k default).pt.length ≤ 9223372036854775807)
end Go.Proofs.YtgimmdnmndbcpaaGreatDoor
