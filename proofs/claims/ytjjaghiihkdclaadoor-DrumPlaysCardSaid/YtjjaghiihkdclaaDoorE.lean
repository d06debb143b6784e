/- Write of a drum where it writes. -/
import Derived.Test.YtjjaghiihkdclaaDoorD
import Derived.Deep.CutBlock
import Derived.Deep.CutRange
set_option linter.unusedVariables false
set_option linter.unusedSimpArgs false
namespace Go.Proofs.YtjjaghiihkdclaaDoor
open Go.RowKit Jw

section
variable {aR aP : Addr} {w : World} {b g n i : Nat} {off ar ar' : Bool} {l l' wr : Int} {L B : List Int}

set_option maxRecDepth 100000 in
theorem write_core (h : Dr w b g false ar l n wr L) (hi : i < n) (hB : B.length = 64) (hw : 0 ≤ wr ∧ wr ≤ 4294967296)
    (hgo : ∀ W : World, Blk W b #[.bool false, .bool ar, n64 l, .slice (some ⟨g, 0, none⟩) n n, n64 wr] 62 → Calls Tryd.prog 28 #[pt b] W fun e W' => e = .returned (.bool false) ∧ Put b #[.bool false, .bool ar', n64 l', .slice (some ⟨g, 0, none⟩) n n, n64 wr] 62 W W') :
    Calls Tryd.prog 12 #[pt b, n64 i, .agg (row B)] w fun e w' => e = .returned .nilIface ∧ Fr b g w w' ∧ Dr w' b g false ar' l' n (wr + 1) (put L i B) := by
  have hd := h.alloc (.cells (row B) 31)
  have HD := Lib.hid hd
  have HF := Lib.hid (show Fr b g w (w.alloc (.cells (row B) 31)) from Fr.refl.alloc _)
  have HN := Lib.hid (blk_new w (row B) 31)
  have HG := Lib.hid hgo
  have HB := Lib.hid hB
  have hlt := h.d.lt
  have hlt2 := h.k.lt
  clear h hd hgo hB
  go_enter Tryd.func12, Tryd.ntmps12
  go_wp2_with (go_at_call 27; refine (ask_ok HD.out.d (by omega) (by omega)).mono ?_; rintro e w' ⟨rfl, rfl⟩)
  refine (HG.out _ HD.out.d).mono ?_
  rintro e w2 ⟨rfl, hp⟩
  have hd2 := HD.out.put hp
  have h3 := hd2.d.cell 3 _ rfl
  have hN2 : Blk w2 w.heap.size (row B) 31 := hp.keeps HN.out (by omega)
  have HX := Lib.hid hd2
  have HF2 := Lib.hid (HF.out.trans (Fr.of_put hp))
  have HL := Lib.hid (fun q => load_one (w := w2.drewN q) (hN2.drewN q) HB.out)
  have HL0 := Lib.hid (load_one (w := { w2 with drawn := w2.drawn + 1 }) hN2 HB.out)
  clear hp hd2 hN2 HD HF HN HG
  go_upto_region 6 with fail
  go_still_tail 7, (by kernel_rfl)
  refine still_load_run rfl 31 (.tmp 5) rfl ⟨w.heap.size, 0, none⟩ (.agg (row B)) rfl HL0.out ?_
  repeat still_step
  refine wpStill_nil ?_
  obtain ⟨w3, hst, hp3⟩ := store_blk (w := { w2 with drawn := w2.drawn + 1 }) (i := i) (B := B) (show Blk { w2 with drawn := w2.drawn + 1 } g (row L) 31 from HX.out.k) HX.out.len hi HB.out
  have HST := Lib.hid hst
  have hd3 : Dr w3 b g false ar' l' n wr (put L i B) := ⟨hp3.keeps (show Blk { w2 with drawn := w2.drawn + 1 } b _ 62 from HX.out.d) HX.out.ne, hp3.blk, put_length L i n B HX.out.len HB.out hi⟩
  have hf3 : Fr b g w w3 := HF2.out.trans ⟨hp3.os, hp3.tape, hp3.output, by rw [hp3.size]; exact Nat.le_refl _, fun k _ _ h2 => hp3.other k h2⟩
  have c4 := hd3.d.cell 4 _ rfl
  have f4 := hd3.d.free 4
  have HD3 := Lib.hid hd3
  have HF3 := Lib.hid hf3
  clear hst hp3 hd3 hf3 h3
  refine wpList_store_run (w' := w3) rfl 31 (.tmp 25) (.tmp 24) rfl ⟨g, i * 64, none⟩ (.agg (row B)) ?_ rfl HST.out ?_
  · rfl
  go_wp2
  go_ret
  refine ⟨rfl, ?_, ?_⟩
  · exact HF3.out.trans (Fr.of_put (Put.of_set HD3.out.d 4 _))
  · exact HD3.out.put (Put.of_set HD3.out.d 4 _)
theorem write_free (h : Dr w b g false false l n wr L) (hi : i < n) (hB : B.length = 64) (hw : 0 ≤ wr ∧ wr ≤ 4294967296) :
    Calls Tryd.prog 12 #[pt b, n64 i, .agg (row B)] w fun e w' => e = .returned .nilIface ∧ Fr b g w w' ∧ Dr w' b g false false l n (wr + 1) (put L i B) :=
  write_core h hi hB hw fun W hW => (goes_no hW).mono fun e w' ⟨he, hw⟩ => ⟨he, by rw [← hw]; exact Put.self hW⟩
theorem write_armed (h : Dr w b g false true l n wr L) (hi : i < n) (hB : B.length = 64) (hw : 0 ≤ wr ∧ wr ≤ 4294967296) (hl : 0 < l) (hl2 : l ≤ 9223372036854775807) :
    Calls Tryd.prog 12 #[pt b, n64 i, .agg (row B)] w fun e w' => e = .returned .nilIface ∧ Fr b g w w' ∧ Dr w' b g false true (l - 1) n (wr + 1) (put L i B) :=
  write_core h hi hB hw fun W hW => goes_less hW hl hl2
end
end Go.Proofs.YtjjaghiihkdclaaDoor
