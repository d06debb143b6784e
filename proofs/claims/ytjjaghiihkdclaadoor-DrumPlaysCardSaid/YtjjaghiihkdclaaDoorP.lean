/- The state of the plays: the drum and the reference's, and the operation's block. -/
import Derived.Test.YtjjaghiihkdclaaDoorS
import Derived.Test.YtjjaghiihkdclaaDoorBytes
set_option linter.unusedVariables false
set_option linter.unusedSimpArgs false
namespace Go.Proofs.YtjjaghiihkdclaaDoor
open Go.RowKit Jw

structure Pl (w0 w : World) (b g c h n k : Nat) (s t : DS) (A : Nat → Addr) : Prop where
  below : Below w0.heap.size w0 w
  sents : Sents w A
  f : Df w b g n s
  m : Dm w c h n t
  hb : w0.heap.size ≤ b
  hg : w0.heap.size ≤ g
  hc : w0.heap.size ≤ c
  hh : w0.heap.size ≤ h
  base : Sents w0 A
/-- And the operation's block. -/
structure Po (w0 w : World) (b g c h n k : Nat) (s t : DS) (A : Nat → Addr) (q : Nat) (x0 x1 x2 x3 : Int) : Prop where
  pl : Pl w0 w b g c h n k s t A
  o : Blk w q #[n64 x0, n64 x1, n64 x2, .int .u8 x3] 51

section
variable {w0 w w' : World} {b g c h n k q : Nat} {s t s' : DS} {A : Nat → Addr} {i x0 x1 x2 x3 : Int} {B : List Int}
theorem Pl.bel (p : Pl w0 w b g c h n k s t A) (hb : Below w.heap.size w w') : Pl w0 w' b g c h n k s t A :=
  have hB := p.below.trans (hb.mono p.below.size)
  ⟨hB, p.base.below hB (Nat.le_refl _), p.f.below hb p.f.d.lt p.f.k.lt, p.m.below hb p.m.d.lt p.m.k.lt, p.hb, p.hg, p.hc, p.hh, p.base⟩
theorem Pl.drew (p : Pl w0 w b g c h n k s t A) : Pl w0 w.drew b g c h n k s t A := p.bel ⟨rfl, rfl, rfl, Nat.le_refl _, fun _ _ => rfl⟩
theorem Pl.drewN (p : Pl w0 w b g c h n k s t A) (q : Nat) : Pl w0 (w.drewN q) b g c h n k s t A := p.bel ⟨rfl, rfl, rfl, Nat.le_refl _, fun _ _ => rfl⟩
theorem Pl.ff (p : Pl w0 w b g c h n k s t A) (hf : Fr b g w w') (hd : Df w' b g n s') : Pl w0 w' b g c h n k s' t A :=
  have hB := hf.below p.below p.hb p.hg p.below.size
  ⟨hB, p.base.below hB (Nat.le_refl _), hd, ⟨hf.keeps p.m.d (Blk.ne p.m.d p.f.d (by decide)) (Blk.ne p.m.d p.f.k (by decide)), hf.keeps p.m.k (Blk.ne p.m.k p.f.d (by decide)) (Blk.ne p.m.k p.f.k (by decide)), p.m.len⟩, p.hb, p.hg, p.hc, p.hh, p.base⟩
theorem Pl.mf (p : Pl w0 w b g c h n k s t A) (hf : Fr c h w w') (hd : Dm w' c h n s') : Pl w0 w' b g c h n k s s' A :=
  have hB := hf.below p.below p.hc p.hh p.below.size
  ⟨hB, p.base.below hB (Nat.le_refl _), p.f.keep hf (Blk.ne p.f.d p.m.d (by decide)) (Blk.ne p.f.d p.m.k (by decide)) (Blk.ne p.f.k p.m.d (by decide)) (Blk.ne p.f.k p.m.k (by decide)), hd, p.hb, p.hg, p.hc, p.hh, p.base⟩
theorem Pl.b1 (p : Pl w0 w b g c h n k s t A) : 1 < b := by have := p.base.low; have := p.hb; omega
theorem Pl.next (p : Pl w0 w b g c h n k s t A) : Pl w0 w b g c h n (k + 1) s t A := ⟨p.below, p.sents, p.f, p.m, p.hb, p.hg, p.hc, p.hh, p.base⟩

theorem Po.bel (p : Po w0 w b g c h n k s t A q x0 x1 x2 x3) (hb : Below w.heap.size w w') : Po w0 w' b g c h n k s t A q x0 x1 x2 x3 := ⟨p.pl.bel hb, p.o.below hb p.o.lt⟩
theorem Po.drew (p : Po w0 w b g c h n k s t A q x0 x1 x2 x3) : Po w0 w.drew b g c h n k s t A q x0 x1 x2 x3 := p.bel ⟨rfl, rfl, rfl, Nat.le_refl _, fun _ _ => rfl⟩
theorem Po.ff (p : Po w0 w b g c h n k s t A q x0 x1 x2 x3) (hf : Fr b g w w') (hd : Df w' b g n s') : Po w0 w' b g c h n k s' t A q x0 x1 x2 x3 :=
  ⟨p.pl.ff hf hd, hf.keeps p.o (Blk.ne p.o p.pl.f.d (by decide)) (Blk.ne p.o p.pl.f.k (by decide))⟩
theorem Po.mf (p : Po w0 w b g c h n k s t A q x0 x1 x2 x3) (hf : Fr c h w w') (hd : Dm w' c h n s') : Po w0 w' b g c h n k s s' A q x0 x1 x2 x3 :=
  ⟨p.pl.mf hf hd, hf.keeps p.o (Blk.ne p.o p.pl.m.d (by decide)) (Blk.ne p.o p.pl.m.k (by decide))⟩
theorem Po.block (p : Po w0 w b g c h n k s t A q x0 x1 x2 x3) : Calls Tryd.prog 22 #[opv x0 x1 x2 x3] w fun e w' => e = .returned (bk (opb x3 x2)) ∧ Po w0 w' b g c h n k s t A q x0 x1 x2 x3 :=
  (block_any w x0 x1 x2 x3).mono fun e w' ⟨he, hb⟩ => ⟨he, p.bel hb⟩
theorem Po.fwrite (p : Po w0 w b g c h n k s t A q x0 x1 x2 x3) (hk : s.Ok n k) (hk2 : k ≤ 1000) (hB : B.length = 64) :
    Calls Tryd.prog 12 #[pt b, n64 i, .agg (row B)] w fun e w' => e = .returned (eV A (s.wc n i)) ∧ Po w0 w' b g c h n k (s.write n i B) t A q x0 x1 x2 x3 :=
  (fwrite_all p.pl.f hk hk2 p.pl.sents p.pl.b1 hB).mono fun e w' ⟨he, hf, hd⟩ => ⟨he, p.ff hf hd⟩
theorem Po.mwrite (p : Po w0 w b g c h n k s t A q x0 x1 x2 x3) (hk : t.Ok n k) (hk2 : k ≤ 1000) (hn : n ≤ 5000) (hB : B.length = 64) :
    Calls Tryd.prog 23 #[pt c, n64 i, .agg (row B)] w fun e w' => e = .returned (n64 (t.wc n i)) ∧ Po w0 w' b g c h n k s (t.write n i B) A q x0 x1 x2 x3 :=
  (mwrite_all p.pl.m hk hk2 hn hB).mono fun e w' ⟨he, hf, hd⟩ => ⟨he, p.mf hf hd⟩
theorem Po.numw (p : Po w0 w b g c h n k s t A q x0 x1 x2 x3) (r : DS) : Calls Tryd.prog 21 #[eV A (r.wc n i)] w fun e w' => e = .returned (n64 (r.wc n i)) ∧ Po w0 w' b g c h n k s t A q x0 x1 x2 x3 :=
  (num_wc w A p.pl.sents r n i).mono fun e w' ⟨he, hb⟩ => ⟨he, p.bel hb⟩
theorem Po.numr (p : Po w0 w b g c h n k s t A q x0 x1 x2 x3) (r : DS) : Calls Tryd.prog 21 #[eV A (r.rc n i)] w fun e w' => e = .returned (n64 (r.rc n i)) ∧ Po w0 w' b g c h n k s t A q x0 x1 x2 x3 :=
  (num_rc w A p.pl.sents r n i).mono fun e w' ⟨he, hb⟩ => ⟨he, p.bel hb⟩
theorem Po.fread (p : Po w0 w b g c h n k s t A q x0 x1 x2 x3) : Calls Tryd.prog 11 #[pt b, n64 i] w fun e w' => e = .returned (.tuple #[bk (s.blk n i), eV A (s.rc n i)]) ∧ Po w0 w' b g c h n k s t A q x0 x1 x2 x3 :=
  (fread_all p.pl.f p.pl.sents).mono fun e w' ⟨he, hb⟩ => ⟨he, p.bel hb⟩
theorem Po.mread (p : Po w0 w b g c h n k s t A q x0 x1 x2 x3) (hn : n ≤ 5000) : Calls Tryd.prog 24 #[pt c, n64 i] w fun e w' => e = .returned (.tuple #[bk (t.blk n i), n64 (t.rc n i)]) ∧ Po w0 w' b g c h n k s t A q x0 x1 x2 x3 :=
  (mread_all p.pl.m hn).mono fun e w' ⟨he, hb⟩ => ⟨he, p.bel hb⟩
theorem Po.farm (p : Po w0 w b g c h n k s t A q x0 x1 x2 x3) : Calls Tryd.prog 10 #[pt b, n64 i] w fun e w' => e = .returned (.tuple #[]) ∧ Po w0 w' b g c h n k (s.arm i) t A q x0 x1 x2 x3 :=
  (farm_all p.pl.f).mono fun e w' ⟨he, hf, hd⟩ => ⟨he, p.ff hf hd⟩
theorem Po.marm (p : Po w0 w b g c h n k s t A q x0 x1 x2 x3) : Calls Tryd.prog 25 #[pt c, n64 i] w fun e w' => e = .returned (.tuple #[]) ∧ Po w0 w' b g c h n k s (t.arm i) A q x0 x1 x2 x3 :=
  (marm_all p.pl.m).mono fun e w' ⟨he, hf, hd⟩ => ⟨he, p.mf hf hd⟩
theorem Po.fon (p : Po w0 w b g c h n k s t A q x0 x1 x2 x3) : Calls Tryd.prog 15 #[pt b] w fun e w' => e = .returned (.tuple #[]) ∧ Po w0 w' b g c h n k s.on t A q x0 x1 x2 x3 :=
  (fon_all p.pl.f).mono fun e w' ⟨he, hf, hd⟩ => ⟨he, p.ff hf hd⟩
theorem Po.mon (p : Po w0 w b g c h n k s t A q x0 x1 x2 x3) : Calls Tryd.prog 26 #[pt c] w fun e w' => e = .returned (.tuple #[]) ∧ Po w0 w' b g c h n k s t.on A q x0 x1 x2 x3 :=
  (mon_all p.pl.m).mono fun e w' ⟨he, hf, hd⟩ => ⟨he, p.mf hf hd⟩
end

/-- A slice of operations, read. -/
def Rd4 (w : World) (v : Value) (l : List (Int × Int × Int × Int)) : Prop :=
  ∃ (ao : Option Addr) (cap : Nat), v = .slice ao l.length cap ∧ (l.length ≠ 0 → ∃ b off, ao = some ⟨b, off, none⟩ ∧ b < w.heap.size ∧
    ∀ k, k < l.length → w.cell? ⟨b, off + k * 4, none⟩ = some (n64 (l.getD k (0, 0, 0, 0)).1) ∧ w.cell? ⟨b, off + k * 4 + 1, none⟩ = some (n64 (l.getD k (0, 0, 0, 0)).2.1) ∧
      w.cell? ⟨b, off + k * 4 + 2, none⟩ = some (n64 (l.getD k (0, 0, 0, 0)).2.2.1) ∧ w.cell? ⟨b, off + k * 4 + 3, none⟩ = some (.int .u8 (l.getD k (0, 0, 0, 0)).2.2.2))
end Go.Proofs.YtjjaghiihkdclaaDoor
