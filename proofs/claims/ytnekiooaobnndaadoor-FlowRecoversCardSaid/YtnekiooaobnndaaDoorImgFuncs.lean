/-
 isa.Size and the document's SizeOf: how many bytes an instruction has.
 Blocks of the heap by colours: each part of a structure lies in blocks of its own colour, so what turns one part leaves the others. No program is named here.
 image.funcs: may an image's functions be?
-/
import Derived.Test.YtnekiooaobnndaaDoorNumsCopy
import Derived.Test.YtnekiooaobnndaaDoorImgOpen
import Derived.Test.YtnekiooaobnndaaDoorImgName
import Derived.Deep.QuietTactic
import Derived.BigQuiet
section
set_option linter.all false
namespace Go.Proofs.YtnekiooaobnndaaDoor
open Go.RowKit BH
set_option maxHeartbeats 1000000
set_option maxRecDepth 100000

/-- the package-level table isa.sizes holds them -/
def Siz (w : World) : Prop := ∀ s, s < 12 → w.cell? ⟨1, s, none⟩ = some (.int .i64 (sizeT s))
theorem Siz.keep {w w' : World} (h : Siz w) (hk : Keeps w w') : Siz w' := fun s hs => hk.cell (h s hs)

def shapeN (k : Nat) : Nat := [0, 1, 1, 1, 1, 2, 3, 4, 4, 4, 4, 4, 4, 4, 3, 5, 6, 7, 8, 8, 8, 8, 9, 10, 11].getD k 0
theorem shapeN_eq (k : Nat) (h : k ≤ 24) : shapeT k = shapeN k ∧ shapeN k < 12 := by
 have : ∀ k, k < 25 → shapeT k = shapeN k ∧ shapeN k < 12 := by decide
 exact this k (by omega)
theorem sizeT_bd (s : Nat) (h : s < 12) : 0 ≤ sizeT s ∧ sizeT s ≤ 4 := by
 have : ∀ s, s < 12 → 0 ≤ sizeT s ∧ sizeT s ≤ 4 := by decide
 exact this s h
/-- how many bytes an instruction of the kind k has -/
def insSize (k : Nat) (Lg : Bool) : Int := sizeT (shapeN k) + if Lg then 1 else 0
/-- the document's sizeOf -/
theorem refSize_any (k : Nat) (h1 : 1 ≤ k) (h2 : k ≤ 24) (D A B N : Int) (Lg : Bool) (w : World) :
  Calls Tryd.prog 35 #[insV k D A B N Lg] w fun e w' => e = .returned (.int .i64 (insSize k Lg)) ∧ Keeps w w' := by
 have hk : (k ≤ 4 ∧ sizeT (shapeN k) = 1) ∨ (k = 5 ∧ sizeT (shapeN k) = 4) ∨ ((k = 16 ∨ k = 17 ∨ k = 22) ∧ sizeT (shapeN k) = 2) ∨ ((k ≠ 5 ∧ k ≠ 16 ∧ k ≠ 17 ∧ k ≠ 22 ∧ 4 < k) ∧ sizeT (shapeN k) = 3) := by
  have h24 : k = 1 ∨ k = 2 ∨ k = 3 ∨ k = 4 ∨ k = 5 ∨ k = 6 ∨ k = 7 ∨ k = 8 ∨ k = 9 ∨ k = 10 ∨ k = 11 ∨ k = 12 ∨ k = 13 ∨ k = 14 ∨ k = 15 ∨ k = 16 ∨ k = 17 ∨ k = 18 ∨ k = 19 ∨ k = 20 ∨ k = 21 ∨ k = 22 ∨ k = 23 ∨ k = 24 := by omega
  rcases h24 with rfl | rfl | rfl | rfl | rfl | rfl | rfl | rfl | rfl | rfl | rfl | rfl | rfl | rfl | rfl | rfl | rfl | rfl | rfl | rfl | rfl | rfl | rfl | rfl <;> simp [sizeT, shapeN]
 have HK := Lib.hid hk
 clear hk
 unfold insV
 cases Lg
 all_goals
  rcases HK.out with ⟨g, hz⟩ | ⟨g, hz⟩ | ⟨g, hz⟩ | ⟨g, hz⟩
  all_goals
   have HZ := Lib.hid hz
   clear hz
   go_enter Tryd.func35, Tryd.ntmps35
   go_wp2
   all_goals first
    | (go_ret
       exact ⟨by unfold insSize; rw [HZ.out]; rfl, (Keeps.refl _).alloc _⟩)
    | (exfalso; simp only [beq_iff_eq, beq_eq_false_iff_ne, ne_eq] at *; omega)
end Go.Proofs.YtnekiooaobnndaaDoor
end
section
namespace Go.Proofs.YtnekiooaobnndaaDoor.BH
open Go.RowKit
set_option maxRecDepth 100000
/-- From w, coloured by c, to w', coloured by c': only blocks of the colours of I have turned, new ones have come, old ones keep their colour. -/
structure Turn (I : Nat → Prop) (c : Nat → Nat) (w : World) (c' : Nat → Nat) (w' : World) : Prop where
 only : Only (fun b => I (c b)) w w'
 col : ∀ b, b < w.heap.size → c' b = c b
section
variable {I J : Nat → Prop} {c c' c1 c2 : Nat → Nat} {w w' w1 w2 : World}
theorem Turn.refl (I : Nat → Prop) (c : Nat → Nat) (w : World) : Turn I c w c w := ⟨Only.refl _ _, fun _ _ => rfl⟩
theorem Turn.size (h : Turn I c w c' w') : w.heap.size ≤ w'.heap.size := h.only.size
theorem Turn.trans (h : Turn I c w c1 w1) (k : Turn I c1 w1 c2 w2) : Turn I c w c2 w2 :=
 ⟨h.only.trans' k.only (fun x hx => by
  rcases Nat.lt_or_ge x w.heap.size with q | q
  ·exact Or.inl (by rw [← h.col x q]; exact hx)
  ·exact Or.inr q), fun b hb => (k.col b (Nat.lt_of_lt_of_le hb h.size)).trans (h.col b hb)⟩
theorem Turn.mono (h : Turn I c w c' w') (hij : ∀ i, I i → J i) : Turn J c w c' w' := ⟨h.only.mono fun _ q => hij _ q, h.col⟩
theorem Keeps.turn (h : Keeps w w') (I : Nat → Prop) (c : Nat → Nat) : Turn I c w c w' := ⟨h.only _, fun _ _ => rfl⟩
theorem Turn.keep (h : Turn I c w c' w1) (k : Keeps w1 w') : Turn I c w c' w' := h.trans (k.turn I c')
/-- what stood when B blocks were there, all of them of colour 0 -/
theorem Turn.below (h : Turn I c w c' w') {B : Nat} (hB : B ≤ w.heap.size) (h0 : ∀ b, b < B → c b = 0) (hI : ¬ I 0) : Below B w w' :=
 ⟨h.only.os, h.only.tape, h.only.output, h.only.size, fun b hb => h.only.block b (by omega) fun q => hI (by rw [← h0 b hb]; exact q)⟩
theorem Turn.zero (h : Turn I c w c' w') {B : Nat} (hB : B ≤ w.heap.size) (h0 : ∀ b, b < B → c b = 0) : ∀ b, b < B → c' b = 0 := fun b hb => (h.col b (by omega)).trans (h0 b hb)
theorem Turn.set (c : Nat → Nat) (w : World) (b o : Nat) (u : Value) : Turn (fun i => i = c b) c w c (w.setCell ⟨b, o, none⟩ u) := ⟨Only.set w b o u rfl, fun _ _ => rfl⟩
theorem grown_turn {row : Option Nat} (h : w.grownBy w' row) {i : Nat} (hr : ∀ b, row = some b → c b = i) : Turn (fun x => x = i) c w c w' := ⟨grown_only h fun b e => hr b e, fun _ _ => rfl⟩
end
/-- P holds by blocks of the colour i alone. -/
def Part (i : Nat) (P : World → Prop) (c : Nat → Nat) (w : World) : Prop := ∃ S, Foot S P w ∧ ∀ b, S b → c b = i
section
variable {I : Nat → Prop} {i : Nat} {P Q : World → Prop} {c c' : Nat → Nat} {w w' : World}
theorem Part.here (h : Part i P c w) : P w := by obtain ⟨S, h1, _⟩ := h; exact h1.here
theorem Part.turn (h : Part i P c w) (t : Turn I c w c' w') (hi : ¬ I i) : Part i P c' w' := by
 obtain ⟨S, h1, h2⟩ := h
 exact ⟨S, h1.move t.size fun b hb => t.only.block b (h1.1 b hb) fun q => hi (by rw [← h2 b hb]; exact q), fun b hb => (t.col b (h1.1 b hb)).trans (h2 b hb)⟩
theorem Part.keep (h : Part i P c w) (k : Keeps w w') : Part i P c w' := h.turn (k.turn (fun _ => False) c) (fun q => q)
theorem Part.imp (h : Part i P c w) (hpq : ∀ w, P w → Q w) : Part i Q c w := by obtain ⟨S, h1, h2⟩ := h; exact ⟨S, h1.imp hpq, h2⟩
theorem Part.and (h : Part i P c w) (k : Part i Q c w) : Part i (fun w => P w ∧ Q w) c w := by
 obtain ⟨S, h1, h2⟩ := h
 obtain ⟨T, k1, k2⟩ := k
 exact ⟨_, h1.and k1, fun b hb => hb.elim (h2 b) (k2 b)⟩
end
/-- a block of colour i -/
def BlkC (i : Nat) (c : Nat → Nat) (w : World) (g : Nat) (o : Obj) : Prop := Blk w g o ∧ c g = i
section
variable {I : Nat → Prop} {i : Nat} {c c' : Nat → Nat} {w w' : World} {g : Nat} {o : Obj}
theorem BlkC.turn (h : BlkC i c w g o) (t : Turn I c w c' w') (hi : ¬ I i) : BlkC i c' w' g o :=
 ⟨(t.only.block g h.1.lt fun q => hi (by rw [← h.2]; exact q)).trans h.1, (t.col g h.1.lt).trans h.2⟩
theorem BlkC.keep (h : BlkC i c w g o) (k : Keeps w w') : BlkC i c w' g o := ⟨h.1.keep k, h.2⟩
theorem BlkC.set {cs : Array Value} {e : TypeId} (h : BlkC i c w g (.cells cs e)) (j : Nat) (u : Value) : BlkC i c (w.setCell ⟨g, j, none⟩ u) g (.cells (cs.setIfInBounds j u) e) ∧ Turn (fun x => x = i) c w c (w.setCell ⟨g, j, none⟩ u) :=
 ⟨⟨Blk.set h.1 j u, h.2⟩, (Turn.set c w g j u).mono fun x hx => by rw [hx, h.2]⟩
end
/-- two new blocks, of colour i -/
theorem two_paint (w : World) (c : Nat → Nat) (o1 o2 : Obj) (i : Nat) : ∃ (W : World) (c1 : Nat → Nat), W = (w.alloc o1).alloc o2 ∧ Keeps w W ∧ (∀ I, Turn I c w c1 W) ∧ BlkC i c1 W w.heap.size o1 ∧ BlkC i c1 W (w.heap.size + 1) o2 :=
 ⟨_, fun b => if w.heap.size ≤ b then i else c b, rfl, ((Keeps.refl w).alloc _).alloc _, fun _ => ⟨(((Keeps.refl w).alloc _).alloc _).only _, fun b hb => if_neg (by omega)⟩,
  ⟨(Blk.top _ _).keep ((Keeps.refl _).alloc _), if_pos (Nat.le_refl _)⟩, ⟨Blk.top' _ _ (by rw [sz_alloc]), if_pos (by omega)⟩⟩
theorem one_paint (w : World) (c : Nat → Nat) (o : Obj) (i : Nat) : ∃ (W : World) (c1 : Nat → Nat), W = w.alloc o ∧ Keeps w W ∧ (∀ I, Turn I c w c1 W) ∧ BlkC i c1 W w.heap.size o :=
 ⟨_, fun b => if w.heap.size ≤ b then i else c b, rfl, (Keeps.refl w).alloc _, fun _ => ⟨((Keeps.refl w).alloc _).only _, fun b hb => if_neg (by omega)⟩, ⟨Blk.top _ _, if_pos (Nat.le_refl _)⟩⟩
/-- a row of the call's own, of colour i -/
def OwnC {α : Type} (i : Nat) (c : Nat → Nat) (w : World) (base : Nat) (e : TypeId) (k : Nat) (f : α → List Value) (v : Value) (l : List α) : Prop := Own w base e k f v l ∧ ∀ b, v.ownBlock = some b → c b = i
section
variable {α : Type} {I : Nat → Prop} {i : Nat} {c c' : Nat → Nat} {w w' w7 wa : World} {base : Nat} {e : TypeId} {k : Nat} {f : α → List Value} {v v7 : Value} {l l7 : List α}
theorem OwnC.nil (i : Nat) (c : Nat → Nat) (w : World) (base : Nat) (e : TypeId) (k : Nat) (f : α → List Value) : OwnC i c w base e k f (.slice none 0 0) [] := ⟨Own.nil _ _ _ _ _, fun _ q => by cases q⟩
theorem OwnC.turn (h : OwnC i c w base e k f v l) (t : Turn I c w c' w') (hi : ¬ I i) : OwnC i c' w' base e k f v l :=
 ⟨Own.only t.only h.1 fun g q => fun z => hi (by rw [← h.2 g q]; exact z), fun b q => (t.col b (own_lt' h.1 q)).trans (h.2 b q)⟩
theorem OwnC.keep (h : OwnC i c w base e k f v l) (q : Keeps w w') : OwnC i c w' base e k f v l := ⟨h.1.keep q, h.2⟩
/-- behind an append -/
theorem OwnC.push (h : OwnC i c w base e k f v l) (ka : Keeps w wa) (o7 : Own w7 base e k f v7 l7) (g7 : wa.grownBy w7 v.ownBlock) (f7 : ∀ b, v7.ownBlock = some b → v.ownBlock = some b ∨ wa.heap.size ≤ b) :
  ∃ c', Turn (fun x => x = i) c w c' w7 ∧ OwnC i c' w7 base e k f v7 l7 := by
 classical
 have hs := ka.size
 have h1 : Turn (fun x => x = i) c w c w7 := (ka.turn _ c).trans (grown_turn g7 fun b q => h.2 b q)
 refine ⟨fun b => if v7.ownBlock = some b then i else c b, ⟨h1.only, fun b hb => ?_⟩, o7, fun b q => if_pos q⟩
 show (if v7.ownBlock = some b then i else c b) = c b
 split
 ·rename_i q
  rcases f7 b q with z | z
  ·exact (h.2 b z).symm
  ·omega
 ·rfl
/-- a row that a callee has made -/
theorem OwnC.fresh (c : Nat → Nat) (i : Nat) {wb : World} (hk : Keeps wb w) (h : Own w base e k f v l) (hb : wb.heap.size ≤ base) : ∃ c', (∀ I, Turn I c wb c' w) ∧ OwnC i c' w base e k f v l :=
 ⟨fun b => if wb.heap.size ≤ b then i else c b, fun I => ⟨hk.only _, fun b q => if_neg (by omega)⟩, h, fun b q => if_pos (Nat.le_trans hb (h.row b q))⟩
theorem OwnC.part (h : OwnC i c w base e k f v l) : Part i (fun w => Own w base e k f v l) c w := ⟨_, h.1.foot, h.2⟩
end
/-- a map, of colour i -/
def MapC (i : Nat) (c : Nat → Nat) {κ ν : Type} (P : Program) (k e : TypeId) (enc : κ → Value) (wf : κ → Prop) (lit : ν → DataW Unit) (w : World) (b n : Nat) (m : κ → Option ν) : Prop := MapF P k e enc wf lit w b n m ∧ c b = i
section
variable {κ ν : Type} {I : Nat → Prop} {i : Nat} {c c' : Nat → Nat} {w w' : World} {P : Program} {k e : TypeId} {enc : κ → Value} {wf : κ → Prop} {lit : ν → DataW Unit} {b n : Nat} {m : κ → Option ν}
theorem MapC.turn (h : MapC i c P k e enc wf lit w b n m) (t : Turn I c w c' w') (hi : ¬ I i) : MapC i c' P k e enc wf lit w' b n m := by
 have hlt := h.1.lt
 refine ⟨?_, (t.col b hlt).trans h.2⟩
 have hb := t.only.block b hlt (fun q => hi (by rw [← h.2]; exact q))
 obtain ⟨⟨D, ⟨es, clock, hb0, F, hs, hD⟩, h2⟩, _⟩ := h
 exact ⟨D, ⟨es, clock, hb.trans hb0, F, hs, hD⟩, h2⟩
theorem MapC.keep (h : MapC i c P k e enc wf lit w b n m) (q : Keeps w w') : MapC i c P k e enc wf lit w' b n m := ⟨h.1.keep q, h.2⟩
theorem MapC.put (h : MapC i c P k e enc wf lit w b n m) (hg : w.grownBy w' (some b)) : Turn (fun x => x = i) c w c w' := grown_turn hg fun x q => by cases q; exact h.2
theorem MapC.mono (h : MapC i c P k e enc wf lit w b n m) {n' : Nat} (hn : n ≤ n') : MapC i c P k e enc wf lit w b n' m := ⟨h.1.mono hn, h.2⟩
end
end Go.Proofs.YtnekiooaobnndaaDoor.BH
end
section
namespace Go.Proofs.YtnekiooaobnndaaDoor
open Go.RowKit BH
set_option maxHeartbeats 1000000
set_option maxRecDepth 100000

theorem sameName_any (f : Fu) (s : ByteArray) (b : Nat) (w : World) (hb : w.cell? ⟨b, 0, none⟩ = some (.string s)) :
  Calls Tryd.prog 66 #[.agg #[.string f.Name, .int .i64 f.Start, .int .i64 f.Size], .pointer (some ⟨b, 0, none⟩)] w fun e w' => e = .returned (.bool (f.Name.toList == s.toList)) ∧ Keeps w w' := by
 have hlt : b < w.heap.size := lt_of_cell hb
 go_enter Tryd.func66, Tryd.ntmps66
 go_wp2
 go_ret
 exact ⟨rfl, (Keeps.refl _).alloc _⟩

theorem funcs_any (v : Value) (m : Img) (w : World) (hv : ImgAt w v m) :
  Calls Tryd.prog 37 #[v] w fun e w' => e = .returned (.int .i64 (funcsFault m)) ∧ Keeps w w' := by
 obtain ⟨v0, v1, v2, v3, v4, rfl, ⟨ao0, c0, rfl, t1, t2, -, -⟩, ⟨ao, cap, rfl, h1, h2, -, h3⟩, -, -, -⟩ := hv
 unfold maxLen at h2 t2
 obtain ⟨W1, hW1, hkW, hsW, i0, i1, i2, i3, i4, i5⟩ := box6 w 28 (.slice ao0 m.Text.length c0) (.slice ao m.Funcs.length cap) v2 v3 v4 (.int .i64 m.Entry)
 have HW := Lib.hid hW1
 clear hW1 i2 i3 i4 i5
 by_cases hbig : 40 < m.Funcs.length
 ·have HF := Lib.hid (show funcsFault m = 1 by unfold funcsFault; rw [if_pos hbig])
  clear h3 i0 i1
  go_enter Tryd.func37, Tryd.ntmps37
  go_wp2
  go_ret
  exact ⟨by rw [HF.out]; rfl, (Keeps.refl _).alloc _⟩
 ·have HF := Lib.hid (show funcsFault m = scan (funBad m) (endFault m 0) (m.Funcs.length - 0) 0 by unfold funcsFault; rw [if_neg hbig]; rfl)
  have eg : ∀ args w, (callFunc 66 args).run Tryd.prog w = .ok (.enter 66 args) w := enters_of Tryd.func66 (by kernel_rfl) rfl
  have EG := Lib.hid eg
  clear eg
  go_enter Tryd.func37, Tryd.ntmps37
  go_wp2
  rw [← HW.out]
  go_loopw [3, 4, 5, 13] (fun s3 _ _ s13 wr => ∃ k : Nat, k ≤ m.Funcs.length ∧ s3 = .int .i64 (sumF m k) ∧ s13 = .int .i64 k ∧ 0 ≤ sumF m k ∧ sumF m k ≤ m.Text.length ∧ Keeps W1 wr ∧ Hid (scan (funBad m) (endFault m 0) (m.Funcs.length - k) k = funcsFault m)) (fun _ _ _ i _ => m.Funcs.length - (intOf i).toNat)
  case atStart => exact ⟨0, Nat.zero_le _, rfl, rfl, by simp [sumF], by simp [sumF], Keeps.refl _, HF.out.symm⟩
  case round =>
   obtain ⟨k, hk, rfl, rfl, hs0, hs1, hkeep, hscan⟩ := hrel
   have j0 := hkeep.cell i0
   have j1 := hkeep.cell i1
   have hkk := hkW.trans hkeep
   have hin : w.heap.size < wr.heap.size := Nat.lt_of_lt_of_le hsW hkeep.size
   by_cases hlt : k < m.Funcs.length
   ·obtain ⟨b, off, rfl, hc⟩ := h3 (by omega)
    have hc0 : wr.cell? ⟨b, off + k * 3, none⟩ = some (.string (nth m.Funcs k).Name) := hkk.cell (hc k 0 hlt (by omega))
    have hc1 : wr.cell? ⟨b, off + k * 3 + 1, none⟩ = some (.int .i64 (nth m.Funcs k).Start) := hkk.cell (hc k 1 hlt (by omega))
    have hc2 : wr.cell? ⟨b, off + k * 3 + 2, none⟩ = some (.int .i64 (nth m.Funcs k).Size) := hkk.cell (hc k 2 hlt (by omega))
    have hA : Arr wr (.slice (some ⟨b, off, none⟩) k cap) k 3 (fun i j => (nth m.Funcs i).c j) :=
     ⟨_, _, rfl, by omega, by unfold maxLen; omega, (fun h => by cases h), fun _ => ⟨b, off, rfl, fun i j hi hj => hkk.cell (hc i j (by omega) hj)⟩⟩
    have hp : ∀ W, W.cell? ⟨wr.heap.size, 0, none⟩ = some (.string (nth m.Funcs k).Name) → PredIn Tryd.prog 66 #[.pointer (some ⟨wr.heap.size, 0, none⟩)] k (fun i => .agg #[(nth m.Funcs i).c 0, (nth m.Funcs i).c 1, (nth m.Funcs i).c 2]) (sameName m k) W :=
     fun W hW W' i hi hk' => (sameName_any (nth m.Funcs i) (nth m.Funcs k).Name wr.heap.size W' (hk'.cell hW)).mono fun e w' h => h
    have HP := Lib.hid hp
    clear hc h3 i0 i1 hp
    rcases funBad_cases m k with ⟨hn, hv⟩ | ⟨hn, hrest⟩
    ·have HB := Lib.hid ((scan_stop hlt (by rw [hv]; decide) hscan.out).trans hv)
     clear hscan hA hv
     go_wp2_with fail
     refine (name_any _ _).mono ?_
     rintro e w1 ⟨rfl, hk1⟩
     unfold fname at hn
     go_wp2
     go_ret
     exact ⟨by rw [HB.out]; rfl, (hkk.alloc _).trans hk1⟩
    ·unfold fname at hn
     have HR := Lib.hid hrest
     clear hrest
     go_wp2_with fail
     refine (name_any _ _).mono ?_
     rintro e w1 ⟨rfl, hk1⟩
     have f0 : w1.cell? ⟨wr.heap.size, 0, none⟩ = some (.string (nth m.Funcs k).Name) := hk1.cell (by simp)
     have f1 : w1.cell? ⟨wr.heap.size, 1, none⟩ = some (.int .i64 (nth m.Funcs k).Start) := hk1.cell (by simp)
     have f2 : w1.cell? ⟨wr.heap.size, 2, none⟩ = some (.int .i64 (nth m.Funcs k).Size) := hk1.cell (by simp)
     have hkw1 : Keeps wr w1 := ((Keeps.refl wr).alloc _).trans hk1
     have q0 := hkw1.cell j0
     have q1 := hkw1.cell j1
     clear hc0 hc1 hc2 j0 j1
     go_wp2_with fail
     refine (containsFunc_fun _ k _ (sameName m k) _ _ _ (hA.keep hkw1) EG.out (HP.out _ f0)).mono ?_
     rintro e w2 ⟨rfl, hk2⟩
     have g0 := hk2.cell f0
     have g1 := hk2.cell f1
     have g2 := hk2.cell f2
     have r0 := hk2.cell q0
     have r1 := hk2.cell q1
     have hkw2 := hkk.trans (hkw1.trans hk2)
     have hkw2' := hkeep.trans (hkw1.trans hk2)
     clear f0 f1 f2 q0 q1 hA
     rcases HR.out with ⟨ha, hv⟩ | ⟨ha, ⟨hs, hv⟩ | ⟨⟨hs2, hs3, hs4⟩, hv⟩⟩
     ·have HB := Lib.hid ((scan_stop hlt (by rw [hv]; decide) hscan.out).trans hv)
      clear hscan hv
      go_wp2
      go_ret
      exact ⟨by rw [HB.out]; rfl, hkw2⟩
     ·have HB := Lib.hid ((scan_stop hlt (by rw [hv]; decide) hscan.out).trans hv)
      clear hscan hv
      go_wp2
      all_goals first
       | (exfalso; omega)
       | (go_ret
          exact ⟨by rw [HB.out]; rfl, hkw2⟩)
     ·have HB := Lib.hid (scan_step hlt hv hscan.out)
      have d1 : ((nth m.Funcs k).Start == sumF m k) = true := by simpa using hs2
      have d2 : ((nth m.Funcs k).Start != sumF m k) = false := by simpa using hs2
      have HS := Lib.hid (show sumF m (k + 1) = sumF m k + (nth m.Funcs k).Size from rfl)
      clear hscan hv hs2
      go_wp2
      all_goals first
       | (exfalso; omega)
       | (go_roundw
          case rel => exact ⟨k + 1, by omega, by rw [HS.out], by go_num, by rw [HS.out]; omega, by rw [HS.out]; omega, hkw2', HB.out⟩
          case measure => simp [intOf]; omega)
   ·obtain rfl : k = m.Funcs.length := by omega
    have HE := Lib.hid (scan_end rfl hscan.out)
    clear h3 hscan
    by_cases he : sumF m m.Funcs.length = (m.Text.length : Int)
    ·have HV := Lib.hid (HE.out.trans (show endFault m 0 = 0 by unfold endFault; rw [if_neg (by simpa using he)]))
     have d1 : (sumF m m.Funcs.length != (m.Text.length : Int)) = false := by simpa using he
     clear he
     go_wp2
     go_ret
     exact ⟨by rw [HV.out]; rfl, hkk⟩
    ·have HV := Lib.hid (HE.out.trans (show endFault m 0 = 8 by unfold endFault; rw [if_pos he]))
     have d1 : (sumF m m.Funcs.length != (m.Text.length : Int)) = true := by simpa using he
     clear he
     go_wp2
     go_ret
     exact ⟨by rw [HV.out]; rfl, hkk⟩
end Go.Proofs.YtnekiooaobnndaaDoor
end
