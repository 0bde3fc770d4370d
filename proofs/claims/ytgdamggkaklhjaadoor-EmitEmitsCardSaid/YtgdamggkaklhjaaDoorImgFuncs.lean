/-
The bytes of an instruction, as a plain function; the small 
-/
import Derived.Test.YtgdamggkaklhjaaDoorShf
import Derived.Test.YtgdamggkaklhjaaDoorNumsCopy
set_option linter.all false
section
namespace Go.Proofs.YtgdamggkaklhjaaDoor
open Go.RowKit BH
set_option maxHeartbeats 1000000
set_option maxRecDepth 100000

def cu (x : Int) : List Value := [.int .u8 x]
theorem cu_len (x : Int) : (cu x).length = 1 := rfl
theorem cu_one (x : Int) : ∀ u ∈ cu x, u.oneCell' = true := by intro u hu; simp only [cu, List.mem_singleton] at hu; subst hu; rfl
def Octs (w : World) (v : Value) (l : List Int) : Prop := Arr w v l.length 1 (fun i _ => .int .u8 (nth l i))
theorem own_octs {w : World} {base : Nat} {e : TypeId} {v : Value} {l : List Int} (h : Own w base e 1 cu v l) : Octs w v l :=
 (h.arr cu_len).congr fun i j _ hj => by rw [show j = 0 by omega]; rfl
def GivesE (P : Value → World → Prop) (er : Int) (w : World) (e : Ending) (w' : World) : Prop := ∃ v, e = .returned (.tuple #[v, .int .i64 er]) ∧ P v w' ∧ Keeps w w'

def lowB (n : Int) : Int := n % 256
def highB (n : Int) : Int := n / 256 % 256
def lastB (N : Int) (Lg : Bool) : List Int := bif Lg then [lowB N, highB N] else [lowB N]
def insBytes (k : Nat) (D A B N : Int) (Lg : Bool) : List Int :=
 (bif Lg then longT k else opT k) ::
 (if k ≤ 4 then []
 else if k ≤ 5 then [D, lowB N, highB N]
 else if k ≤ 6 then [D * 16 + A, lowB N]
 else if k ≤ 13 then [D * 16 + A, B]
 else if k ≤ 14 then [D * 16 + A, lowB N]
 else if k ≤ 15 then [B * 16 + A, lowB N]
 else if k ≤ 16 then [D]
 else if k ≤ 17 then [A]
 else if k ≤ 21 then (A * 16 + B) :: lastB N Lg
 else if k ≤ 22 then lastB N Lg
 else if k ≤ 23 then [lowB N, highB N]
 else [A, lowB N])

theorem fault_zero {d a b n lz : Bool} {r : Nat} {D A B N : Int} {Lg : Bool} (h : fault d a b n lz r D A B N Lg = 0) :
  regsOk D A B ∧ -32768 ≤ N ∧ N ≤ 32767 ∧ (lz = true → Lg = false) := by
 unfold fault at h
 split at h
 ·cases h
 rename_i h1
 split at h
 ·cases h
 rename_i h2
 split at h
 ·cases h
 rename_i h3
 have H1 : regsOk D A B := Decidable.not_not.1 h2
 have H0 : rangeOk r N Lg := Decidable.not_not.1 h3
 refine ⟨H1, ?_⟩
 unfold rangeOk at H0
 have hb : -32768 ≤ N ∧ N ≤ 32767 := by
  split at H0
  ·exact H0
  split at H0 <;> omega
 refine ⟨hb.1, hb.2, fun hl => ?_⟩
 cases Lg with
 | false => rfl
 | true => exact absurd (Or.inr (Or.inr (Or.inr (Or.inr ⟨rfl, hl⟩)))) h1
theorem insFault_zero {k : Nat} {D A B N : Int} {Lg : Bool} (h : insFault k D A B N Lg = 0) :
  1 ≤ k ∧ k ≤ 24 ∧ regsOk D A B ∧ -32768 ≤ N ∧ N ≤ 32767 ∧ ((k < 18 ∨ 22 < k) → Lg = false) := by
 obtain ⟨b1, b2⟩ := insFault_kind h
 obtain ⟨lo, hi, s, d, a, b, n, lz, r, hm, h1, h2, -, -⟩ := kinds k jo jo
 rw [insFault_row hm h1 h2] at h
 obtain ⟨x, y, z, u⟩ := fault_zero h
 refine ⟨by omega, by omega, x, y, z, fun q => u ?_⟩
 rcases rows hm with h | h | h | h | h | h | h | h | h | h | h | h
 all_goals
  obtain ⟨rfl, rfl, -, -, -, -, -, e, -⟩ := h
  first | exact e | (exfalso; omega)

theorem or_regs (x y : Int) (h1 : 0 ≤ x) (h2 : x < 8) (h3 : 0 ≤ y) (h4 : y < 8) : bits BinOp.or IntKind.i64 (x * 16) y % 256 = x * 16 + y := by
 obtain ⟨a, rfl⟩ : ∃ a : Nat, x = a := ⟨x.toNat, by omega⟩
 obtain ⟨b, rfl⟩ : ∃ b : Nat, y = b := ⟨y.toNat, by omega⟩
 have : ∀ a : Nat, a < 8 → ∀ b : Nat, b < 8 → bits BinOp.or IntKind.i64 ((a : Int) * 16) (b : Int) % 256 = (a : Int) * 16 + b := by decide +kernel
 exact this a jo b jo
theorem tmod_nonneg {n m : Int} (h : 0 ≤ n) : n.tmod m = n % m := Int.tmod_eq_emod_of_nonneg h
theorem tmod_neg {n m : Int} (h : n < 0) : n.tmod m = -((-n) % m) := by
 have e : n = -(-n) := by omega
 rw [e, Int.neg_tmod, Int.tmod_eq_emod_of_nonneg jo]
 rw [Int.neg_neg]
theorem wrap_256 (n : Int) (h1 : -32768 ≤ n) (h2 : n ≤ 32767) : (wrap64 (n.tmod 256 + 256)).tmod 256 = n % 256 := by
 by_cases h : 0 ≤ n
 ·rw [tmod_nonneg h]
  rw [show wrap64 (n % 256 + 256) = n % 256 + 256 by unfold wrap64; omega, tmod_nonneg jo]
  omega
 rw [tmod_neg (n := n) jo]
 rw [show wrap64 (-(-n % 256) + 256) = -(-n % 256) + 256 by unfold wrap64; omega, tmod_nonneg jo]
 omega
theorem wrap_65536 (n : Int) (h1 : -32768 ≤ n) (h2 : n ≤ 32767) : (wrap64 (n.tmod 65536 + 65536)).tmod 65536 = n % 65536 := by
 by_cases h : 0 ≤ n
 ·rw [tmod_nonneg h]
  rw [show wrap64 (n % 65536 + 65536) = n % 65536 + 65536 by unfold wrap64; omega, tmod_nonneg jo]
  omega
 rw [tmod_neg (n := n) jo]
 rw [show wrap64 (-(-n % 65536) + 65536) = -(-n % 65536) + 65536 by unfold wrap64; omega, tmod_nonneg jo]
 omega
theorem ret_num {k : IntKind} {a b : Int} (h : a = b) : Ending.returned (.int k a) = .returned (.int k b) := by rw [h]
theorem two_any (n : Int) (w : World) :
  Calls Tryd.prog 62 #[.int .i64 n] w fun e w' => e = .returned (.slice (some ⟨w.heap.size, 0, none⟩) 2 2) ∧ w.alloc (.cells #[.int .u8 (lowB n), .int .u8 (highB n)] 5) = w' := by
 go_enter Tryd.func62, Tryd.ntmps62
 go_wp2
 go_ret
 exact ⟨rfl, rfl⟩
theorem nibbles_any (x y : Int) (w : World) (h1 : 0 ≤ x) (h2 : x < 8) (h3 : 0 ≤ y) (h4 : y < 8) :
  Calls Tryd.prog 63 #[.int .i64 x, .int .i64 y] w fun e w' => e = .returned (.int .u8 (x * 16 + y)) ∧ w = w' := by
 go_enter Tryd.func63, Tryd.ntmps63
 go_wp2
 go_ret
 exact ⟨ret_num (or_regs x y h1 h2 h3 h4), rfl⟩
theorem wrap256_any (n : Int) (w : World) (h1 : -32768 ≤ n) (h2 : n ≤ 32767) :
  Calls Tryd.prog 46 #[.int .i64 n, .int .i64 256] w fun e w' => e = .returned (.int .i64 (n % 256)) ∧ w = w' := by
 go_enter Tryd.func46, Tryd.ntmps46
 go_wp2
 go_ret
 exact ⟨ret_num (wrap_256 n h1 h2), rfl⟩
theorem wrap65536_any (n : Int) (w : World) (h1 : -32768 ≤ n) (h2 : n ≤ 32767) :
  Calls Tryd.prog 46 #[.int .i64 n, .int .i64 65536] w fun e w' => e = .returned (.int .i64 (n % 65536)) ∧ w = w' := by
 go_enter Tryd.func46, Tryd.ntmps46
 go_wp2
 go_ret
 exact ⟨ret_num (wrap_65536 n h1 h2), rfl⟩
theorem op_bounds (k : Nat) (h : k ≤ 24) : 0 ≤ opT k ∧ opT k < 256 ∧ 0 ≤ longT k ∧ longT k < 256 := by
 have : ∀ k, k < 25 → 0 ≤ opT k ∧ opT k < 256 ∧ 0 ≤ longT k ∧ longT k < 256 := by decide
 exact this k jo
theorem Blk.drew {w : World} {g : Nat} {o : Obj} (h : Blk w g o) : Blk w.drew g o := h
theorem two_blocks (w : World) (o1 o2 : Obj) : ∃ W : World, W = (w.alloc o1).alloc o2 ∧ Keeps w W ∧ Blk W w.heap.size o1 ∧ w.heap.size + 1 < W.heap.size :=
 ⟨_, rfl, ((Keeps.refl w).alloc _).alloc _, (Blk.top _ _).keep ((Keeps.refl _).alloc _), by rw [sz_alloc, sz_alloc]; omega⟩
end Go.Proofs.YtgdamggkaklhjaaDoor
end
section
namespace Go.Proofs.YtgdamggkaklhjaaDoor.BH
open Go.RowKit
set_option maxRecDepth 100000
structure Turn (I : Nat → Prop) (c : Nat → Nat) (w : World) (c' : Nat → Nat) (w' : World) : Prop where
 only : Only (fun b => I (c b)) w w'
 col : ∀ b, b < w.heap.size → c' b = c b
section
variable {I J : Nat → Prop} {c c' c1 c2 : Nat → Nat} {w w' w1 w2 : World}
theorem Turn.refl (I : Nat → Prop) (c : Nat → Nat) (w : World) : Turn I c w c w := ⟨Only.refl _ _, fun _ _ => rfl⟩
theorem Turn.size (h : Turn I c w c' w') : w.heap.size ≤ w'.heap.size := h.only.size
theorem Turn.trans (h : Turn I c w c1 w1) (k : Turn I c1 w1 c2 w2) : Turn I c w c2 w2 :=
 ⟨h.only.trans' k.only (fun x hx => by
  rcases Nat.lt_or_ge x w.heap.size with q | q
  ·exact Or.inl (by rw [← h.col x q]; exact hx)
  exact Or.inr q), fun b hb => (k.col b (Nat.lt_of_lt_of_le hb h.size)).trans (h.col b hb)⟩
theorem Turn.mono (h : Turn I c w c' w') (hij : ∀ i, I i → J i) : Turn J c w c' w' := ⟨h.only.mono fun _ q => hij _ q, h.col⟩
theorem Keeps.turn (h : Keeps w w') (I : Nat → Prop) (c : Nat → Nat) : Turn I c w c w' := ⟨h.only _, fun _ _ => rfl⟩
theorem Turn.keep (h : Turn I c w c' w1) (k : Keeps w1 w') : Turn I c w c' w' := h.trans (k.turn I c')
theorem Turn.below (h : Turn I c w c' w') {B : Nat} (hB : B ≤ w.heap.size) (h0 : ∀ b, b < B → c b = 0) (hI : ¬ I 0) : Below B w w' :=
 ⟨h.only.os, h.only.tape, h.only.output, h.only.size, fun b hb => h.only.block b jo fun q => hI (by rw [← h0 b hb]; exact q)⟩
theorem Turn.zero (h : Turn I c w c' w') {B : Nat} (hB : B ≤ w.heap.size) (h0 : ∀ b, b < B → c b = 0) : ∀ b, b < B → c' b = 0 := fun b hb => (h.col b jo).trans (h0 b hb)
theorem Turn.set (c : Nat → Nat) (w : World) (b o : Nat) (u : Value) : Turn (fun i => i = c b) c w c (w.setCell ⟨b, o, none⟩ u) := ⟨Only.set w b o u rfl, fun _ _ => rfl⟩
theorem grown_turn {row : Option Nat} (h : w.grownBy w' row) {i : Nat} (hr : ∀ b, row = some b → c b = i) : Turn (fun x => x = i) c w c w' := ⟨grown_only h fun b e => hr b e, fun _ _ => rfl⟩
theorem Turn.paint (w : World) (c : Nat → Nat) (o : Obj) (i : Nat) (I : Nat → Prop) : ∃ c', Turn I c w c' (w.alloc o) ∧ c' w.heap.size = i ∧ Blk (w.alloc o) w.heap.size o :=
 ⟨fun b => if b = w.heap.size then i else c b, ⟨(Keeps.alloc (Keeps.refl w) o).only _, fun b hb => if_neg jo⟩, if_pos rfl, Blk.top w o⟩
end
def Part (i : Nat) (P : World → Prop) (c : Nat → Nat) (w : World) : Prop := ∃ S, Foot S P w ∧ ∀ b, S b → c b = i
section
variable {I : Nat → Prop} {i : Nat} {P Q : World → Prop} {c c' : Nat → Nat} {w w' : World}
theorem Part.here (h : Part i P c w) : P w := by obtain ⟨S, h1, _⟩ := h; exact h1.here
theorem Part.turn (h : Part i P c w) (t : Turn I c w c' w') (hi : ¬ I i) : Part i P c' w' := by
 obtain ⟨S, h1, h2⟩ := h
 exact ⟨S, h1.move t.size fun b hb => t.only.block b (h1.1 b hb) fun q => hi (by rw [← h2 b hb]; exact q), fun b hb => (t.col b (h1.1 b hb)).trans (h2 b hb)⟩
theorem Part.keep (h : Part i P c w) (k : Keeps w w') : Part i P c w' := h.turn (k.turn (fun _ => False) c) (fun q => q)
theorem Part.imp (h : Part i P c w) (hpq : ∀ w, P w → Q w) : Part i Q c w := by obtain ⟨S, h1, h2⟩ := h; exact ⟨S, h1.imp hpq, h2⟩
theorem Part.and (h : Part i P c w) (k : Part i Q c w) : Part i (fun w => P w ∧ Q w) c w := by
 obtain ⟨S, h1, h2⟩ := h
 obtain ⟨T, k1, k2⟩ := k
 exact ⟨_, h1.and k1, fun b hb => hb.elim (h2 b) (k2 b)⟩
end
def BlkC (i : Nat) (c : Nat → Nat) (w : World) (g : Nat) (o : Obj) : Prop := Blk w g o ∧ c g = i
section
variable {I : Nat → Prop} {i : Nat} {c c' : Nat → Nat} {w w' : World} {g : Nat} {o : Obj}
theorem BlkC.turn (h : BlkC i c w g o) (t : Turn I c w c' w') (hi : ¬ I i) : BlkC i c' w' g o :=
 ⟨(t.only.block g h.1.lt fun q => hi (by rw [← h.2]; exact q)).trans h.1, (t.col g h.1.lt).trans h.2⟩
theorem BlkC.keep (h : BlkC i c w g o) (k : Keeps w w') : BlkC i c w' g o := ⟨h.1.keep k, h.2⟩
theorem BlkC.set {cs : Array Value} {e : TypeId} (h : BlkC i c w g (.cells cs e)) (j : Nat) (u : Value) : BlkC i c (w.setCell ⟨g, j, none⟩ u) g (.cells (cs.setIfInBounds j u) e) ∧ Turn (fun x => x = i) c w c (w.setCell ⟨g, j, none⟩ u) :=
 ⟨⟨Blk.set h.1 j u, h.2⟩, (Turn.set c w g j u).mono fun x hx => by rw [hx, h.2]⟩
end
theorem two_paint (w : World) (c : Nat → Nat) (o1 o2 : Obj) (i : Nat) : ∃ (W : World) (c1 : Nat → Nat), W = (w.alloc o1).alloc o2 ∧ Keeps w W ∧ (∀ I, Turn I c w c1 W) ∧ BlkC i c1 W w.heap.size o1 ∧ BlkC i c1 W (w.heap.size + 1) o2 :=
 ⟨_, fun b => if w.heap.size ≤ b then i else c b, rfl, ((Keeps.refl w).alloc _).alloc _, fun _ => ⟨(((Keeps.refl w).alloc _).alloc _).only _, fun b hb => if_neg jo⟩,
  ⟨(Blk.top _ _).keep ((Keeps.refl _).alloc _), if_pos (Nat.le_refl _)⟩, ⟨Blk.top' _ _ (by rw [sz_alloc]), if_pos jo⟩⟩
theorem one_paint (w : World) (c : Nat → Nat) (o : Obj) (i : Nat) : ∃ (W : World) (c1 : Nat → Nat), W = w.alloc o ∧ Keeps w W ∧ (∀ I, Turn I c w c1 W) ∧ BlkC i c1 W w.heap.size o :=
 ⟨_, fun b => if w.heap.size ≤ b then i else c b, rfl, (Keeps.refl w).alloc _, fun _ => ⟨((Keeps.refl w).alloc _).only _, fun b hb => if_neg jo⟩, ⟨Blk.top _ _, if_pos (Nat.le_refl _)⟩⟩
def OwnC {α : Type} (i : Nat) (c : Nat → Nat) (w : World) (base : Nat) (e : TypeId) (k : Nat) (f : α → List Value) (v : Value) (l : List α) : Prop := Own w base e k f v l ∧ ∀ b, v.ownBlock = some b → c b = i
section
variable {α : Type} {I : Nat → Prop} {i : Nat} {c c' : Nat → Nat} {w w' w7 wa : World} {base : Nat} {e : TypeId} {k : Nat} {f : α → List Value} {v v7 : Value} {l l7 : List α}
theorem OwnC.nil (i : Nat) (c : Nat → Nat) (w : World) (base : Nat) (e : TypeId) (k : Nat) (f : α → List Value) : OwnC i c w base e k f (.slice none 0 0) [] := ⟨Own.nil _ _ _ _ _, fun _ q => by cases q⟩
theorem OwnC.turn (h : OwnC i c w base e k f v l) (t : Turn I c w c' w') (hi : ¬ I i) : OwnC i c' w' base e k f v l :=
 ⟨Own.only t.only h.1 fun g q => fun z => hi (by rw [← h.2 g q]; exact z), fun b q => (t.col b (own_lt' h.1 q)).trans (h.2 b q)⟩
theorem OwnC.keep (h : OwnC i c w base e k f v l) (q : Keeps w w') : OwnC i c w' base e k f v l := ⟨h.1.keep q, h.2⟩
theorem OwnC.push (h : OwnC i c w base e k f v l) (ka : Keeps w wa) (o7 : Own w7 base e k f v7 l7) (g7 : wa.grownBy w7 v.ownBlock) (f7 : ∀ b, v7.ownBlock = some b → v.ownBlock = some b ∨ wa.heap.size ≤ b) :
  ∃ c', Turn (fun x => x = i) c w c' w7 ∧ OwnC i c' w7 base e k f v7 l7 := by
 classical
 have hs := ka.size
 have h1 : Turn (fun x => x = i) c w c w7 := (ka.turn _ c).trans (grown_turn g7 fun b q => h.2 b q)
 refine ⟨fun b => if v7.ownBlock = some b then i else c b, ⟨h1.only, fun b hb => ?_⟩, o7, fun b q => if_pos q⟩
 show (if v7.ownBlock = some b then i else c b) = c b
 split
 ·rename_i q
  rcases f7 b q with z | z
  ·exact (h.2 b z).symm
  omega
 rfl
theorem OwnC.fresh (c : Nat → Nat) (i : Nat) {wb : World} (hk : Keeps wb w) (h : Own w base e k f v l) (hb : wb.heap.size ≤ base) : ∃ c', (∀ I, Turn I c wb c' w) ∧ OwnC i c' w base e k f v l :=
 ⟨fun b => if wb.heap.size ≤ b then i else c b, fun I => ⟨hk.only _, fun b q => if_neg jo⟩, h, fun b q => if_pos (Nat.le_trans hb (h.row b q))⟩
theorem OwnC.part (h : OwnC i c w base e k f v l) : Part i (fun w => Own w base e k f v l) c w := ⟨_, h.1.foot, h.2⟩
end
def MapC (i : Nat) (c : Nat → Nat) {κ ν : Type} (P : Program) (k e : TypeId) (enc : κ → Value) (wf : κ → Prop) (lit : ν → DataW Unit) (w : World) (b n : Nat) (m : κ → Option ν) : Prop := MapF P k e enc wf lit w b n m ∧ c b = i
section
variable {κ ν : Type} {I : Nat → Prop} {i : Nat} {c c' : Nat → Nat} {w w' : World} {P : Program} {k e : TypeId} {enc : κ → Value} {wf : κ → Prop} {lit : ν → DataW Unit} {b n : Nat} {m : κ → Option ν}
theorem MapC.turn (h : MapC i c P k e enc wf lit w b n m) (t : Turn I c w c' w') (hi : ¬ I i) : MapC i c' P k e enc wf lit w' b n m := by
 have H1 := h.1.lt
 refine ⟨?_, (t.col b H1).trans h.2⟩
 have hb := t.only.block b H1 (fun q => hi (by rw [← h.2]; exact q))
 obtain ⟨⟨D, ⟨es, H0, H2, F, hs, hD⟩, h2⟩, _⟩ := h
 exact ⟨D, ⟨es, H0, hb.trans H2, F, hs, hD⟩, h2⟩
theorem MapC.keep (h : MapC i c P k e enc wf lit w b n m) (q : Keeps w w') : MapC i c P k e enc wf lit w' b n m := ⟨h.1.keep q, h.2⟩
theorem MapC.put (h : MapC i c P k e enc wf lit w b n m) (hg : w.grownBy w' (some b)) : Turn (fun x => x = i) c w c w' := grown_turn hg fun x q => by cases q; exact h.2
theorem MapC.mono (h : MapC i c P k e enc wf lit w b n m) {n' : Nat} (hn : n ≤ n') : MapC i c P k e enc wf lit w b n' m := ⟨h.1.mono hn, h.2⟩
end
end Go.Proofs.YtgdamggkaklhjaaDoor.BH
end
section
namespace Go.Proofs.YtgdamggkaklhjaaDoor
open Go.RowKit BH
set_option maxHeartbeats 1000000
set_option maxRecDepth 100000

theorem sameName_any (f : Fu) (s : ByteArray) (b : Nat) (w : World) (hb : w.cell? ⟨b, 0, none⟩ = some (.string s)) :
  Calls Tryd.prog 70 #[.agg #[.string f.Name, .int .i64 f.Start, .int .i64 f.Size], .pointer (some ⟨b, 0, none⟩)] w fun e w' => e = .returned (.bool (f.Name.toList == s.toList)) ∧ Keeps w w' := by
 have hlt : b < w.heap.size := lt_of_cell hb
 go_enter Tryd.func70, Tryd.ntmps70
 go_wp2
 go_ret
 exact ⟨rfl, (Keeps.refl _).alloc _⟩

theorem funcs_any (v : Value) (m : Img) (w : World) (hv : ImgAt w v m) :
  Calls Tryd.prog 47 #[v] w fun e w' => e = .returned (.int .i64 (funcsFault m)) ∧ Keeps w w' := by
 obtain ⟨v0, v1, v2, v3, v4, rfl, ⟨Hd, c0, rfl, t1, t2, -, -⟩, ⟨ao, Hb, rfl, h1, h2, -, h3⟩, -, -, -⟩ := hv
 unfold maxLen at h2 t2
 obtain ⟨W1, Hc, He, Hf, i0, i1, i2, i3, i4, i5⟩ := box6 w 28 (.slice Hd m.Text.length c0) (.slice ao m.Funcs.length Hb) v2 v3 v4 (.int .i64 m.Entry)
 have HW := jH Hc
 clear Hc i2 i3 i4 i5
 by_cases hbig : 40 < m.Funcs.length
 ·have HF := jH (show funcsFault m = 1 by unfold funcsFault; rw [if_pos hbig])
  clear h3 i0 i1
  go_enter Tryd.func47, Tryd.ntmps47
  go_wp2
  go_ret
  exact ⟨by rw [HF.out]; rfl, (Keeps.refl _).alloc _⟩
 have HF := jH (show funcsFault m = scan (funBad m) (endFault m 0) (m.Funcs.length - 0) 0 by unfold funcsFault; rw [if_neg hbig]; rfl)
 have eg : ∀ args w, (callFunc 70 args).run Tryd.prog w = .ok (.enter 70 args) w := enters_of Tryd.func70 jx rfl
 have EG := jH eg
 clear eg
 go_enter Tryd.func47, Tryd.ntmps47
 go_wp2
 rw [← HW.out]
 go_loopw [3, 4, 5, 13] (fun s3 _ _ s13 wr => ∃ k : Nat, k ≤ m.Funcs.length ∧ s3 = .int .i64 (sumF m k) ∧ s13 = .int .i64 k ∧ 0 ≤ sumF m k ∧ sumF m k ≤ m.Text.length ∧ Keeps W1 wr ∧ Hid (scan (funBad m) (endFault m 0) (m.Funcs.length - k) k = funcsFault m)) (fun _ _ _ i _ => m.Funcs.length - (intOf i).toNat)
 case atStart => exact ⟨0, Nat.zero_le _, rfl, rfl, by simp [sumF], by simp [sumF], Keeps.refl _, HF.out.symm⟩
 case round =>
 obtain ⟨k, hk, rfl, rfl, hs0, hs1, H1, H0⟩ := hrel
 have j0 := H1.cell i0
 have j1 := H1.cell i1
 have H3 := He.trans H1
 have hin : w.heap.size < wr.heap.size := Nat.lt_of_lt_of_le Hf H1.size
 by_cases hlt : k < m.Funcs.length
 ·obtain ⟨b, H7, rfl, hc⟩ := h3 jo
  have Hg := jv wr b (H7 + k * 3) (.string (nth m.Funcs k).Name) (H3.cell (hc k 0 hlt jo))
  have Hh := jc wr b (H7 + k * 3 + 1) ((nth m.Funcs k).Start) (H3.cell (hc k 1 hlt jo))
  have Hi := jc wr b (H7 + k * 3 + 2) ((nth m.Funcs k).Size) (H3.cell (hc k 2 hlt jo))
  have hA : Arr wr (.slice (some ⟨b, H7, none⟩) k Hb) k 3 (fun i j => (nth m.Funcs i).c j) :=
   ⟨_, _, rfl, by omega, by unfold maxLen; omega, (fun h => by cases h), fun _ => ⟨b, H7, rfl, fun i j hi hj => H3.cell (hc i j jo hj)⟩⟩
  have hp : ∀ W, W.cell? ⟨wr.heap.size, 0, none⟩ = some (.string (nth m.Funcs k).Name) → PredIn Tryd.prog 70 #[.pointer (some ⟨wr.heap.size, 0, none⟩)] k (fun i => .agg #[(nth m.Funcs i).c 0, (nth m.Funcs i).c 1, (nth m.Funcs i).c 2]) (sameName m k) W :=
   fun W hW W' i hi hk' => (sameName_any (nth m.Funcs i) (nth m.Funcs k).Name wr.heap.size W' (hk'.cell hW)).mono fun e w' h => h
  have HP := jH hp
  clear hc h3 i0 i1 hp
  rcases funBad_cases m k with ⟨hn, hv⟩ | ⟨hn, H4⟩
  ·have HB := jH ((scan_stop hlt (by rw [hv]; decide) H0.out).trans hv)
   clear H0 hA hv
   go_wp2_with fail
   refine (name_any _ _).mono ?_
   rintro e w1 ⟨rfl, H6⟩
   unfold fname at hn
   go_wp2
   go_ret
   exact ⟨by rw [HB.out]; rfl, (H3.alloc _).trans H6⟩
  unfold fname at hn
  have HR := jH H4
  clear H4
  go_wp2_with fail
  refine (name_any _ _).mono ?_
  rintro e w1 ⟨rfl, H6⟩
  have f0 := jv w1 wr.heap.size 0 (.string (nth m.Funcs k).Name) (H6.cell (by simp))
  have f1 := jc w1 wr.heap.size 1 ((nth m.Funcs k).Start) (H6.cell (by simp))
  have f2 := jc w1 wr.heap.size 2 ((nth m.Funcs k).Size) (H6.cell (by simp))
  have H2 : Keeps wr w1 := ((Keeps.refl wr).alloc _).trans H6
  have q0 := H2.cell j0
  have q1 := H2.cell j1
  clear Hg Hh Hi j0 j1
  go_wp2_with fail
  refine (containsFunc_fun _ k _ (sameName m k) _ _ _ (hA.keep H2) EG.out (HP.out _ f0)).mono ?_
  rintro e w2 ⟨rfl, H5⟩
  have g0 := H5.cell f0
  have g1 := H5.cell f1
  have g2 := H5.cell f2
  have r0 := H5.cell q0
  have r1 := H5.cell q1
  have H8 := H3.trans (H2.trans H5)
  have H9 := H1.trans (H2.trans H5)
  clear f0 f1 f2 q0 q1 hA
  rcases HR.out with ⟨ha, hv⟩ | ⟨ha, ⟨hs, hv⟩ | ⟨⟨Ha, hs3, hs4⟩, hv⟩⟩
  ·have HB := jH ((scan_stop hlt (by rw [hv]; decide) H0.out).trans hv)
   clear H0 hv
   go_wp2
   go_ret
   exact ⟨by rw [HB.out]; rfl, H8⟩
  ·have HB := jH ((scan_stop hlt (by rw [hv]; decide) H0.out).trans hv)
   clear H0 hv
   go_wp2
   all_goals first
    | (exfalso; omega)
    | (go_ret
       exact ⟨by rw [HB.out]; rfl, H8⟩)
  have HB := jH (scan_step hlt hv H0.out)
  have d1 : ((nth m.Funcs k).Start == sumF m k) = true := by simpa using Ha
  have d2 : ((nth m.Funcs k).Start != sumF m k) = false := by simpa using Ha
  have HS := jH (show sumF m (k + 1) = sumF m k + (nth m.Funcs k).Size from rfl)
  clear H0 hv Ha
  go_wp2
  all_goals first
   | (exfalso; omega)
   | (go_roundw
      case rel => exact ⟨k + 1, by omega, by rw [HS.out], by go_num, by rw [HS.out]; omega, by rw [HS.out]; omega, H9, HB.out⟩
      case measure => simp [intOf]; omega)
 obtain rfl : k = m.Funcs.length := by omega
 have HE := jH (scan_end rfl H0.out)
 clear h3 H0
 by_cases he : sumF m m.Funcs.length = (m.Text.length : Int)
 ·have HV := jH (HE.out.trans (show endFault m 0 = 0 by unfold endFault; rw [if_neg (by simpa using he)]))
  have d1 : (sumF m m.Funcs.length != (m.Text.length : Int)) = false := by simpa using he
  clear he
  go_wp2
  go_ret
  exact ⟨by rw [HV.out]; rfl, H3⟩
 have HV := jH (HE.out.trans (show endFault m 0 = 8 by unfold endFault; rw [if_pos he]))
 have d1 : (sumF m m.Funcs.length != (m.Text.length : Int)) = true := by simpa using he
 clear he
 go_wp2
 go_ret
 exact ⟨by rw [HV.out]; rfl, H3⟩
end Go.Proofs.YtgdamggkaklhjaaDoor
end
