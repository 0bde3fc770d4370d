/-
What isa.Decode answers, as a plain function of the bytes an
-/
import Derived.Test.YtgdamggkaklhjaaDoorIsaDec1
set_option linter.all false
section
namespace Go.Proofs.YtgdamggkaklhjaaDoor
open Go.RowKit BH
set_option maxRecDepth 100000

def refGo (op : Int) : Nat → Nat × Bool
 | 0 => (0, false)
 | k + 1 => if hitB op k then (k, true) else if hitA op k then (k, (refGo op k).2) else refGo op k
theorem refGo_kindOf (op : Int) (h1 : 0 ≤ op) (h2 : op < 256) : refGo op 25 = kindOf op := by
 obtain ⟨a, rfl⟩ : ∃ a : Nat, op = a := ⟨op.toNat, by omega⟩
 have : ∀ a : Nat, a < 256 → refGo (a : Int) 25 = kindOf (a : Int) := by decide +kernel
 exact this a jo
theorem kindOf_bd (op : Int) (h1 : 0 ≤ op) (h2 : op < 256) : (kindOf op).1 ≤ 24 ∧ ((kindOf op).2 = true → 18 ≤ (kindOf op).1 ∧ (kindOf op).1 ≤ 22) := by
 obtain ⟨a, rfl⟩ : ∃ a : Nat, op = a := ⟨op.toNat, by omega⟩
 have : ∀ a : Nat, a < 256 → (kindOf (a : Int)).1 ≤ 24 ∧ ((kindOf (a : Int)).2 = true → 18 ≤ (kindOf (a : Int)).1 ∧ (kindOf (a : Int)).1 ≤ 22) := by decide +kernel
 exact this a jo

structure Ins where
 K : Int
 D : Int
 A : Int
 B : Int
 N : Int
 Lg : Bool
 deriving Inhabited
def Ins.v (i : Ins) : Value := insV i.K i.D i.A i.B i.N i.Lg
def zeroIns : Ins := ⟨0, 0, 0, 0, 0, false⟩
def rawIns (k : Nat) (lg : Bool) (x1 x2 x3 : Int) : Ins :=
 if k ≤ 4 then ⟨k, 0, 0, 0, 0, lg⟩
 else if k ≤ 5 then ⟨k, x1, 0, 0, num16 x2 x3, lg⟩
 else if k ≤ 6 then ⟨k, x1 / 16, x1 % 16, 0, num8 x2, lg⟩
 else if k ≤ 13 then ⟨k, x1 / 16, x1 % 16, x2, 0, lg⟩
 else if k ≤ 14 then ⟨k, x1 / 16, x1 % 16, 0, num8 x2, lg⟩
 else if k ≤ 15 then ⟨k, 0, x1 % 16, x1 / 16, num8 x2, lg⟩
 else if k ≤ 16 then ⟨k, x1, 0, 0, 0, lg⟩
 else if k ≤ 17 then ⟨k, 0, x1, 0, 0, lg⟩
 else if k ≤ 21 then ⟨k, 0, x1 / 16, x1 % 16, bif lg then num16 x2 x3 else num8 x2, lg⟩
 else if k ≤ 22 then ⟨k, 0, 0, 0, bif lg then num16 x1 x2 else num8 x1, lg⟩
 else if k ≤ 23 then ⟨k, 0, 0, 0, num16 x1 x2, lg⟩
 else ⟨k, 0, x1, 0, x2, lg⟩
def byteAt (l : List UInt8) (i : Nat) : Int := ((nth l i).toNat : Int)
theorem byteAt_bd (l : List UInt8) (i : Nat) : 0 ≤ byteAt l i ∧ byteAt l i < 256 := by
 unfold byteAt
 have := (nth l i).toNat_lt
 omega
def decAns (l : List UInt8) (x : Int) : Ins × Int × Int :=
 if x < 0 ∨ (l.length : Int) ≤ x then (zeroIns, 0, 2)
 else
  let a := x.toNat
  let q := kindOf (byteAt l a)
  if q.1 = 0 then (zeroIns, 0, 3)
  else if (l.length : Int) < x + insSize q.1 q.2 then (zeroIns, 0, 5)
  else
   let i := rawIns q.1 q.2 (byteAt l (a + 1)) (byteAt l (a + 2)) (byteAt l (a + 3))
   if insFault i.K i.D i.A i.B i.N i.Lg = 0 then (i, insSize q.1 q.2, 0) else (zeroIns, 0, 4)
theorem and15 (x : Int) (h1 : 0 ≤ x) (h2 : x < 256) : bits BinOp.and IntKind.u8 x 15 = x % 16 := by
 obtain ⟨a, rfl⟩ : ∃ a : Nat, x = a := ⟨x.toNat, by omega⟩
 have : ∀ a : Nat, a < 256 → bits BinOp.and IntKind.u8 (a : Int) 15 = (a : Int) % 16 := by decide +kernel
 exact this a jo
theorem blk_up' {W W' : World} {o : Obj} (h : Keeps (W.alloc o) W') : Blk W' W.heap.size o := (Blk.top W o).keep h
theorem two_blocks' (w : World) (o1 o2 : Obj) : ∃ W : World, W = (w.alloc o1).alloc o2 ∧ Keeps w W ∧ Blk W w.heap.size o1 ∧ Blk W (w.heap.size + 1) o2 ∧ w.heap.size + 1 < W.heap.size :=
 ⟨_, rfl, ((Keeps.refl w).alloc _).alloc _, (Blk.top _ _).keep ((Keeps.refl _).alloc _), Blk.top' _ _ (by rw [sz_alloc]), by rw [sz_alloc, sz_alloc]; omega⟩
theorem Blk.other {w : World} {g gi : Nat} {o : Obj} (h : Blk w g o) (hne : g ≠ gi) (c : Nat) (v : Value) : Blk (w.setCell ⟨gi, c, none⟩ v) g o :=
 Blk.grown h (grown_setCell w gi c v) (by intro e; exact hne (Option.some.inj e))
end Go.Proofs.YtgdamggkaklhjaaDoor
end
section
namespace Go.Proofs.YtgdamggkaklhjaaDoor
open BH
set_option maxRecDepth 100000
theorem num8_in (b : Int) (h0 : 0 ≤ b) (h1 : b < 256) : -128 ≤ num8 b ∧ num8 b ≤ 127 := by unfold num8; split <;> omega
theorem num16_in (a b : Int) (h0 : 0 ≤ a) (h1 : a < 256) (h2 : 0 ≤ b) (h3 : b < 256) : -32768 ≤ num16 a b ∧ num16 a b ≤ 32767 := by unfold num16; split <;> omega
theorem rawIns_fine (k : Nat) (lg : Bool) (x1 x2 x3 : Int) (hk : k ≤ 24) (a0 : 0 ≤ x1) (a1 : x1 < 256) (b0 : 0 ≤ x2) (b1 : x2 < 256) (c0 : 0 ≤ x3) (c1 : x3 < 256) :
  (rawIns k lg x1 x2 x3).K = k ∧ (rawIns k lg x1 x2 x3).Lg = lg ∧ -32768 ≤ (rawIns k lg x1 x2 x3).N ∧ (rawIns k lg x1 x2 x3).N ≤ 32767 ∧ (k = 24 → 0 ≤ (rawIns k lg x1 x2 x3).N) := by
 have h8 := num8_in x2 b0 b1
 have h81 := num8_in x1 a0 a1
 have h16 := num16_in x2 x3 b0 b1 c0 c1
 have H0 := num16_in x1 x2 a0 a1 b0 b1
 by_cases g0 : k ≤ 4
 ·rw [show rawIns k lg x1 x2 x3 = ⟨k, 0, 0, 0, 0, lg⟩ from by unfold rawIns; rw [if_pos g0]]
  exact ⟨rfl, rfl, by dsimp only; omega, by dsimp only; omega, fun h => by omega⟩
 by_cases g1 : k ≤ 5
 ·rw [show rawIns k lg x1 x2 x3 = ⟨k, x1, 0, 0, num16 x2 x3, lg⟩ from by unfold rawIns; rw [if_neg g0, if_pos g1]]
  exact ⟨rfl, rfl, by dsimp only; omega, by dsimp only; omega, fun h => by omega⟩
 by_cases g2 : k ≤ 6
 ·rw [show rawIns k lg x1 x2 x3 = ⟨k, x1 / 16, x1 % 16, 0, num8 x2, lg⟩ from by unfold rawIns; rw [if_neg g0, if_neg g1, if_pos g2]]
  exact ⟨rfl, rfl, by dsimp only; omega, by dsimp only; omega, fun h => by omega⟩
 by_cases g3 : k ≤ 13
 ·rw [show rawIns k lg x1 x2 x3 = ⟨k, x1 / 16, x1 % 16, x2, 0, lg⟩ from by unfold rawIns; rw [if_neg g0, if_neg g1, if_neg g2, if_pos g3]]
  exact ⟨rfl, rfl, by dsimp only; omega, by dsimp only; omega, fun h => by omega⟩
 by_cases g4 : k ≤ 14
 ·rw [show rawIns k lg x1 x2 x3 = ⟨k, x1 / 16, x1 % 16, 0, num8 x2, lg⟩ from by unfold rawIns; rw [if_neg g0, if_neg g1, if_neg g2, if_neg g3, if_pos g4]]
  exact ⟨rfl, rfl, by dsimp only; omega, by dsimp only; omega, fun h => by omega⟩
 by_cases g5 : k ≤ 15
 ·rw [show rawIns k lg x1 x2 x3 = ⟨k, 0, x1 % 16, x1 / 16, num8 x2, lg⟩ from by unfold rawIns; rw [if_neg g0, if_neg g1, if_neg g2, if_neg g3, if_neg g4, if_pos g5]]
  exact ⟨rfl, rfl, by dsimp only; omega, by dsimp only; omega, fun h => by omega⟩
 by_cases g6 : k ≤ 16
 ·rw [show rawIns k lg x1 x2 x3 = ⟨k, x1, 0, 0, 0, lg⟩ from by unfold rawIns; rw [if_neg g0, if_neg g1, if_neg g2, if_neg g3, if_neg g4, if_neg g5, if_pos g6]]
  exact ⟨rfl, rfl, by dsimp only; omega, by dsimp only; omega, fun h => by omega⟩
 by_cases g7 : k ≤ 17
 ·rw [show rawIns k lg x1 x2 x3 = ⟨k, 0, x1, 0, 0, lg⟩ from by unfold rawIns; rw [if_neg g0, if_neg g1, if_neg g2, if_neg g3, if_neg g4, if_neg g5, if_neg g6, if_pos g7]]
  exact ⟨rfl, rfl, by dsimp only; omega, by dsimp only; omega, fun h => by omega⟩
 by_cases g8 : k ≤ 21
 ·rw [show rawIns k lg x1 x2 x3 = ⟨k, 0, x1 / 16, x1 % 16, bif lg then num16 x2 x3 else num8 x2, lg⟩ from by unfold rawIns; rw [if_neg g0, if_neg g1, if_neg g2, if_neg g3, if_neg g4, if_neg g5, if_neg g6, if_neg g7, if_pos g8]]
  exact ⟨rfl, rfl, by cases lg <;> simp only [cond_true, cond_false] <;> omega, by cases lg <;> simp only [cond_true, cond_false] <;> omega, fun h => by omega⟩
 by_cases g9 : k ≤ 22
 ·rw [show rawIns k lg x1 x2 x3 = ⟨k, 0, 0, 0, bif lg then num16 x1 x2 else num8 x1, lg⟩ from by unfold rawIns; rw [if_neg g0, if_neg g1, if_neg g2, if_neg g3, if_neg g4, if_neg g5, if_neg g6, if_neg g7, if_neg g8, if_pos g9]]
  exact ⟨rfl, rfl, by cases lg <;> simp only [cond_true, cond_false] <;> omega, by cases lg <;> simp only [cond_true, cond_false] <;> omega, fun h => by omega⟩
 by_cases g10 : k ≤ 23
 ·rw [show rawIns k lg x1 x2 x3 = ⟨k, 0, 0, 0, num16 x1 x2, lg⟩ from by unfold rawIns; rw [if_neg g0, if_neg g1, if_neg g2, if_neg g3, if_neg g4, if_neg g5, if_neg g6, if_neg g7, if_neg g8, if_neg g9, if_pos g10]]
  exact ⟨rfl, rfl, by dsimp only; omega, by dsimp only; omega, fun h => by omega⟩
 rw [show rawIns k lg x1 x2 x3 = ⟨k, 0, x1, 0, x2, lg⟩ from by unfold rawIns; rw [if_neg g0, if_neg g1, if_neg g2, if_neg g3, if_neg g4, if_neg g5, if_neg g6, if_neg g7, if_neg g8, if_neg g9, if_neg g10]]
 exact ⟨rfl, rfl, by dsimp only; omega, by dsimp only; omega, fun h => by dsimp only; omega⟩
theorem insSize_in (k : Nat) (lg : Bool) (h0 : k ≠ 0) (h1 : k ≤ 24) : 1 ≤ insSize k lg ∧ insSize k lg ≤ 5 := by
 have : ∀ k : Nat, k ≤ 24 → k ≠ 0 → ∀ lg : Bool, 1 ≤ insSize k lg ∧ insSize k lg ≤ 5 := by decide +kernel
 exact this k h1 h0 lg
structure DecFine (l : List UInt8) (x : Int) : Prop where
 x0 : 0 ≤ x
 x1 : x < (l.length : Int)
 z : (decAns l x).2.1 = insSize (decAns l x).1.K.toNat (decAns l x).1.Lg
 z1 : 1 ≤ (decAns l x).2.1
 z5 : (decAns l x).2.1 ≤ 5
 ze : x + (decAns l x).2.1 ≤ (l.length : Int)
 k1 : 1 ≤ (decAns l x).1.K
 k24 : (decAns l x).1.K ≤ 24
 n0 : -32768 ≤ (decAns l x).1.N
 n1 : (decAns l x).1.N ≤ 32767
 nt : (decAns l x).1.K = 24 → 0 ≤ (decAns l x).1.N
 ok : insFault (decAns l x).1.K (decAns l x).1.D (decAns l x).1.A (decAns l x).1.B (decAns l x).1.N (decAns l x).1.Lg = 0
theorem decAns_fine {l : List UInt8} {x : Int} (h : (decAns l x).2.2 = 0) : DecFine l x := by
 unfold decAns at h
 split at h
 ·exact absurd h jd
 rename_i hx
 dsimp only at h
 split at h
 ·exact absurd h jd
 rename_i hq
 split at h
 ·exact absurd h jd
 rename_i hl
 split at h
 ·rename_i hf
  obtain ⟨u0, u1⟩ := byteAt_bd l x.toNat
  obtain ⟨p0, p1⟩ := byteAt_bd l (x.toNat + 1)
  obtain ⟨q0, q1⟩ := byteAt_bd l (x.toNat + 2)
  obtain ⟨r0, r1⟩ := byteAt_bd l (x.toNat + 3)
  have H0 := (kindOf_bd (byteAt l x.toNat) u0 u1).1
  have hz := insSize_in (kindOf (byteAt l x.toNat)).1 (kindOf (byteAt l x.toNat)).2 hq H0
  obtain ⟨e1, e2, e3, e4, e5⟩ := rawIns_fine (kindOf (byteAt l x.toNat)).1 (kindOf (byteAt l x.toNat)).2 _ _ _ H0 p0 p1 q0 q1 r0 r1
  have e : decAns l x = (rawIns (kindOf (byteAt l x.toNat)).1 (kindOf (byteAt l x.toNat)).2 (byteAt l (x.toNat + 1)) (byteAt l (x.toNat + 2)) (byteAt l (x.toNat + 3)), insSize (kindOf (byteAt l x.toNat)).1 (kindOf (byteAt l x.toNat)).2, 0) := by unfold decAns; rw [if_neg hx]; dsimp only; rw [if_neg hq, if_neg hl, if_pos hf]
  obtain ⟨I, hI⟩ := jE (rawIns (kindOf (byteAt l x.toNat)).1 (kindOf (byteAt l x.toNat)).2 (byteAt l (x.toNat + 1)) (byteAt l (x.toNat + 2)) (byteAt l (x.toNat + 3)))
  rw [← hI] at e e1 e2 e3 e4 e5 hf
  have d1 : (decAns l x).1 = I := by rw [e]
  have d2 : (decAns l x).2.1 = insSize (kindOf (byteAt l x.toNat)).1 (kindOf (byteAt l x.toNat)).2 := by rw [e]
  refine ⟨by omega, by omega, ?_, by rw [d2]; exact hz.1, by rw [d2]; exact hz.2, by rw [d2]; omega, by rw [d1, e1]; omega, by rw [d1, e1]; omega, by rw [d1]; exact e3, by rw [d1]; exact e4, ?_, by rw [d1]; exact hf⟩
  ·rw [d2, d1, e1, e2, Int.toNat_natCast]
  rw [d1]
  intro q
  exact e5 jo
 exact absurd h jd
def Ins.ic (i : Ins) : Ic := ⟨i.K, i.D, i.A, i.B, i.N, i.Lg⟩
structure Sp where
 A : Int
 Z : Int
 I : Ins
 deriving Inhabited
def stN (K : Int) : Bool := decide (K ≤ 3) || decide (K = 24)
def brN (K : Int) : Bool := decide (18 ≤ K) && decide (K ≤ 21)
def endsN (K : Int) : Int := if stN K = true then 1 else if K = 22 then 3 else if brN K = true then 4 else 0
def swS (T : List UInt8) (e : Int) : Nat → Int → List Sp
 | 0, _ => []
 | n + 1, a => if a < e then ⟨a, (decAns T a).2.1, (decAns T a).1⟩ :: swS T e n (a + (decAns T a).2.1) else []
def swB (T : List UInt8) (e : Int) : Nat → Int → Bool
 | 0, _ => false
 | n + 1, a => if a < e then (decide ((decAns T a).2.2 ≠ 0) || decide (e < a + (decAns T a).2.1)) || swB T e n (a + (decAns T a).2.1) else false
def lstB (l : List Sp) : Bool := !(stN (nth l (l.length - 1)).I.K) && !decide ((nth l (l.length - 1)).I.K = 22)
def fEnd (f : Fu) : Int := f.Start + f.Size
def spsF (T : List UInt8) (f : Fu) : List Sp := swS T (fEnd f) f.Size.toNat f.Start
def badF (T : List UInt8) (f : Fu) : Bool := swB T (fEnd f) f.Size.toNat f.Start || lstB (spsF T f)
def allS (m : Img) : List (List Sp) := m.Funcs.map (spsF m.Text)
def putI (m : Int → Option Int) (k v : Int) : Int → Option Int := fun z => if z = k then some v else m z
def own1 (v : Int) (l : List Sp) (m : Int → Option Int) : Int → Option Int := l.foldl (fun m s => putI m s.A v) m
def ownS (L : List (List Sp)) : Nat → Int → Option Int
 | 0 => fun _ => none
 | k + 1 => own1 k (nth L k) (ownS L k)
def tblB (m : Img) (own : Int → Option Int) (i : Nat) : Bool := anyN (fun k => (own (nth (nth m.Tables i) k)).isNone) (nth m.Tables i).length
def fnP (m : Img) (x : Int) (i : Nat) : Bool := decide ((nth m.Funcs i).Start = x)
def fnAt (m : Img) (x : Int) : Int := idxN (fnP m x) m.Funcs.length 0
def spB (m : Img) (own : Int → Option Int) (f : Int) (s : Sp) : Bool :=
 if brN s.I.K = true ∨ s.I.K = 22 then !decide (own (s.A + s.I.N) = some f)
 else if s.I.K = 24 then decide (s.I.N < m.Tables.length) && anyN (fun k => !decide (own (nth (nth m.Tables s.I.N.toNat) k) = some f)) (nth m.Tables s.I.N.toNat).length
 else if s.I.K = 23 then !(anyN (fnP m (s.A + s.I.N)) m.Funcs.length)
 else false
def keysP (s : Sp) : List Int := if brN s.I.K = true ∨ s.I.K = 22 then [s.A + s.I.N, s.A + s.Z] else if stN s.I.K = true then [s.A + s.Z] else []
def keysF (m : Img) (L : List (List Sp)) (i : Nat) : List Int := (nth m.Funcs i).Start :: (nth L i).flatMap keysP
def keysM (m : Img) (L : List (List Sp)) : Nat → List Int
 | 0 => m.Tables.flatten
 | k + 1 => keysM m L k ++ keysF m L k
def isL (m : Img) (x : Int) : Bool := decide (x ∈ keysM m (allS m) m.Funcs.length)
def zIc : Ic := ⟨0, 0, 0, 0, 0, false⟩
def newB (f a : Int) : Bk := ⟨f, a, [], [], zIc, 2, 0, 0, []⟩
def plainI (m : Img) (s : Sp) : Ic := if s.I.K = 23 then { s.I.ic with N := fnAt m (s.A + s.I.N) } else s.I.ic
def pbS (m : Img) (s : Sp) (b : Bk) : Bk :=
 if brN s.I.K = true then { b with At := b.At ++ [s.A], Lines := b.Lines ++ [lineAt m.Lines s.A m.Lines.length], Ends := 4, Last := ⟨s.I.K, 0, s.I.A, s.I.B, 0, false⟩, To := s.A + s.I.N, Else := s.A + s.Z }
 else if s.I.K = 22 then { b with At := b.At ++ [s.A], Lines := b.Lines ++ [lineAt m.Lines s.A m.Lines.length], Ends := 3, To := s.A + s.I.N }
 else if stN s.I.K = true then { b with At := b.At ++ [s.A], Lines := b.Lines ++ [lineAt m.Lines s.A m.Lines.length], Code := b.Code ++ [plainI m s], Ends := 1, To := 0 }
 else { b with At := b.At ++ [s.A], Lines := b.Lines ++ [lineAt m.Lines s.A m.Lines.length], Code := b.Code ++ [plainI m s], To := s.A + s.Z }
def modL (bs : List Bk) (g : Bk → Bk) : List Bk := bs.set (bs.length - 1) (g (nth bs (bs.length - 1)))
structure Cut where
 bs : List Bk
 bm : Int → Option Int
def cutS (m : Img) (f : Int) (c : Cut) (s : Sp) : Cut :=
 if isL m s.A = true then ⟨modL (c.bs ++ [newB f s.A]) (pbS m s), putI c.bm s.A c.bs.length⟩ else ⟨modL c.bs (pbS m s), c.bm⟩
def cutF (m : Img) : Nat → Cut
 | 0 => ⟨[], fun _ => none⟩
 | k + 1 => (nth (allS m) k).foldl (cutS m k) (cutF m k)
def joinB (bm : Int → Option Int) (b : Bk) : Bk :=
 { b with To := if b.Ends = 1 then b.To else (bm b.To).getD 0, Else := if b.Ends = 4 then (bm b.Else).getD 0 else b.Else, Lines := if b.Ends = 1 ∨ b.Ends = 2 then b.Lines ++ [nth b.Lines (b.Lines.length - 1)] else b.Lines }
def recF (m : Img) : Fl :=
 ⟨(cutF m m.Funcs.length).bs.map (joinB (cutF m m.Funcs.length).bm), m.Tables.map fun t => t.map fun a => ((cutF m m.Funcs.length).bm a).getD 0, (List.range m.Funcs.length).map fun i => ((cutF m i).bs.length : Int)⟩
def recB (m : Img) : Bool :=
 anyN (fun i => badF m.Text (nth m.Funcs i)) m.Funcs.length || (anyN (tblB m (ownS (allS m) m.Funcs.length)) m.Tables.length || anyN (fun i => anyN (fun k => spB m (ownS (allS m) m.Funcs.length) i (nth (nth (allS m) i) k)) (nth (allS m) i).length) m.Funcs.length)
def recE (m : Img) : Int := if imgFault m ≠ 0 then imgFault m else if 2000 < m.Text.length then 1 else if recB m = true then 9 else 0
end Go.Proofs.YtgdamggkaklhjaaDoor
end
section
namespace Go.Proofs.YtgdamggkaklhjaaDoor
open Go.RowKit BH
set_option maxHeartbeats 1000000
set_option maxRecDepth 100000
theorem byte_cells {w : World} {b off : Nat} {l : List UInt8} (h3 : ∀ i j, i < l.length → j < 1 → w.cell? ⟨b, off + i * 1 + j, none⟩ = some (.int .u8 ((nth l i).toNat : Int))) : ∀ i n, i < l.length → n = off + i → w.cell? ⟨b, n, none⟩ = some (.int .u8 (byteAt l i)) := by
 intro i n hi hn
 subst hn
 have := h3 i 0 hi jo
 unfold byteAt
 simpa using this
def DecAns (r : Ins × Int × Int) (w : World) (e : Ending) (w' : World) : Prop := e = .returned (.tuple #[r.1.v, .int .i64 r.2.1, .int .i64 r.2.2]) ∧ Keeps w w'
theorem decAns_is {l : List UInt8} {a k : Nat} {lg : Bool} (hk : kindOf (byteAt l a) = (k, lg)) (ha : a < l.length) {z : Nat} (hz : insSize k lg = z) {i : Ins} (hi : i = rawIns k lg (byteAt l (a + 1)) (byteAt l (a + 2)) (byteAt l (a + 3))) :
  (k = 0 → decAns l a = (zeroIns, 0, 3)) ∧ (k ≠ 0 → l.length < a + z → decAns l a = (zeroIns, 0, 5)) ∧ (k ≠ 0 → ¬ l.length < a + z → decAns l a = if insFault i.K i.D i.A i.B i.N i.Lg = 0 then (i, (z : Int), 0) else (zeroIns, 0, 4)) := by
 unfold decAns
 rw [if_neg jo]
 simp only [Int.toNat_natCast, hk, hz]
 refine ⟨fun h => if_pos h, fun h h2 => ?_, fun h h2 => ?_⟩
 ·rw [if_neg h, if_pos jo]
 rw [if_neg h, if_neg jo, hi]
theorem size_is {k : Nat} (h1 : 1 ≤ k) (h2 : k ≤ 24) (lg : Bool) : ∃ z : Nat, insSize k lg = z ∧ ((k ≤ 4 ∧ z = 1 + lg.toNat) ∨ (k = 5 ∧ z = 4 + lg.toNat) ∨ ((k = 16 ∨ k = 17 ∨ k = 22) ∧ z = 2 + lg.toNat) ∨ (4 < k ∧ k ≠ 5 ∧ k ≠ 16 ∧ k ≠ 17 ∧ k ≠ 22 ∧ z = 3 + lg.toNat)) := by
 have q : ∀ lg : Bool, (∀ k, k < 25 → k = 0 ∨ (insSize k lg = ((insSize k lg).toNat : Int) ∧ ((k ≤ 4 ∧ (insSize k lg).toNat = 1 + lg.toNat) ∨ (k = 5 ∧ (insSize k lg).toNat = 4 + lg.toNat) ∨ ((k = 16 ∨ k = 17 ∨ k = 22) ∧ (insSize k lg).toNat = 2 + lg.toNat) ∨ (4 < k ∧ k ≠ 5 ∧ k ≠ 16 ∧ k ≠ 17 ∧ k ≠ 22 ∧ (insSize k lg).toNat = 3 + lg.toNat)))) := by
  intro lg
  cases lg <;> decide
 exact ⟨_, (q lg k jo).resolve_left jo⟩
theorem raw_kl (k : Nat) (lg : Bool) (x1 x2 x3 : Int) : (rawIns k lg x1 x2 x3).K = k ∧ (rawIns k lg x1 x2 x3).Lg = lg := by
 unfold rawIns
 repeat' split
 all_goals exact ⟨rfl, rfl⟩
def AtIn (g : Nat) (x0 : Int) (j : Nat) (w : World) : Prop :=
 Blk w g (.cells #[.int .i64 0, .int .i64 0, .int .i64 0, .int .i64 0, .int .i64 0, .bool false] 64) ∧
 Blk w (g + 1) (.cells #[.int .i64 (refGo x0 j).1, .int .i64 0, .int .i64 0, .int .i64 0, .int .i64 0, .bool (refGo x0 j).2] 64)
theorem atIn_of {g gi : Nat} {x0 : Int} {j : Nat} {w : World} (q : Nat × Bool) (hg : g + 1 = gi) (h1 : Blk w g (.cells #[.int .i64 0, .int .i64 0, .int .i64 0, .int .i64 0, .int .i64 0, .bool false] 64))
  (h2 : Blk w gi (.cells #[.int .i64 q.1, .int .i64 0, .int .i64 0, .int .i64 0, .int .i64 0, .bool q.2] 64)) (hq : refGo x0 j = q) : AtIn g x0 j w := by
 subst hg
 subst hq
 exact ⟨h1, h2⟩
end Go.Proofs.YtgdamggkaklhjaaDoor
end
