/-
  What isa.Decode answers, as a plain function of the bytes and the address; and that the document's search for the kind, which takes the last one that fits, finds the same kind.
-/
import Derived.Test.YtpgifkhgefbnfaaDoorIsaDec1
namespace Go.Proofs.YtpgifkhgefbnfaaDoor
open Go.RowKit BH
set_option maxRecDepth 100000

/-- what the document's loop has found behind the kinds below k -/
def refGo (op : Int) : Nat → Nat × Bool
  | 0 => (0, false)
  | k + 1 => if hitB op k then (k, true) else if hitA op k then (k, (refGo op k).2) else refGo op k
theorem refGo_kindOf (op : Int) (h1 : 0 ≤ op) (h2 : op < 256) : refGo op 25 = kindOf op := by
  obtain ⟨a, rfl⟩ : ∃ a : Nat, op = a := ⟨op.toNat, by omega⟩
  have : ∀ a : Nat, a < 256 → refGo (a : Int) 25 = kindOf (a : Int) := by decide +kernel
  exact this a (by omega)
theorem kindGo_le (op : Int) : ∀ n i, (kindGo op n i).1 ≤ n + i ∨ (kindGo op n i).1 = 0
  | 0, _ => Or.inr rfl
  | n + 1, i => by
    unfold kindGo
    split
    · exact Or.inl (by simp only []; omega)
    · split
      · exact Or.inl (by simp only []; omega)
      · rcases kindGo_le op n (i + 1) with h | h
        · exact Or.inl (by omega)
        · exact Or.inr h
/-- a kind that is found has its operator; a long one has a long form -/
theorem kindOf_bd (op : Int) (h1 : 0 ≤ op) (h2 : op < 256) : (kindOf op).1 ≤ 24 ∧ ((kindOf op).2 = true → 18 ≤ (kindOf op).1 ∧ (kindOf op).1 ≤ 22) := by
  obtain ⟨a, rfl⟩ : ∃ a : Nat, op = a := ⟨op.toNat, by omega⟩
  have : ∀ a : Nat, a < 256 → (kindOf (a : Int)).1 ≤ 24 ∧ ((kindOf (a : Int)).2 = true → 18 ≤ (kindOf (a : Int)).1 ∧ (kindOf (a : Int)).1 ≤ 22) := by decide +kernel
  exact this a (by omega)

structure Ins where
  K : Int
  D : Int
  A : Int
  B : Int
  N : Int
  Lg : Bool
  deriving Inhabited
def Ins.v (i : Ins) : Value := insV i.K i.D i.A i.B i.N i.Lg
def zeroIns : Ins := ⟨0, 0, 0, 0, 0, false⟩
/-- the instruction that the bytes behind an operator say -/
def rawIns (k : Nat) (lg : Bool) (x1 x2 x3 : Int) : Ins :=
  if k ≤ 4 then ⟨k, 0, 0, 0, 0, lg⟩
  else if k ≤ 5 then ⟨k, x1, 0, 0, num16 x2 x3, lg⟩
  else if k ≤ 6 then ⟨k, x1 / 16, x1 % 16, 0, num8 x2, lg⟩
  else if k ≤ 13 then ⟨k, x1 / 16, x1 % 16, x2, 0, lg⟩
  else if k ≤ 14 then ⟨k, x1 / 16, x1 % 16, 0, num8 x2, lg⟩
  else if k ≤ 15 then ⟨k, 0, x1 % 16, x1 / 16, num8 x2, lg⟩
  else if k ≤ 16 then ⟨k, x1, 0, 0, 0, lg⟩
  else if k ≤ 17 then ⟨k, 0, x1, 0, 0, lg⟩
  else if k ≤ 21 then ⟨k, 0, x1 / 16, x1 % 16, bif lg then num16 x2 x3 else num8 x2, lg⟩
  else if k ≤ 22 then ⟨k, 0, 0, 0, bif lg then num16 x1 x2 else num8 x1, lg⟩
  else if k ≤ 23 then ⟨k, 0, 0, 0, num16 x1 x2, lg⟩
  else ⟨k, 0, x1, 0, x2, lg⟩
def byteAt (l : List UInt8) (i : Nat) : Int := ((nth l i).toNat : Int)
theorem byteAt_bd (l : List UInt8) (i : Nat) : 0 ≤ byteAt l i ∧ byteAt l i < 256 := by
  unfold byteAt
  have := (nth l i).toNat_lt
  omega
/-- what isa.Decode answers: the instruction, how many bytes it has, the error's number -/
def decAns (l : List UInt8) (x : Int) : Ins × Int × Int :=
  if x < 0 ∨ (l.length : Int) ≤ x then (zeroIns, 0, 2)
  else
    let a := x.toNat
    let q := kindOf (byteAt l a)
    if q.1 = 0 then (zeroIns, 0, 3)
    else if (l.length : Int) < x + insSize q.1 q.2 then (zeroIns, 0, 5)
    else
      let i := rawIns q.1 q.2 (byteAt l (a + 1)) (byteAt l (a + 2)) (byteAt l (a + 3))
      if insFault i.K i.D i.A i.B i.N i.Lg = 0 then (i, insSize q.1 q.2, 0) else (zeroIns, 0, 4)
theorem and15 (x : Int) (h1 : 0 ≤ x) (h2 : x < 256) : bits BinOp.and IntKind.u8 x 15 = x % 16 := by
  obtain ⟨a, rfl⟩ : ∃ a : Nat, x = a := ⟨x.toNat, by omega⟩
  have : ∀ a : Nat, a < 256 → bits BinOp.and IntKind.u8 (a : Int) 15 = (a : Int) % 16 := by decide +kernel
  exact this a (by omega)
/-- what isa.Decode returns where all bytes are there: the instruction and its size, or ErrForm -/
def DecGives (i : Ins) (n : Int) (w : World) (e : Ending) (w' : World) : Prop :=
  (if insFault i.K i.D i.A i.B i.N i.Lg = 0 then e = .returned (.tuple #[i.v, .int .i64 n, .int .i64 0]) else e = .returned (.tuple #[zeroIns.v, .int .i64 0, .int .i64 4])) ∧ Keeps w w'
theorem blk_up' {W W' : World} {o : Obj} (h : Keeps (W.alloc o) W') : Blk W' W.heap.size o := (Blk.top W o).keep h
theorem two_blocks' (w : World) (o1 o2 : Obj) : ∃ W : World, W = (w.alloc o1).alloc o2 ∧ Keeps w W ∧ Blk W w.heap.size o1 ∧ Blk W (w.heap.size + 1) o2 ∧ w.heap.size + 1 < W.heap.size :=
  ⟨_, rfl, ((Keeps.refl w).alloc _).alloc _, (Blk.top _ _).keep ((Keeps.refl _).alloc _), Blk.top' _ _ (by rw [sz_alloc]), by rw [sz_alloc, sz_alloc]; omega⟩
theorem Blk.other {w : World} {g gi : Nat} {o : Obj} (h : Blk w g o) (hne : g ≠ gi) (c : Nat) (v : Value) : Blk (w.setCell ⟨gi, c, none⟩ v) g o :=
  Blk.grown h (grown_setCell w gi c v) (by intro e; exact hne (Option.some.inj e))
end Go.Proofs.YtpgifkhgefbnfaaDoor
