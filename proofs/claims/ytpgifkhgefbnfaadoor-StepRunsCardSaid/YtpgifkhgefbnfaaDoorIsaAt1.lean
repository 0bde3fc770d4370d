/-
  What isa.Decode answers, as a plain function of the bytes and the address; and that the document's search for the kind, which takes the last one that fits, finds the same kind.
  isa.Decode at every address: the errors' ways.
  What the document's InstrAt finds on its way: opOf for every kind; the block of the instruction as the search leaves it.
-/
import Derived.Test.YtpgifkhgefbnfaaDoorIsaDec1
import Derived.Deep.DeepCutAuto
section
namespace Go.Proofs.YtpgifkhgefbnfaaDoor
open Go.RowKit BH
set_option maxRecDepth 100000

/-- what the document's loop has found behind the kinds below k -/
def refGo (op : Int) : Nat → Nat × Bool
  | 0 => (0, false)
  | k + 1 => if hitB op k then (k, true) else if hitA op k then (k, (refGo op k).2) else refGo op k
theorem refGo_kindOf (op : Int) (h1 : 0 ≤ op) (h2 : op < 256) : refGo op 25 = kindOf op := by
  obtain ⟨a, rfl⟩ : ∃ a : Nat, op = a := ⟨op.toNat, by omega⟩
  have : ∀ a : Nat, a < 256 → refGo (a : Int) 25 = kindOf (a : Int) := by decide +kernel
  exact this a (by omega)
theorem kindGo_le (op : Int) : ∀ n i, (kindGo op n i).1 ≤ n + i ∨ (kindGo op n i).1 = 0
  | 0, _ => Or.inr rfl
  | n + 1, i => by
    unfold kindGo
    split
    · exact Or.inl (by simp only []; omega)
    · split
      · exact Or.inl (by simp only []; omega)
      · rcases kindGo_le op n (i + 1) with h | h
        · exact Or.inl (by omega)
        · exact Or.inr h
/-- a kind that is found has its operator; a long one has a long form -/
theorem kindOf_bd (op : Int) (h1 : 0 ≤ op) (h2 : op < 256) : (kindOf op).1 ≤ 24 ∧ ((kindOf op).2 = true → 18 ≤ (kindOf op).1 ∧ (kindOf op).1 ≤ 22) := by
  obtain ⟨a, rfl⟩ : ∃ a : Nat, op = a := ⟨op.toNat, by omega⟩
  have : ∀ a : Nat, a < 256 → (kindOf (a : Int)).1 ≤ 24 ∧ ((kindOf (a : Int)).2 = true → 18 ≤ (kindOf (a : Int)).1 ∧ (kindOf (a : Int)).1 ≤ 22) := by decide +kernel
  exact this a (by omega)

structure Ins where
  K : Int
  D : Int
  A : Int
  B : Int
  N : Int
  Lg : Bool
  deriving Inhabited
def Ins.v (i : Ins) : Value := insV i.K i.D i.A i.B i.N i.Lg
def zeroIns : Ins := ⟨0, 0, 0, 0, 0, false⟩
/-- the instruction that the bytes behind an operator say -/
def rawIns (k : Nat) (lg : Bool) (x1 x2 x3 : Int) : Ins :=
  if k ≤ 4 then ⟨k, 0, 0, 0, 0, lg⟩
  else if k ≤ 5 then ⟨k, x1, 0, 0, num16 x2 x3, lg⟩
  else if k ≤ 6 then ⟨k, x1 / 16, x1 % 16, 0, num8 x2, lg⟩
  else if k ≤ 13 then ⟨k, x1 / 16, x1 % 16, x2, 0, lg⟩
  else if k ≤ 14 then ⟨k, x1 / 16, x1 % 16, 0, num8 x2, lg⟩
  else if k ≤ 15 then ⟨k, 0, x1 % 16, x1 / 16, num8 x2, lg⟩
  else if k ≤ 16 then ⟨k, x1, 0, 0, 0, lg⟩
  else if k ≤ 17 then ⟨k, 0, x1, 0, 0, lg⟩
  else if k ≤ 21 then ⟨k, 0, x1 / 16, x1 % 16, bif lg then num16 x2 x3 else num8 x2, lg⟩
  else if k ≤ 22 then ⟨k, 0, 0, 0, bif lg then num16 x1 x2 else num8 x1, lg⟩
  else if k ≤ 23 then ⟨k, 0, 0, 0, num16 x1 x2, lg⟩
  else ⟨k, 0, x1, 0, x2, lg⟩
def byteAt (l : List UInt8) (i : Nat) : Int := ((nth l i).toNat : Int)
theorem byteAt_bd (l : List UInt8) (i : Nat) : 0 ≤ byteAt l i ∧ byteAt l i < 256 := by
  unfold byteAt
  have := (nth l i).toNat_lt
  omega
/-- what isa.Decode answers: the instruction, how many bytes it has, the error's number -/
def decAns (l : List UInt8) (x : Int) : Ins × Int × Int :=
  if x < 0 ∨ (l.length : Int) ≤ x then (zeroIns, 0, 2)
  else
    let a := x.toNat
    let q := kindOf (byteAt l a)
    if q.1 = 0 then (zeroIns, 0, 3)
    else if (l.length : Int) < x + insSize q.1 q.2 then (zeroIns, 0, 5)
    else
      let i := rawIns q.1 q.2 (byteAt l (a + 1)) (byteAt l (a + 2)) (byteAt l (a + 3))
      if insFault i.K i.D i.A i.B i.N i.Lg = 0 then (i, insSize q.1 q.2, 0) else (zeroIns, 0, 4)
theorem and15 (x : Int) (h1 : 0 ≤ x) (h2 : x < 256) : bits BinOp.and IntKind.u8 x 15 = x % 16 := by
  obtain ⟨a, rfl⟩ : ∃ a : Nat, x = a := ⟨x.toNat, by omega⟩
  have : ∀ a : Nat, a < 256 → bits BinOp.and IntKind.u8 (a : Int) 15 = (a : Int) % 16 := by decide +kernel
  exact this a (by omega)
/-- what isa.Decode returns where all bytes are there: the instruction and its size, or ErrForm -/
def DecGives (i : Ins) (n : Int) (w : World) (e : Ending) (w' : World) : Prop :=
  (if insFault i.K i.D i.A i.B i.N i.Lg = 0 then e = .returned (.tuple #[i.v, .int .i64 n, .int .i64 0]) else e = .returned (.tuple #[zeroIns.v, .int .i64 0, .int .i64 4])) ∧ Keeps w w'
theorem blk_up' {W W' : World} {o : Obj} (h : Keeps (W.alloc o) W') : Blk W' W.heap.size o := (Blk.top W o).keep h
theorem two_blocks' (w : World) (o1 o2 : Obj) : ∃ W : World, W = (w.alloc o1).alloc o2 ∧ Keeps w W ∧ Blk W w.heap.size o1 ∧ Blk W (w.heap.size + 1) o2 ∧ w.heap.size + 1 < W.heap.size :=
  ⟨_, rfl, ((Keeps.refl w).alloc _).alloc _, (Blk.top _ _).keep ((Keeps.refl _).alloc _), Blk.top' _ _ (by rw [sz_alloc]), by rw [sz_alloc, sz_alloc]; omega⟩
theorem Blk.other {w : World} {g gi : Nat} {o : Obj} (h : Blk w g o) (hne : g ≠ gi) (c : Nat) (v : Value) : Blk (w.setCell ⟨gi, c, none⟩ v) g o :=
  Blk.grown h (grown_setCell w gi c v) (by intro e; exact hne (Option.some.inj e))
end Go.Proofs.YtpgifkhgefbnfaaDoor
end
section
namespace Go.Proofs.YtpgifkhgefbnfaaDoor
open Go.RowKit BH
set_option maxHeartbeats 4000000
set_option maxRecDepth 100000

theorem zero_cells {w w1 : World} (h : Keeps (w.alloc (.cells #[.int .i64 0, .int .i64 0, .int .i64 0, .int .i64 0, .int .i64 0, .bool false] 24)) w1) :
    Blk w1 w.heap.size (.cells #[.int .i64 0, .int .i64 0, .int .i64 0, .int .i64 0, .int .i64 0, .bool false] 24) ∧ Keeps w w1 := ⟨blk_up' h, ((Keeps.refl w).alloc _).trans h⟩
/-- an address outside -/
theorem decode_out (ad : Option Addr) (len cap : Nat) (a : Int) (w : World) (h : a < 0 ∨ (len : Int) ≤ a) :
    Calls Tryd.prog 6 #[.slice ad len cap, .int .i64 a] w fun e w' => e = .returned (.tuple #[zeroIns.v, .int .i64 0, .int .i64 2]) ∧ Keeps w w' := by
  by_cases h0 : a < 0
  · have d0 : decide (a < 0) = true := by simpa using h0
    go_enter Tryd.func6, Tryd.ntmps6
    go_wp2
    exact bodyPost_ret (v := .tuple #[.agg #[.int .i64 0, .int .i64 0, .int .i64 0, .int .i64 0, .int .i64 0, .bool false], .int .i64 0, .int .i64 2]) (by simp [results, Tryd.results6, go_sem]) rfl ⟨rfl, (Keeps.refl _).alloc _⟩
  · have d0 : decide (a < 0) = false := by simpa using h0
    have d1 : decide ((len : Int) ≤ a) = true := by simp; omega
    go_enter Tryd.func6, Tryd.ntmps6
    go_wp2
    exact bodyPost_ret (v := .tuple #[.agg #[.int .i64 0, .int .i64 0, .int .i64 0, .int .i64 0, .int .i64 0, .bool false], .int .i64 0, .int .i64 2]) (by simp [results, Tryd.results6, go_sem]) rfl ⟨rfl, (Keeps.refl _).alloc _⟩
/-- no kind has the operator -/
theorem decode_nokind (b off cap len : Nat) (a : Nat) (x0 : Int) (lg : Bool) (w : World) (ht : Tab w)
    (ha : a + 1 ≤ len) (y0 : w.cell? ⟨b, off + a, none⟩ = some (.int .u8 x0)) (hk : kindOf x0 = (0, lg)) :
    Calls Tryd.prog 6 #[.slice (some ⟨b, off, none⟩) len cap, .int .i64 a] w fun e w' => e = .returned (.tuple #[zeroIns.v, .int .i64 0, .int .i64 3]) ∧ Keeps w w' := by
  have HK := Lib.hid (kind_any x0 _ (ht.keep ((Keeps.refl w).alloc (.cells #[.int .i64 0, .int .i64 0, .int .i64 0, .int .i64 0, .int .i64 0, .bool false] 24))))
  rw [hk] at HK
  have hbw : b < w.heap.size := lt_of_cell y0
  have hn : decide ((a : Int) < 0) = false := by simp
  clear ht hk
  go_enter Tryd.func6, Tryd.ntmps6
  go_wp2_with fail
  refine HK.out.mono ?_
  rintro e w1 ⟨rfl, hk1⟩
  obtain ⟨hB, hkw⟩ := zero_cells hk1
  have a0 := hB.cell (j := 0) rfl
  have a1 := hB.cell (j := 1) rfl
  have a2 := hB.cell (j := 2) rfl
  have a3 := hB.cell (j := 3) rfl
  have a4 := hB.cell (j := 4) rfl
  have a5 := hB.cell (j := 5) rfl
  have n0 := hB.thawed 0
  have n1 := hB.thawed 1
  have n2 := hB.thawed 2
  have n3 := hB.thawed 3
  have n4 := hB.thawed 4
  have n5 := hB.thawed 5
  have hl := hB.lt
  have HB := Lib.hid hB
  clear hB HK hk1
  go_wp2_with fail
  obtain ⟨wf, hwf⟩ : ∃ wf : World, wf = ((((((w1.setCell ⟨w.heap.size, 0, none⟩ (.int .i64 0)).setCell ⟨w.heap.size, 1, none⟩ (.int .i64 0)).setCell ⟨w.heap.size, 2, none⟩ (.int .i64 0)).setCell ⟨w.heap.size, 3, none⟩ (.int .i64 0)).setCell ⟨w.heap.size, 4, none⟩ (.int .i64 0)).setCell ⟨w.heap.size, 5, none⟩ (.bool false)) := ⟨_, rfl⟩
  rw [← hwf]
  have hBf : Blk wf w.heap.size (.cells #[.int .i64 0, .int .i64 0, .int .i64 0, .int .i64 0, .int .i64 0, .bool false] 24) := by
    rw [hwf]
    exact (((((HB.out.set 0 _).set 1 _).set 2 _).set 3 _).set 4 _).set 5 _
  have Kf : Keeps w wf := by
    rw [hwf]
    exact Keeps.setCell (Keeps.setCell (Keeps.setCell (Keeps.setCell (Keeps.setCell (Keeps.setCell hkw (Nat.le_refl _) _) (Nat.le_refl _) _) (Nat.le_refl _) _) (Nat.le_refl _) _) (Nat.le_refl _) _) (Nat.le_refl _) _
  have b0 := hBf.cell (j := 0) rfl
  have b1 := hBf.cell (j := 1) rfl
  have b2 := hBf.cell (j := 2) rfl
  have b3 := hBf.cell (j := 3) rfl
  have b4 := hBf.cell (j := 4) rfl
  have b5 := hBf.cell (j := 5) rfl
  clear hwf hBf a0 a1 a2 a3 a4 a5 n0 n1 n2 n3 n4 n5
  exact bodyPost_ret (v := .tuple #[.agg #[.int .i64 0, .int .i64 0, .int .i64 0, .int .i64 0, .int .i64 0, .bool false], .int .i64 0, .int .i64 3]) (by simp [results, Tryd.results6, go_sem, b0, b1, b2, b3, b4, b5]) rfl ⟨rfl, Kf⟩
/-- the bytes end too early -/
theorem decode_short (b off cap len : Nat) (a k : Nat) (lg : Bool) (h1 : 1 ≤ k) (h2 : k ≤ 24) (x0 : Int) (w : World) (ht : Tab w) (hs : Siz w) (hmax : len ≤ 140737488355328)
    (ha : a + 1 ≤ len) (hsh : (len : Int) < a + insSize k lg) (y0 : w.cell? ⟨b, off + a, none⟩ = some (.int .u8 x0)) (hk : kindOf x0 = (k, lg)) :
    Calls Tryd.prog 6 #[.slice (some ⟨b, off, none⟩) len cap, .int .i64 a] w fun e w' => e = .returned (.tuple #[zeroIns.v, .int .i64 0, .int .i64 5]) ∧ Keeps w w' := by
  have HK := Lib.hid (kind_any x0 _ (ht.keep ((Keeps.refl w).alloc (.cells #[.int .i64 0, .int .i64 0, .int .i64 0, .int .i64 0, .int .i64 0, .bool false] 24))))
  rw [hk] at HK
  obtain ⟨e1, e2⟩ := shapeN_eq k (by omega)
  obtain ⟨c0, c1, c2⟩ := ht k (by omega)
  rw [e1] at c2
  have z0 := hs (shapeN k) e2
  obtain ⟨z1, z2⟩ := sizeT_bd (shapeN k) e2
  unfold insSize at hsh
  generalize sizeT (shapeN k) = z at z0 z1 z2 hsh
  generalize shapeN k = s at c2 z0 e2
  generalize opT k = op at *
  generalize longT k = lop at *
  have hbw : b < w.heap.size := lt_of_cell y0
  have hG : 0 < w.heap.size := lt_of_cell c0
  have hG2 : 1 < w.heap.size := lt_of_cell z0
  have hn : decide ((a : Int) < 0) = false := by simp
  clear ht hs hk e1
  go_enter Tryd.func6, Tryd.ntmps6
  go_wp2_with fail
  refine HK.out.mono ?_
  rintro e w1 ⟨rfl, hk1⟩
  obtain ⟨hB, hkw⟩ := zero_cells hk1
  have a0 := hB.cell (j := 0) rfl
  have a1 := hB.cell (j := 1) rfl
  have a2 := hB.cell (j := 2) rfl
  have a3 := hB.cell (j := 3) rfl
  have a4 := hB.cell (j := 4) rfl
  have a5 := hB.cell (j := 5) rfl
  have hl := hB.lt
  have hz := hkw.size
  have hbw1 : b < w1.heap.size := by omega
  have hG3 : 0 < w1.heap.size := by omega
  have hG4 : 1 < w1.heap.size := by omega
  have d0 := hkw.cell c0
  have d1 := hkw.cell c1
  have d2 := hkw.cell c2
  have d3 := hkw.cell z0
  have hBW := hB.keep ((Keeps.refl w1).alloc (.cells #[.int .u8 op, .int .u8 lop, .int .i64 s] 56))
  have HB := Lib.hid hBW
  have HKW := Lib.hid (hkw.trans ((Keeps.refl w1).alloc (.cells #[.int .u8 op, .int .u8 lop, .int .i64 s] 56)))
  clear hB hBW HK hk1 c0 c1 c2 z0 y0 a0 a1 a2 a3 a4 a5 hkw
  obtain ⟨W3, hW3⟩ : ∃ W3 : World, W3 = w1.alloc (.cells #[.int .u8 op, .int .u8 lop, .int .i64 s] 56) := ⟨_, rfl⟩
  rw [← hW3] at HB HKW
  have HW := Lib.hid hW3
  clear hW3
  cases lg
  all_goals
    simp only [Bool.false_eq_true, ↓reduceIte] at hsh
    go_upto_region 10 with fail
    rw [← HW.out]
    have a0 := HB.out.cell (j := 0) rfl
    have a1 := HB.out.cell (j := 1) rfl
    have a2 := HB.out.cell (j := 2) rfl
    have a3 := HB.out.cell (j := 3) rfl
    have a4 := HB.out.cell (j := 4) rfl
    have a5 := HB.out.cell (j := 5) rfl
    have n0 := HB.out.thawed 0
    have n1 := HB.out.thawed 1
    have n2 := HB.out.thawed 2
    have n3 := HB.out.thawed 3
    have n4 := HB.out.thawed 4
    have n5 := HB.out.thawed 5
    clear d0 d1 d2 d3 HW
    go_wp2_with fail
    obtain ⟨wf, hwf⟩ : ∃ wf : World, wf = ((((((W3.setCell ⟨w.heap.size, 0, none⟩ (.int .i64 0)).setCell ⟨w.heap.size, 1, none⟩ (.int .i64 0)).setCell ⟨w.heap.size, 2, none⟩ (.int .i64 0)).setCell ⟨w.heap.size, 3, none⟩ (.int .i64 0)).setCell ⟨w.heap.size, 4, none⟩ (.int .i64 0)).setCell ⟨w.heap.size, 5, none⟩ (.bool false)) := ⟨_, rfl⟩
    rw [← hwf]
    have hBf : Blk wf w.heap.size (.cells #[.int .i64 0, .int .i64 0, .int .i64 0, .int .i64 0, .int .i64 0, .bool false] 24) := by
      rw [hwf]
      exact (((((HB.out.set 0 _).set 1 _).set 2 _).set 3 _).set 4 _).set 5 _
    have Kf : Keeps w wf := by
      rw [hwf]
      exact Keeps.setCell (Keeps.setCell (Keeps.setCell (Keeps.setCell (Keeps.setCell (Keeps.setCell HKW.out (Nat.le_refl _) _) (Nat.le_refl _) _) (Nat.le_refl _) _) (Nat.le_refl _) _) (Nat.le_refl _) _) (Nat.le_refl _) _
    have b0 := hBf.cell (j := 0) rfl
    have b1 := hBf.cell (j := 1) rfl
    have b2 := hBf.cell (j := 2) rfl
    have b3 := hBf.cell (j := 3) rfl
    have b4 := hBf.cell (j := 4) rfl
    have b5 := hBf.cell (j := 5) rfl
    clear hwf hBf a0 a1 a2 a3 a4 a5 n0 n1 n2 n3 n4 n5
    exact bodyPost_ret (v := .tuple #[.agg #[.int .i64 0, .int .i64 0, .int .i64 0, .int .i64 0, .int .i64 0, .bool false], .int .i64 0, .int .i64 5]) (by simp [results, Tryd.results6, go_sem, b0, b1, b2, b3, b4, b5]) rfl ⟨rfl, Kf⟩
end Go.Proofs.YtpgifkhgefbnfaaDoor
end
section
namespace Go.Proofs.YtpgifkhgefbnfaaDoor
open Go.RowKit BH
set_option maxHeartbeats 1000000
set_option maxRecDepth 100000
theorem opOf_any (k : Nat) (h1 : 1 ≤ k) (h2 : k ≤ 24) (w : World) :
    Calls Tryd.prog 22 #[.int .i64 k] w fun e w' => e = .returned (.tuple #[.int .i64 (opT k), .int .i64 (longT k)]) ∧ w = w' := by
  by_cases hbare : k ≤ 4
  · exact opOf_bare k (by omega) hbare w
  by_cases hwide : k ≤ 5
  · exact opOf_wide k (by omega) hwide w
  by_cases hpairA : k ≤ 6
  · exact opOf_pairA k (by omega) hpairA w
  by_cases hthree : k ≤ 13
  · exact opOf_three k (by omega) hthree w
  by_cases hpairB : k ≤ 14
  · exact opOf_pairB k (by omega) hpairB w
  by_cases hstore : k ≤ 15
  · exact opOf_store k (by omega) hstore w
  by_cases hdest : k ≤ 16
  · exact opOf_dest k (by omega) hdest w
  by_cases hsource : k ≤ 17
  · exact opOf_source k (by omega) hsource w
  by_cases hbranch : k ≤ 21
  · exact opOf_branch k (by omega) hbranch w
  by_cases hjump : k ≤ 22
  · exact opOf_jump k (by omega) hjump w
  by_cases hcall : k ≤ 23
  · exact opOf_call k (by omega) hcall w
  exact opOf_table k (by omega) h2 w

/-- the block of the result, and behind it the one of the instruction as the search has left it behind the kinds below j -/
def AtIn (g : Nat) (x0 : Int) (j : Nat) (w : World) : Prop :=
  Blk w g (.cells #[.int .i64 0, .int .i64 0, .int .i64 0, .int .i64 0, .int .i64 0, .bool false] 24) ∧
  Blk w (g + 1) (.cells #[.int .i64 (refGo x0 j).1, .int .i64 0, .int .i64 0, .int .i64 0, .int .i64 0, .bool (refGo x0 j).2] 24)
theorem atIn_of {g gi : Nat} {x0 : Int} {j : Nat} {w : World} (q : Nat × Bool) (hg : g + 1 = gi) (h1 : Blk w g (.cells #[.int .i64 0, .int .i64 0, .int .i64 0, .int .i64 0, .int .i64 0, .bool false] 24))
    (h2 : Blk w gi (.cells #[.int .i64 q.1, .int .i64 0, .int .i64 0, .int .i64 0, .int .i64 0, .bool q.2] 24)) (hq : refGo x0 j = q) : AtIn g x0 j w := by
  subst hg
  subst hq
  exact ⟨h1, h2⟩
end Go.Proofs.YtpgifkhgefbnfaaDoor
end
