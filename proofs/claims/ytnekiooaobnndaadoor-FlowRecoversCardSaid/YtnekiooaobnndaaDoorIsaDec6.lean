/-
 isa.Decode at every address: the errors' ways.
-/
import Derived.Test.YtnekiooaobnndaaDoorIsaAt1
import Derived.Deep.DeepCutAuto
set_option linter.all false
namespace Go.Proofs.YtnekiooaobnndaaDoor
open Go.RowKit BH
set_option maxHeartbeats 4000000
set_option maxRecDepth 100000

theorem zero_cells {w w1 : World} (h : Keeps (w.alloc (.cells #[.int .i64 0, .int .i64 0, .int .i64 0, .int .i64 0, .int .i64 0, .bool false] 61)) w1) :
  Blk w1 w.heap.size (.cells #[.int .i64 0, .int .i64 0, .int .i64 0, .int .i64 0, .int .i64 0, .bool false] 61) ∧ Keeps w w1 := ⟨blk_up' h, ((Keeps.refl w).alloc _).trans h⟩
/-- an address outside -/
theorem decode_out (ad : Option Addr) (len cap : Nat) (a : Int) (w : World) (h : a < 0 ∨ (len : Int) ≤ a) :
  Calls Tryd.prog 42 #[.slice ad len cap, .int .i64 a] w fun e w' => e = .returned (.tuple #[zeroIns.v, .int .i64 0, .int .i64 2]) ∧ Keeps w w' := by
 by_cases h0 : a < 0
 ·have d0 : decide (a < 0) = true := by simpa using h0
  go_enter Tryd.func42, Tryd.ntmps42
  go_wp2
  exact bodyPost_ret (v := .tuple #[.agg #[.int .i64 0, .int .i64 0, .int .i64 0, .int .i64 0, .int .i64 0, .bool false], .int .i64 0, .int .i64 2]) (by simp [results, Tryd.results42, go_sem]) rfl ⟨rfl, (Keeps.refl _).alloc _⟩
 ·have d0 : decide (a < 0) = false := by simpa using h0
  have d1 : decide ((len : Int) ≤ a) = true := by simp; omega
  go_enter Tryd.func42, Tryd.ntmps42
  go_wp2
  exact bodyPost_ret (v := .tuple #[.agg #[.int .i64 0, .int .i64 0, .int .i64 0, .int .i64 0, .int .i64 0, .bool false], .int .i64 0, .int .i64 2]) (by simp [results, Tryd.results42, go_sem]) rfl ⟨rfl, (Keeps.refl _).alloc _⟩
/-- no kind has the operator -/
theorem decode_nokind (b off cap len : Nat) (a : Nat) (x0 : Int) (lg : Bool) (w : World) (ht : Tab w)
  (ha : a + 1 ≤ len) (y0 : w.cell? ⟨b, off + a, none⟩ = some (.int .u8 x0)) (hk : kindOf x0 = (0, lg)) :
  Calls Tryd.prog 42 #[.slice (some ⟨b, off, none⟩) len cap, .int .i64 a] w fun e w' => e = .returned (.tuple #[zeroIns.v, .int .i64 0, .int .i64 3]) ∧ Keeps w w' := by
 have HK := Lib.hid (kind_any x0 _ (ht.keep ((Keeps.refl w).alloc (.cells #[.int .i64 0, .int .i64 0, .int .i64 0, .int .i64 0, .int .i64 0, .bool false] 61))))
 rw [hk] at HK
 have hbw : b < w.heap.size := lt_of_cell y0
 have hn : decide ((a : Int) < 0) = false := by simp
 clear ht hk
 go_enter Tryd.func42, Tryd.ntmps42
 go_wp2_with fail
 refine HK.out.mono ?_
 rintro e w1 ⟨rfl, hk1⟩
 obtain ⟨hB, hkw⟩ := zero_cells hk1
 have a0 := hB.cell (j := 0) rfl
 have a1 := hB.cell (j := 1) rfl
 have a2 := hB.cell (j := 2) rfl
 have a3 := hB.cell (j := 3) rfl
 have a4 := hB.cell (j := 4) rfl
 have a5 := hB.cell (j := 5) rfl
 have n0 := hB.thawed 0
 have n1 := hB.thawed 1
 have n2 := hB.thawed 2
 have n3 := hB.thawed 3
 have n4 := hB.thawed 4
 have n5 := hB.thawed 5
 have hl := hB.lt
 have HB := Lib.hid hB
 clear hB HK hk1
 go_wp2_with fail
 obtain ⟨wf, hwf⟩ : ∃ wf : World, wf = ((((((w1.setCell ⟨w.heap.size, 0, none⟩ (.int .i64 0)).setCell ⟨w.heap.size, 1, none⟩ (.int .i64 0)).setCell ⟨w.heap.size, 2, none⟩ (.int .i64 0)).setCell ⟨w.heap.size, 3, none⟩ (.int .i64 0)).setCell ⟨w.heap.size, 4, none⟩ (.int .i64 0)).setCell ⟨w.heap.size, 5, none⟩ (.bool false)) := ⟨_, rfl⟩
 rw [← hwf]
 have hBf : Blk wf w.heap.size (.cells #[.int .i64 0, .int .i64 0, .int .i64 0, .int .i64 0, .int .i64 0, .bool false] 61) := by
  rw [hwf]
  exact (((((HB.out.set 0 _).set 1 _).set 2 _).set 3 _).set 4 _).set 5 _
 have Kf : Keeps w wf := by
  rw [hwf]
  exact Keeps.setCell (Keeps.setCell (Keeps.setCell (Keeps.setCell (Keeps.setCell (Keeps.setCell hkw (Nat.le_refl _) _) (Nat.le_refl _) _) (Nat.le_refl _) _) (Nat.le_refl _) _) (Nat.le_refl _) _) (Nat.le_refl _) _
 have b0 := hBf.cell (j := 0) rfl
 have b1 := hBf.cell (j := 1) rfl
 have b2 := hBf.cell (j := 2) rfl
 have b3 := hBf.cell (j := 3) rfl
 have b4 := hBf.cell (j := 4) rfl
 have b5 := hBf.cell (j := 5) rfl
 clear hwf hBf a0 a1 a2 a3 a4 a5 n0 n1 n2 n3 n4 n5
 exact bodyPost_ret (v := .tuple #[.agg #[.int .i64 0, .int .i64 0, .int .i64 0, .int .i64 0, .int .i64 0, .bool false], .int .i64 0, .int .i64 3]) (by simp [results, Tryd.results42, go_sem, b0, b1, b2, b3, b4, b5]) rfl ⟨rfl, Kf⟩
/-- the bytes end too early -/
theorem decode_short (b off cap len : Nat) (a k : Nat) (lg : Bool) (h1 : 1 ≤ k) (h2 : k ≤ 24) (x0 : Int) (w : World) (ht : Tab w) (hs : Siz w) (hmax : len ≤ 140737488355328)
  (ha : a + 1 ≤ len) (hsh : (len : Int) < a + insSize k lg) (y0 : w.cell? ⟨b, off + a, none⟩ = some (.int .u8 x0)) (hk : kindOf x0 = (k, lg)) :
  Calls Tryd.prog 42 #[.slice (some ⟨b, off, none⟩) len cap, .int .i64 a] w fun e w' => e = .returned (.tuple #[zeroIns.v, .int .i64 0, .int .i64 5]) ∧ Keeps w w' := by
 have HK := Lib.hid (kind_any x0 _ (ht.keep ((Keeps.refl w).alloc (.cells #[.int .i64 0, .int .i64 0, .int .i64 0, .int .i64 0, .int .i64 0, .bool false] 61))))
 rw [hk] at HK
 obtain ⟨e1, e2⟩ := shapeN_eq k (by omega)
 obtain ⟨c0, c1, c2⟩ := ht k (by omega)
 rw [e1] at c2
 have z0 := hs (shapeN k) e2
 obtain ⟨z1, z2⟩ := sizeT_bd (shapeN k) e2
 unfold insSize at hsh
 generalize sizeT (shapeN k) = z at z0 z1 z2 hsh
 generalize shapeN k = s at c2 z0 e2
 generalize opT k = op at *
 generalize longT k = lop at *
 have hbw : b < w.heap.size := lt_of_cell y0
 have hG : 0 < w.heap.size := lt_of_cell c0
 have hG2 : 1 < w.heap.size := lt_of_cell z0
 have hn : decide ((a : Int) < 0) = false := by simp
 clear ht hs hk e1
 go_enter Tryd.func42, Tryd.ntmps42
 go_wp2_with fail
 refine HK.out.mono ?_
 rintro e w1 ⟨rfl, hk1⟩
 obtain ⟨hB, hkw⟩ := zero_cells hk1
 have a0 := hB.cell (j := 0) rfl
 have a1 := hB.cell (j := 1) rfl
 have a2 := hB.cell (j := 2) rfl
 have a3 := hB.cell (j := 3) rfl
 have a4 := hB.cell (j := 4) rfl
 have a5 := hB.cell (j := 5) rfl
 have hl := hB.lt
 have hz := hkw.size
 have hbw1 : b < w1.heap.size := by omega
 have hG3 : 0 < w1.heap.size := by omega
 have hG4 : 1 < w1.heap.size := by omega
 have d0 := hkw.cell c0
 have d1 := hkw.cell c1
 have d2 := hkw.cell c2
 have d3 := hkw.cell z0
 have hBW := hB.keep ((Keeps.refl w1).alloc (.cells #[.int .u8 op, .int .u8 lop, .int .i64 s] 127))
 have HB := Lib.hid hBW
 have HKW := Lib.hid (hkw.trans ((Keeps.refl w1).alloc (.cells #[.int .u8 op, .int .u8 lop, .int .i64 s] 127)))
 clear hB hBW HK hk1 c0 c1 c2 z0 y0 a0 a1 a2 a3 a4 a5 hkw
 obtain ⟨W3, hW3⟩ : ∃ W3 : World, W3 = w1.alloc (.cells #[.int .u8 op, .int .u8 lop, .int .i64 s] 127) := ⟨_, rfl⟩
 rw [← hW3] at HB HKW
 have HW := Lib.hid hW3
 clear hW3
 cases lg
 all_goals
  simp only [Bool.false_eq_true, ↓reduceIte] at hsh
  go_upto_region 10 with fail
  rw [← HW.out]
  have a0 := HB.out.cell (j := 0) rfl
  have a1 := HB.out.cell (j := 1) rfl
  have a2 := HB.out.cell (j := 2) rfl
  have a3 := HB.out.cell (j := 3) rfl
  have a4 := HB.out.cell (j := 4) rfl
  have a5 := HB.out.cell (j := 5) rfl
  have n0 := HB.out.thawed 0
  have n1 := HB.out.thawed 1
  have n2 := HB.out.thawed 2
  have n3 := HB.out.thawed 3
  have n4 := HB.out.thawed 4
  have n5 := HB.out.thawed 5
  clear d0 d1 d2 d3 HW
  go_wp2_with fail
  obtain ⟨wf, hwf⟩ : ∃ wf : World, wf = ((((((W3.setCell ⟨w.heap.size, 0, none⟩ (.int .i64 0)).setCell ⟨w.heap.size, 1, none⟩ (.int .i64 0)).setCell ⟨w.heap.size, 2, none⟩ (.int .i64 0)).setCell ⟨w.heap.size, 3, none⟩ (.int .i64 0)).setCell ⟨w.heap.size, 4, none⟩ (.int .i64 0)).setCell ⟨w.heap.size, 5, none⟩ (.bool false)) := ⟨_, rfl⟩
  rw [← hwf]
  have hBf : Blk wf w.heap.size (.cells #[.int .i64 0, .int .i64 0, .int .i64 0, .int .i64 0, .int .i64 0, .bool false] 61) := by
   rw [hwf]
   exact (((((HB.out.set 0 _).set 1 _).set 2 _).set 3 _).set 4 _).set 5 _
  have Kf : Keeps w wf := by
   rw [hwf]
   exact Keeps.setCell (Keeps.setCell (Keeps.setCell (Keeps.setCell (Keeps.setCell (Keeps.setCell HKW.out (Nat.le_refl _) _) (Nat.le_refl _) _) (Nat.le_refl _) _) (Nat.le_refl _) _) (Nat.le_refl _) _) (Nat.le_refl _) _
  have b0 := hBf.cell (j := 0) rfl
  have b1 := hBf.cell (j := 1) rfl
  have b2 := hBf.cell (j := 2) rfl
  have b3 := hBf.cell (j := 3) rfl
  have b4 := hBf.cell (j := 4) rfl
  have b5 := hBf.cell (j := 5) rfl
  clear hwf hBf a0 a1 a2 a3 a4 a5 n0 n1 n2 n3 n4 n5
  exact bodyPost_ret (v := .tuple #[.agg #[.int .i64 0, .int .i64 0, .int .i64 0, .int .i64 0, .int .i64 0, .bool false], .int .i64 0, .int .i64 5]) (by simp [results, Tryd.results42, go_sem, b0, b1, b2, b3, b4, b5]) rfl ⟨rfl, Kf⟩
end Go.Proofs.YtnekiooaobnndaaDoor
