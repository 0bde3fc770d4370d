/-
 isa.Decode, kind by kind, where all bytes of the instruction are there.
-/
import Derived.Test.YtnekiooaobnndaaDoorIsaAt1
import Derived.Deep.RegionHeld3
import Derived.Deep.DeepCutAuto
import Derived.IntWalk
set_option linter.all false
namespace Go.Proofs.YtnekiooaobnndaaDoor
open Go.RowKit BH
set_option maxHeartbeats 4000000
set_option maxRecDepth 100000
theorem dec_bare (b off cap len : Nat) (a k : Nat) (h1 : 1 ≤ k) (h2 : k ≤ 4) (x0 : Int) (w : World) (ht : Tab w) (hs : Siz w) (hcap : len ≤ cap) (hmax : cap ≤ 9223372036854775807)
  (ha : a + 1 ≤ len) (y0 : w.cell? ⟨b, off + a, none⟩ = some (.int .u8 x0)) (hk : kindOf x0 = (k, false)) :
  Calls Tryd.prog 42 #[.slice (some ⟨b, off, none⟩) len cap, .int .i64 a] w (DecGives ⟨k, 0, 0, 0, 0, false⟩ 1 w) := by
 have HK := Lib.hid (kind_any x0 _ (ht.keep ((Keeps.refl w).alloc (.cells #[.int .i64 0, .int .i64 0, .int .i64 0, .int .i64 0, .int .i64 0, .bool false] 61))))
 rw [hk] at HK
 have HC := Lib.hid (fun W (hW : Keeps w W) => check_any k (0) (0) (0) (0) false W (ht.keep hW))
 obtain ⟨es, hl⟩ := row_bare k h1 h2
 obtain ⟨c0, c1, c2⟩ := ht k (by omega)
 rw [es] at c2
 have z0 : w.cell? ⟨1, 1, none⟩ = some (.int .i64 1) := hs 1 (by omega)
 generalize opT k = op at *
 generalize longT k = lop at *
 have hbw : b < w.heap.size := lt_of_cell y0
 have hG : 0 < w.heap.size := lt_of_cell c0
 have hG2 : 1 < w.heap.size := lt_of_cell z0
 have hn : decide ((a : Int) < 0) = false := by simp
 clear ht hs hk hl es
 go_enter Tryd.func42, Tryd.ntmps42
 go_wp2_with fail
 refine HK.out.mono ?_
 rintro e w1 ⟨rfl, hk1⟩
 have hz := hk1.size
 rw [sz_alloc] at hz
 have hbw1 : b < w1.heap.size := by omega
 have hG3 : 0 < w1.heap.size := by omega
 have hG4 : 1 < w1.heap.size := by omega
 have hkw : Keeps w w1 := ((Keeps.refl w).alloc _).trans hk1
 have hbR : Blk w1 w.heap.size (.cells #[.int .i64 0, .int .i64 0, .int .i64 0, .int .i64 0, .int .i64 0, .bool false] 61) := blk_up' hk1
 have d0 := hkw.cell c0
 have d1 := hkw.cell c1
 have d2 := hkw.cell c2
 have d3 := hkw.cell z0
 have g0 := hkw.cell y0
 clear c0 c1 c2 z0 y0
 obtain ⟨W3, hW3, hk3, hbr, hbi, hs3⟩ := two_blocks' w1 (.cells #[.int .u8 op, .int .u8 lop, .int .i64 1] 127) (.cells #[.int .i64 k, .int .i64 0, .int .i64 0, .int .i64 0, .int .i64 0, .bool false] 61)
 have HW3 := Lib.hid hW3
 clear hW3
 go_upto_region 35 with fail
 rw [← HW3.out]
 have i0 := hbi.cell (j := 0) rfl
 have i1 := hbi.cell (j := 1) rfl
 have i2 := hbi.cell (j := 2) rfl
 have i3 := hbi.cell (j := 3) rfl
 have i4 := hbi.cell (j := 4) rfl
 have i5 := hbi.cell (j := 5) rfl
 have f1 := hbi.thawed 1
 have f2 := hbi.thawed 2
 have f3 := hbi.thawed 3
 have f4 := hbi.thawed 4
 have e2 : W3.cell? ⟨w1.heap.size, 2, none⟩ = some (.int .i64 1) := hbr.cell rfl
 have hbW : b < W3.heap.size := by omega
 have hgi : w1.heap.size ≤ w1.heap.size + 1 := by omega
 have hkw3 := hkw.trans hk3
 have hbR3 := hbR.keep hk3
 have HBI := Lib.hid hbi
 have HBR := Lib.hid hbR3
 have hbi' : b ≠ w1.heap.size + 1 := by omega
 have hri : w.heap.size ≠ w1.heap.size + 1 := by omega
 have hwi : w.heap.size ≤ w1.heap.size + 1 := by omega
 have hgl := hbi.lt
 clear g0  d0 d1 d2 d3 hbR hbR3 hbr hbi hbw1 hG hG2 hG3 hG4 hk1 hk3 hkw HK HW3 hz
 generalize w1.heap.size + 1 = gi at *
 skip
 go_wp2_with fail
 ·refine (HC.out _ (by repeat (with_reducible (first | assumption | exact Keeps.refl _ | refine Keeps.alloc ?_ _ | refine Keeps.drew ?_ | refine Keeps.drewN ?_ _ | refine Keeps.setCell ?_ hwi _)))).mono ?_
  rintro e w5 ⟨rfl, hk5⟩
  have hB5 : Blk w5 gi (.cells #[.int .i64 k, .int .i64 (0), .int .i64 (0), .int .i64 (0), .int .i64 (0), .bool false] 61) := Blk.keep (by exact HBI.out) hk5
  have hR5 : Blk w5 w.heap.size (.cells #[.int .i64 0, .int .i64 0, .int .i64 0, .int .i64 0, .int .i64 0, .bool false] 61) := Blk.keep (by first | exact HBR.out | exact Blk.drew HBR.out) hk5
  have hkw5 : Keeps w w5 := Keeps.trans (by repeat (with_reducible (first | assumption | exact Keeps.refl _ | refine Keeps.alloc ?_ _ | refine Keeps.drew ?_ | refine Keeps.drewN ?_ _ | refine Keeps.setCell ?_ hwi _))) hk5
  have j0 := hB5.cell (j := 0) rfl
  have j1 := hB5.cell (j := 1) rfl
  have j2 := hB5.cell (j := 2) rfl
  have j3 := hB5.cell (j := 3) rfl
  have j4 := hB5.cell (j := 4) rfl
  have j5 := hB5.cell (j := 5) rfl
  have t0 := hR5.cell (j := 0) rfl
  have t1 := hR5.cell (j := 1) rfl
  have t2 := hR5.cell (j := 2) rfl
  have t3 := hR5.cell (j := 3) rfl
  have t4 := hR5.cell (j := 4) rfl
  have t5 := hR5.cell (j := 5) rfl
  have n0 := hR5.thawed 0
  have n1 := hR5.thawed 1
  have n2 := hR5.thawed 2
  have n3 := hR5.thawed 3
  have n4 := hR5.thawed 4
  have n5 := hR5.thawed 5
  have HR5 := Lib.hid hR5
  obtain ⟨F, hF⟩ : ∃ F, insFault (k : Int) (0) (0) (0) (0) false = F := ⟨_, rfl⟩
  rw [hF]
  have HF := Lib.hid hF
  clear hB5 hR5 hk5 hkw3 HC HBI HBR i0 i1 i2 i3 i4 i5 f1 f2 f3 f4 e2 hF
  by_cases h0 : F = 0
  ·have q1 : (F == 0) = true := by simpa using h0
   have q2 : (F != 0) = false := by simpa using h0
   have H0 := Lib.hid h0
   clear h0
   go_wp2_with fail
   obtain ⟨wf, hwf⟩ : ∃ wf : World, wf = ((((((w5.setCell ⟨w.heap.size, 0, none⟩ (.int .i64 k)).setCell ⟨w.heap.size, 1, none⟩ (.int .i64 (0))).setCell ⟨w.heap.size, 2, none⟩ (.int .i64 (0))).setCell ⟨w.heap.size, 3, none⟩ (.int .i64 (0))).setCell ⟨w.heap.size, 4, none⟩ (.int .i64 (0))).setCell ⟨w.heap.size, 5, none⟩ (.bool false)) := ⟨_, rfl⟩
   rw [← hwf]
   have hBf : Blk wf w.heap.size (.cells #[.int .i64 k, .int .i64 (0), .int .i64 (0), .int .i64 (0), .int .i64 (0), .bool false] 61) := by
    rw [hwf]
    exact (((((HR5.out.set 0 _).set 1 _).set 2 _).set 3 _).set 4 _).set 5 _
   have Kf : Keeps w wf := by
    rw [hwf]
    exact Keeps.setCell (Keeps.setCell (Keeps.setCell (Keeps.setCell (Keeps.setCell (Keeps.setCell hkw5 (Nat.le_refl _) _) (Nat.le_refl _) _) (Nat.le_refl _) _) (Nat.le_refl _) _) (Nat.le_refl _) _) (Nat.le_refl _) _
   have a0 := hBf.cell (j := 0) rfl
   have a1 := hBf.cell (j := 1) rfl
   have a2 := hBf.cell (j := 2) rfl
   have a3 := hBf.cell (j := 3) rfl
   have a4 := hBf.cell (j := 4) rfl
   have a5 := hBf.cell (j := 5) rfl
   clear hwf hBf j0 j1 j2 j3 j4 j5 t0 t1 t2 t3 t4 t5 n0 n1 n2 n3 n4 n5
   refine bodyPost_ret (v := .tuple #[.agg #[.int .i64 k, .int .i64 (0), .int .i64 (0), .int .i64 (0), .int .i64 (0), .bool false], .int .i64 1, .int .i64 0]) (by simp [results, Tryd.results42, go_sem, a0, a1, a2, a3, a4, a5]) rfl ⟨?_, Kf⟩
   show (if insFault (k : Int) (0) (0) (0) (0) false = 0 then _ else _)
   rw [HF.out, if_pos H0.out]
   rfl
  ·have q1 : (F == 0) = false := by simpa using h0
   have q2 : (F != 0) = true := by simpa using h0
   have H0 := Lib.hid h0
   clear h0
   go_wp2_with fail
   obtain ⟨wf, hwf⟩ : ∃ wf : World, wf = ((((((w5.setCell ⟨w.heap.size, 0, none⟩ (.int .i64 0)).setCell ⟨w.heap.size, 1, none⟩ (.int .i64 0)).setCell ⟨w.heap.size, 2, none⟩ (.int .i64 0)).setCell ⟨w.heap.size, 3, none⟩ (.int .i64 0)).setCell ⟨w.heap.size, 4, none⟩ (.int .i64 0)).setCell ⟨w.heap.size, 5, none⟩ (.bool false)) := ⟨_, rfl⟩
   rw [← hwf]
   have hBf : Blk wf w.heap.size (.cells #[.int .i64 0, .int .i64 0, .int .i64 0, .int .i64 0, .int .i64 0, .bool false] 61) := by
    rw [hwf]
    exact (((((HR5.out.set 0 _).set 1 _).set 2 _).set 3 _).set 4 _).set 5 _
   have Kf : Keeps w wf := by
    rw [hwf]
    exact Keeps.setCell (Keeps.setCell (Keeps.setCell (Keeps.setCell (Keeps.setCell (Keeps.setCell hkw5 (Nat.le_refl _) _) (Nat.le_refl _) _) (Nat.le_refl _) _) (Nat.le_refl _) _) (Nat.le_refl _) _) (Nat.le_refl _) _
   have a0 := hBf.cell (j := 0) rfl
   have a1 := hBf.cell (j := 1) rfl
   have a2 := hBf.cell (j := 2) rfl
   have a3 := hBf.cell (j := 3) rfl
   have a4 := hBf.cell (j := 4) rfl
   have a5 := hBf.cell (j := 5) rfl
   clear hwf hBf j0 j1 j2 j3 j4 j5 t0 t1 t2 t3 t4 t5 n0 n1 n2 n3 n4 n5
   refine bodyPost_ret (v := .tuple #[.agg #[.int .i64 0, .int .i64 0, .int .i64 0, .int .i64 0, .int .i64 0, .bool false], .int .i64 0, .int .i64 4]) (by simp [results, Tryd.results42, go_sem, a0, a1, a2, a3, a4, a5]) rfl ⟨?_, Kf⟩
   show (if insFault (k : Int) (0) (0) (0) (0) false = 0 then _ else _)
   rw [HF.out, if_neg H0.out]
   rfl
 ·refine (HC.out _ (by repeat (with_reducible (first | assumption | exact Keeps.refl _ | refine Keeps.alloc ?_ _ | refine Keeps.drew ?_ | refine Keeps.drewN ?_ _ | refine Keeps.setCell ?_ hwi _)))).mono ?_
  rintro e w5 ⟨rfl, hk5⟩
  have hB5 : Blk w5 gi (.cells #[.int .i64 k, .int .i64 (0), .int .i64 (0), .int .i64 (0), .int .i64 (0), .bool false] 61) := Blk.keep (by exact HBI.out) hk5
  have hR5 : Blk w5 w.heap.size (.cells #[.int .i64 0, .int .i64 0, .int .i64 0, .int .i64 0, .int .i64 0, .bool false] 61) := Blk.keep (by first | exact HBR.out | exact Blk.drew HBR.out) hk5
  have hkw5 : Keeps w w5 := Keeps.trans (by repeat (with_reducible (first | assumption | exact Keeps.refl _ | refine Keeps.alloc ?_ _ | refine Keeps.drew ?_ | refine Keeps.drewN ?_ _ | refine Keeps.setCell ?_ hwi _))) hk5
  have j0 := hB5.cell (j := 0) rfl
  have j1 := hB5.cell (j := 1) rfl
  have j2 := hB5.cell (j := 2) rfl
  have j3 := hB5.cell (j := 3) rfl
  have j4 := hB5.cell (j := 4) rfl
  have j5 := hB5.cell (j := 5) rfl
  have t0 := hR5.cell (j := 0) rfl
  have t1 := hR5.cell (j := 1) rfl
  have t2 := hR5.cell (j := 2) rfl
  have t3 := hR5.cell (j := 3) rfl
  have t4 := hR5.cell (j := 4) rfl
  have t5 := hR5.cell (j := 5) rfl
  have n0 := hR5.thawed 0
  have n1 := hR5.thawed 1
  have n2 := hR5.thawed 2
  have n3 := hR5.thawed 3
  have n4 := hR5.thawed 4
  have n5 := hR5.thawed 5
  have HR5 := Lib.hid hR5
  obtain ⟨F, hF⟩ : ∃ F, insFault (k : Int) (0) (0) (0) (0) false = F := ⟨_, rfl⟩
  rw [hF]
  have HF := Lib.hid hF
  clear hB5 hR5 hk5 hkw3 HC HBI HBR i0 i1 i2 i3 i4 i5 f1 f2 f3 f4 e2 hF
  by_cases h0 : F = 0
  ·have q1 : (F == 0) = true := by simpa using h0
   have q2 : (F != 0) = false := by simpa using h0
   have H0 := Lib.hid h0
   clear h0
   go_wp2_with fail
   obtain ⟨wf, hwf⟩ : ∃ wf : World, wf = ((((((w5.setCell ⟨w.heap.size, 0, none⟩ (.int .i64 k)).setCell ⟨w.heap.size, 1, none⟩ (.int .i64 (0))).setCell ⟨w.heap.size, 2, none⟩ (.int .i64 (0))).setCell ⟨w.heap.size, 3, none⟩ (.int .i64 (0))).setCell ⟨w.heap.size, 4, none⟩ (.int .i64 (0))).setCell ⟨w.heap.size, 5, none⟩ (.bool false)) := ⟨_, rfl⟩
   rw [← hwf]
   have hBf : Blk wf w.heap.size (.cells #[.int .i64 k, .int .i64 (0), .int .i64 (0), .int .i64 (0), .int .i64 (0), .bool false] 61) := by
    rw [hwf]
    exact (((((HR5.out.set 0 _).set 1 _).set 2 _).set 3 _).set 4 _).set 5 _
   have Kf : Keeps w wf := by
    rw [hwf]
    exact Keeps.setCell (Keeps.setCell (Keeps.setCell (Keeps.setCell (Keeps.setCell (Keeps.setCell hkw5 (Nat.le_refl _) _) (Nat.le_refl _) _) (Nat.le_refl _) _) (Nat.le_refl _) _) (Nat.le_refl _) _) (Nat.le_refl _) _
   have a0 := hBf.cell (j := 0) rfl
   have a1 := hBf.cell (j := 1) rfl
   have a2 := hBf.cell (j := 2) rfl
   have a3 := hBf.cell (j := 3) rfl
   have a4 := hBf.cell (j := 4) rfl
   have a5 := hBf.cell (j := 5) rfl
   clear hwf hBf j0 j1 j2 j3 j4 j5 t0 t1 t2 t3 t4 t5 n0 n1 n2 n3 n4 n5
   refine bodyPost_ret (v := .tuple #[.agg #[.int .i64 k, .int .i64 (0), .int .i64 (0), .int .i64 (0), .int .i64 (0), .bool false], .int .i64 1, .int .i64 0]) (by simp [results, Tryd.results42, go_sem, a0, a1, a2, a3, a4, a5]) rfl ⟨?_, Kf⟩
   show (if insFault (k : Int) (0) (0) (0) (0) false = 0 then _ else _)
   rw [HF.out, if_pos H0.out]
   rfl
  ·have q1 : (F == 0) = false := by simpa using h0
   have q2 : (F != 0) = true := by simpa using h0
   have H0 := Lib.hid h0
   clear h0
   go_wp2_with fail
   obtain ⟨wf, hwf⟩ : ∃ wf : World, wf = ((((((w5.setCell ⟨w.heap.size, 0, none⟩ (.int .i64 0)).setCell ⟨w.heap.size, 1, none⟩ (.int .i64 0)).setCell ⟨w.heap.size, 2, none⟩ (.int .i64 0)).setCell ⟨w.heap.size, 3, none⟩ (.int .i64 0)).setCell ⟨w.heap.size, 4, none⟩ (.int .i64 0)).setCell ⟨w.heap.size, 5, none⟩ (.bool false)) := ⟨_, rfl⟩
   rw [← hwf]
   have hBf : Blk wf w.heap.size (.cells #[.int .i64 0, .int .i64 0, .int .i64 0, .int .i64 0, .int .i64 0, .bool false] 61) := by
    rw [hwf]
    exact (((((HR5.out.set 0 _).set 1 _).set 2 _).set 3 _).set 4 _).set 5 _
   have Kf : Keeps w wf := by
    rw [hwf]
    exact Keeps.setCell (Keeps.setCell (Keeps.setCell (Keeps.setCell (Keeps.setCell (Keeps.setCell hkw5 (Nat.le_refl _) _) (Nat.le_refl _) _) (Nat.le_refl _) _) (Nat.le_refl _) _) (Nat.le_refl _) _) (Nat.le_refl _) _
   have a0 := hBf.cell (j := 0) rfl
   have a1 := hBf.cell (j := 1) rfl
   have a2 := hBf.cell (j := 2) rfl
   have a3 := hBf.cell (j := 3) rfl
   have a4 := hBf.cell (j := 4) rfl
   have a5 := hBf.cell (j := 5) rfl
   clear hwf hBf j0 j1 j2 j3 j4 j5 t0 t1 t2 t3 t4 t5 n0 n1 n2 n3 n4 n5
   refine bodyPost_ret (v := .tuple #[.agg #[.int .i64 0, .int .i64 0, .int .i64 0, .int .i64 0, .int .i64 0, .bool false], .int .i64 0, .int .i64 4]) (by simp [results, Tryd.results42, go_sem, a0, a1, a2, a3, a4, a5]) rfl ⟨?_, Kf⟩
   show (if insFault (k : Int) (0) (0) (0) (0) false = 0 then _ else _)
   rw [HF.out, if_neg H0.out]
   rfl
theorem dec_wide (b off cap len : Nat) (a k : Nat) (h1 : 5 ≤ k) (h2 : k ≤ 5) (x0 x1 x2 x3 : Int) (w : World) (ht : Tab w) (hs : Siz w) (hcap : len ≤ cap) (hmax : cap ≤ 9223372036854775807)
  (ha : a + 4 ≤ len) (y0 : w.cell? ⟨b, off + a, none⟩ = some (.int .u8 x0)) (y1 : w.cell? ⟨b, off + (a + 1), none⟩ = some (.int .u8 x1)) (y2 : w.cell? ⟨b, off + (a + 1) + 1, none⟩ = some (.int .u8 x2)) (y3 : w.cell? ⟨b, off + (a + 1) + 1 + 1, none⟩ = some (.int .u8 x3)) (l1 : 0 ≤ x1) (u1 : x1 < 256) (l2 : 0 ≤ x2) (u2 : x2 < 256) (l3 : 0 ≤ x3) (u3 : x3 < 256) (hk : kindOf x0 = (k, false)) :
  Calls Tryd.prog 42 #[.slice (some ⟨b, off, none⟩) len cap, .int .i64 a] w (DecGives ⟨k, x1, 0, 0, num16 x2 x3, false⟩ 4 w) := by
 have HK := Lib.hid (kind_any x0 _ (ht.keep ((Keeps.refl w).alloc (.cells #[.int .i64 0, .int .i64 0, .int .i64 0, .int .i64 0, .int .i64 0, .bool false] 61))))
 rw [hk] at HK
 have HC := Lib.hid (fun W (hW : Keeps w W) => check_any k (x1) (0) (0) (num16 x2 x3) false W (ht.keep hW))
 obtain ⟨es, hl⟩ := row_wide k h1 h2
 obtain ⟨c0, c1, c2⟩ := ht k (by omega)
 rw [es] at c2
 have z0 : w.cell? ⟨1, 2, none⟩ = some (.int .i64 4) := hs 2 (by omega)
 generalize opT k = op at *
 generalize longT k = lop at *
 have hbw : b < w.heap.size := lt_of_cell y0
 have hG : 0 < w.heap.size := lt_of_cell c0
 have hG2 : 1 < w.heap.size := lt_of_cell z0
 have hn : decide ((a : Int) < 0) = false := by simp
 clear ht hs hk hl es
 go_enter Tryd.func42, Tryd.ntmps42
 go_wp2_with fail
 refine HK.out.mono ?_
 rintro e w1 ⟨rfl, hk1⟩
 have hz := hk1.size
 rw [sz_alloc] at hz
 have hbw1 : b < w1.heap.size := by omega
 have hG3 : 0 < w1.heap.size := by omega
 have hG4 : 1 < w1.heap.size := by omega
 have hkw : Keeps w w1 := ((Keeps.refl w).alloc _).trans hk1
 have hbR : Blk w1 w.heap.size (.cells #[.int .i64 0, .int .i64 0, .int .i64 0, .int .i64 0, .int .i64 0, .bool false] 61) := blk_up' hk1
 have d0 := hkw.cell c0
 have d1 := hkw.cell c1
 have d2 := hkw.cell c2
 have d3 := hkw.cell z0
 have g0 := hkw.cell y0
 have g1 := hkw.cell y1
 have g2 := hkw.cell y2
 have g3 := hkw.cell y3
 clear c0 c1 c2 z0 y0
 obtain ⟨W3, hW3, hk3, hbr, hbi, hs3⟩ := two_blocks' w1 (.cells #[.int .u8 op, .int .u8 lop, .int .i64 2] 127) (.cells #[.int .i64 k, .int .i64 0, .int .i64 0, .int .i64 0, .int .i64 0, .bool false] 61)
 have HW3 := Lib.hid hW3
 clear hW3
 go_upto_region 17 with fail
 rw [← HW3.out]
 rw [show a + 4 - (a + 1) = 3 by omega]
 have p1 := hk3.cell g1
 have p2 := hk3.cell g2
 have p3 := hk3.cell g3
 have i0 := hbi.cell (j := 0) rfl
 have i1 := hbi.cell (j := 1) rfl
 have i2 := hbi.cell (j := 2) rfl
 have i3 := hbi.cell (j := 3) rfl
 have i4 := hbi.cell (j := 4) rfl
 have i5 := hbi.cell (j := 5) rfl
 have f1 := hbi.thawed 1
 have f2 := hbi.thawed 2
 have f3 := hbi.thawed 3
 have f4 := hbi.thawed 4
 have e2 : W3.cell? ⟨w1.heap.size, 2, none⟩ = some (.int .i64 2) := hbr.cell rfl
 have hbW : b < W3.heap.size := by omega
 have hgi : w1.heap.size ≤ w1.heap.size + 1 := by omega
 have hkw3 := hkw.trans hk3
 have hbR3 := hbR.keep hk3
 have HBI := Lib.hid hbi
 have HBR := Lib.hid hbR3
 have hbi' : b ≠ w1.heap.size + 1 := by omega
 have hri : w.heap.size ≠ w1.heap.size + 1 := by omega
 have hwi : w.heap.size ≤ w1.heap.size + 1 := by omega
 have hgl := hbi.lt
 clear g0 g1 g2 g3 d0 d1 d2 d3 hbR hbR3 hbr hbi hbw1 hG hG2 hG3 hG4 hk1 hk3 hkw HK HW3 hz
 generalize w1.heap.size + 1 = gi at *
 generalize off + (a + 1) = o1 at *
 have hcp : 3 ≤ cap - (a + 1) := by omega
 generalize cap - (a + 1) = cp at *
 have hcp1 : (3 : Int) ≤ (cp : Int) := by omega
 have hcp2 : (1 : Int) < (cp : Int) := by omega
 have hcp3 : ¬ cp = 1 := by omega
 go_region_held3 (fun w' => w'.cell? ⟨b, o1, none⟩ = some (.int .u8 x1) ∧ w'.cell? ⟨b, o1 + 1, none⟩ = some (.int .u8 x2) ∧ w'.cell? ⟨b, o1 + 1 + 1, none⟩ = some (.int .u8 x3))
  (exact ⟨Keeps.cell (by repeat (with_reducible (first | assumption | exact Keeps.refl _ | refine Keeps.alloc ?_ _ | refine Keeps.drew ?_ | refine Keeps.drewN ?_ _ | refine Keeps.setCell ?_ hwi _))) y1, Keeps.cell (by repeat (with_reducible (first | assumption | exact Keeps.refl _ | refine Keeps.alloc ?_ _ | refine Keeps.drew ?_ | refine Keeps.drewN ?_ _ | refine Keeps.setCell ?_ hwi _))) y2, Keeps.cell (by repeat (with_reducible (first | assumption | exact Keeps.refl _ | refine Keeps.alloc ?_ _ | refine Keeps.drew ?_ | refine Keeps.drewN ?_ _ | refine Keeps.setCell ?_ hwi _))) y3⟩)
  ((go_at_call 69; refine (number_two _ _ _ x2 x3 _ (Keeps.cell (by repeat (with_reducible (first | assumption | exact Keeps.refl _ | refine Keeps.alloc ?_ _ | refine Keeps.drew ?_ | refine Keeps.drewN ?_ _ | refine Keeps.setCell ?_ hwi _))) y2) (Keeps.cell (by repeat (with_reducible (first | assumption | exact Keeps.refl _ | refine Keeps.alloc ?_ _ | refine Keeps.drew ?_ | refine Keeps.drewN ?_ _ | refine Keeps.setCell ?_ hwi _))) y3) l2 u2 l3 u3).mono ?_; rintro e w' ⟨rfl, nq, rfl⟩))
 rw [show IntKind.i64.wrap x1 = x1 from IntWalk.i64_in _ (by omega)]
 go_wp2_with fail
 refine (HC.out _ (by repeat (with_reducible (first | assumption | exact Keeps.refl _ | refine Keeps.alloc ?_ _ | refine Keeps.drew ?_ | refine Keeps.drewN ?_ _ | refine Keeps.setCell ?_ hwi _)))).mono ?_
 rintro e w5 ⟨rfl, hk5⟩
 have hB5 : Blk w5 gi (.cells #[.int .i64 k, .int .i64 (x1), .int .i64 (0), .int .i64 (0), .int .i64 (num16 x2 x3), .bool false] 61) := Blk.keep (by exact ((HBI.out).set 1 (.int .i64 (x1))).set 4 (.int .i64 (num16 x2 x3))) hk5
 have hR5 : Blk w5 w.heap.size (.cells #[.int .i64 0, .int .i64 0, .int .i64 0, .int .i64 0, .int .i64 0, .bool false] 61) := Blk.keep (by first | exact Blk.other (Blk.other (HBR.out) hri _ _) hri _ _ | exact Blk.other (Blk.other (Blk.drew HBR.out) hri _ _) hri _ _) hk5
 have hkw5 : Keeps w w5 := Keeps.trans (by repeat (with_reducible (first | assumption | exact Keeps.refl _ | refine Keeps.alloc ?_ _ | refine Keeps.drew ?_ | refine Keeps.drewN ?_ _ | refine Keeps.setCell ?_ hwi _))) hk5
 have j0 := hB5.cell (j := 0) rfl
 have j1 := hB5.cell (j := 1) rfl
 have j2 := hB5.cell (j := 2) rfl
 have j3 := hB5.cell (j := 3) rfl
 have j4 := hB5.cell (j := 4) rfl
 have j5 := hB5.cell (j := 5) rfl
 have t0 := hR5.cell (j := 0) rfl
 have t1 := hR5.cell (j := 1) rfl
 have t2 := hR5.cell (j := 2) rfl
 have t3 := hR5.cell (j := 3) rfl
 have t4 := hR5.cell (j := 4) rfl
 have t5 := hR5.cell (j := 5) rfl
 have n0 := hR5.thawed 0
 have n1 := hR5.thawed 1
 have n2 := hR5.thawed 2
 have n3 := hR5.thawed 3
 have n4 := hR5.thawed 4
 have n5 := hR5.thawed 5
 have HR5 := Lib.hid hR5
 obtain ⟨F, hF⟩ : ∃ F, insFault (k : Int) (x1) (0) (0) (num16 x2 x3) false = F := ⟨_, rfl⟩
 rw [hF]
 have HF := Lib.hid hF
 clear hB5 hR5 hk5 hkw3 HC HBI HBR i0 i1 i2 i3 i4 i5 f1 f2 f3 f4 e2 hF
 by_cases h0 : F = 0
 ·have q1 : (F == 0) = true := by simpa using h0
  have q2 : (F != 0) = false := by simpa using h0
  have H0 := Lib.hid h0
  clear h0
  go_wp2_with fail
  obtain ⟨wf, hwf⟩ : ∃ wf : World, wf = ((((((w5.setCell ⟨w.heap.size, 0, none⟩ (.int .i64 k)).setCell ⟨w.heap.size, 1, none⟩ (.int .i64 (x1))).setCell ⟨w.heap.size, 2, none⟩ (.int .i64 (0))).setCell ⟨w.heap.size, 3, none⟩ (.int .i64 (0))).setCell ⟨w.heap.size, 4, none⟩ (.int .i64 (num16 x2 x3))).setCell ⟨w.heap.size, 5, none⟩ (.bool false)) := ⟨_, rfl⟩
  rw [← hwf]
  have hBf : Blk wf w.heap.size (.cells #[.int .i64 k, .int .i64 (x1), .int .i64 (0), .int .i64 (0), .int .i64 (num16 x2 x3), .bool false] 61) := by
   rw [hwf]
   exact (((((HR5.out.set 0 _).set 1 _).set 2 _).set 3 _).set 4 _).set 5 _
  have Kf : Keeps w wf := by
   rw [hwf]
   exact Keeps.setCell (Keeps.setCell (Keeps.setCell (Keeps.setCell (Keeps.setCell (Keeps.setCell hkw5 (Nat.le_refl _) _) (Nat.le_refl _) _) (Nat.le_refl _) _) (Nat.le_refl _) _) (Nat.le_refl _) _) (Nat.le_refl _) _
  have a0 := hBf.cell (j := 0) rfl
  have a1 := hBf.cell (j := 1) rfl
  have a2 := hBf.cell (j := 2) rfl
  have a3 := hBf.cell (j := 3) rfl
  have a4 := hBf.cell (j := 4) rfl
  have a5 := hBf.cell (j := 5) rfl
  clear hwf hBf j0 j1 j2 j3 j4 j5 t0 t1 t2 t3 t4 t5 n0 n1 n2 n3 n4 n5
  refine bodyPost_ret (v := .tuple #[.agg #[.int .i64 k, .int .i64 (x1), .int .i64 (0), .int .i64 (0), .int .i64 (num16 x2 x3), .bool false], .int .i64 4, .int .i64 0]) (by simp [results, Tryd.results42, go_sem, a0, a1, a2, a3, a4, a5]) rfl ⟨?_, Kf⟩
  show (if insFault (k : Int) (x1) (0) (0) (num16 x2 x3) false = 0 then _ else _)
  rw [HF.out, if_pos H0.out]
  rfl
 ·have q1 : (F == 0) = false := by simpa using h0
  have q2 : (F != 0) = true := by simpa using h0
  have H0 := Lib.hid h0
  clear h0
  go_wp2_with fail
  obtain ⟨wf, hwf⟩ : ∃ wf : World, wf = ((((((w5.setCell ⟨w.heap.size, 0, none⟩ (.int .i64 0)).setCell ⟨w.heap.size, 1, none⟩ (.int .i64 0)).setCell ⟨w.heap.size, 2, none⟩ (.int .i64 0)).setCell ⟨w.heap.size, 3, none⟩ (.int .i64 0)).setCell ⟨w.heap.size, 4, none⟩ (.int .i64 0)).setCell ⟨w.heap.size, 5, none⟩ (.bool false)) := ⟨_, rfl⟩
  rw [← hwf]
  have hBf : Blk wf w.heap.size (.cells #[.int .i64 0, .int .i64 0, .int .i64 0, .int .i64 0, .int .i64 0, .bool false] 61) := by
   rw [hwf]
   exact (((((HR5.out.set 0 _).set 1 _).set 2 _).set 3 _).set 4 _).set 5 _
  have Kf : Keeps w wf := by
   rw [hwf]
   exact Keeps.setCell (Keeps.setCell (Keeps.setCell (Keeps.setCell (Keeps.setCell (Keeps.setCell hkw5 (Nat.le_refl _) _) (Nat.le_refl _) _) (Nat.le_refl _) _) (Nat.le_refl _) _) (Nat.le_refl _) _) (Nat.le_refl _) _
  have a0 := hBf.cell (j := 0) rfl
  have a1 := hBf.cell (j := 1) rfl
  have a2 := hBf.cell (j := 2) rfl
  have a3 := hBf.cell (j := 3) rfl
  have a4 := hBf.cell (j := 4) rfl
  have a5 := hBf.cell (j := 5) rfl
  clear hwf hBf j0 j1 j2 j3 j4 j5 t0 t1 t2 t3 t4 t5 n0 n1 n2 n3 n4 n5
  refine bodyPost_ret (v := .tuple #[.agg #[.int .i64 0, .int .i64 0, .int .i64 0, .int .i64 0, .int .i64 0, .bool false], .int .i64 0, .int .i64 4]) (by simp [results, Tryd.results42, go_sem, a0, a1, a2, a3, a4, a5]) rfl ⟨?_, Kf⟩
  show (if insFault (k : Int) (x1) (0) (0) (num16 x2 x3) false = 0 then _ else _)
  rw [HF.out, if_neg H0.out]
  rfl
theorem dec_pairA (b off cap len : Nat) (a k : Nat) (h1 : 6 ≤ k) (h2 : k ≤ 6) (x0 x1 x2 : Int) (w : World) (ht : Tab w) (hs : Siz w) (hcap : len ≤ cap) (hmax : cap ≤ 9223372036854775807)
  (ha : a + 3 ≤ len) (y0 : w.cell? ⟨b, off + a, none⟩ = some (.int .u8 x0)) (y1 : w.cell? ⟨b, off + (a + 1), none⟩ = some (.int .u8 x1)) (y2 : w.cell? ⟨b, off + (a + 1) + 1, none⟩ = some (.int .u8 x2)) (l1 : 0 ≤ x1) (u1 : x1 < 256) (l2 : 0 ≤ x2) (u2 : x2 < 256) (hk : kindOf x0 = (k, false)) :
  Calls Tryd.prog 42 #[.slice (some ⟨b, off, none⟩) len cap, .int .i64 a] w (DecGives ⟨k, x1 / 16, x1 % 16, 0, num8 x2, false⟩ 3 w) := by
 have HK := Lib.hid (kind_any x0 _ (ht.keep ((Keeps.refl w).alloc (.cells #[.int .i64 0, .int .i64 0, .int .i64 0, .int .i64 0, .int .i64 0, .bool false] 61))))
 rw [hk] at HK
 have HC := Lib.hid (fun W (hW : Keeps w W) => check_any k (x1 / 16) (x1 % 16) (0) (num8 x2) false W (ht.keep hW))
 obtain ⟨es, hl⟩ := row_pairA k h1 h2
 obtain ⟨c0, c1, c2⟩ := ht k (by omega)
 rw [es] at c2
 have z0 : w.cell? ⟨1, 3, none⟩ = some (.int .i64 3) := hs 3 (by omega)
 generalize opT k = op at *
 generalize longT k = lop at *
 have hbw : b < w.heap.size := lt_of_cell y0
 have hG : 0 < w.heap.size := lt_of_cell c0
 have hG2 : 1 < w.heap.size := lt_of_cell z0
 have hn : decide ((a : Int) < 0) = false := by simp
 clear ht hs hk hl es
 go_enter Tryd.func42, Tryd.ntmps42
 go_wp2_with fail
 refine HK.out.mono ?_
 rintro e w1 ⟨rfl, hk1⟩
 have hz := hk1.size
 rw [sz_alloc] at hz
 have hbw1 : b < w1.heap.size := by omega
 have hG3 : 0 < w1.heap.size := by omega
 have hG4 : 1 < w1.heap.size := by omega
 have hkw : Keeps w w1 := ((Keeps.refl w).alloc _).trans hk1
 have hbR : Blk w1 w.heap.size (.cells #[.int .i64 0, .int .i64 0, .int .i64 0, .int .i64 0, .int .i64 0, .bool false] 61) := blk_up' hk1
 have d0 := hkw.cell c0
 have d1 := hkw.cell c1
 have d2 := hkw.cell c2
 have d3 := hkw.cell z0
 have g0 := hkw.cell y0
 have g1 := hkw.cell y1
 have g2 := hkw.cell y2
 clear c0 c1 c2 z0 y0
 obtain ⟨W3, hW3, hk3, hbr, hbi, hs3⟩ := two_blocks' w1 (.cells #[.int .u8 op, .int .u8 lop, .int .i64 3] 127) (.cells #[.int .i64 k, .int .i64 0, .int .i64 0, .int .i64 0, .int .i64 0, .bool false] 61)
 have HW3 := Lib.hid hW3
 clear hW3
 go_upto_region 19 with fail
 rw [← HW3.out]
 rw [show a + 3 - (a + 1) = 2 by omega]
 have p1 := hk3.cell g1
 have p2 := hk3.cell g2
 have i0 := hbi.cell (j := 0) rfl
 have i1 := hbi.cell (j := 1) rfl
 have i2 := hbi.cell (j := 2) rfl
 have i3 := hbi.cell (j := 3) rfl
 have i4 := hbi.cell (j := 4) rfl
 have i5 := hbi.cell (j := 5) rfl
 have f1 := hbi.thawed 1
 have f2 := hbi.thawed 2
 have f3 := hbi.thawed 3
 have f4 := hbi.thawed 4
 have e2 : W3.cell? ⟨w1.heap.size, 2, none⟩ = some (.int .i64 3) := hbr.cell rfl
 have hbW : b < W3.heap.size := by omega
 have hgi : w1.heap.size ≤ w1.heap.size + 1 := by omega
 have hkw3 := hkw.trans hk3
 have hbR3 := hbR.keep hk3
 have HBI := Lib.hid hbi
 have HBR := Lib.hid hbR3
 have hbi' : b ≠ w1.heap.size + 1 := by omega
 have hri : w.heap.size ≠ w1.heap.size + 1 := by omega
 have hwi : w.heap.size ≤ w1.heap.size + 1 := by omega
 have hgl := hbi.lt
 clear g0 g1 g2 d0 d1 d2 d3 hbR hbR3 hbr hbi hbw1 hG hG2 hG3 hG4 hk1 hk3 hkw HK HW3 hz
 generalize w1.heap.size + 1 = gi at *
 generalize off + (a + 1) = o1 at *
 have hcp : 2 ≤ cap - (a + 1) := by omega
 generalize cap - (a + 1) = cp at *
 have hcp1 : (2 : Int) ≤ (cp : Int) := by omega
 have hcp2 : (1 : Int) < (cp : Int) := by omega
 have hcp3 : ¬ cp = 1 := by omega
 go_region_held3 (fun w' => w'.cell? ⟨b, o1, none⟩ = some (.int .u8 x1) ∧ w'.cell? ⟨b, o1 + 1, none⟩ = some (.int .u8 x2))
  (exact ⟨Keeps.cell (by repeat (with_reducible (first | assumption | exact Keeps.refl _ | refine Keeps.alloc ?_ _ | refine Keeps.drew ?_ | refine Keeps.drewN ?_ _ | refine Keeps.setCell ?_ hwi _))) y1, Keeps.cell (by repeat (with_reducible (first | assumption | exact Keeps.refl _ | refine Keeps.alloc ?_ _ | refine Keeps.drew ?_ | refine Keeps.drewN ?_ _ | refine Keeps.setCell ?_ hwi _))) y2⟩)
  ((go_at_call 69; refine (number_one _ _ _ x2 _ (Keeps.cell (by repeat (with_reducible (first | assumption | exact Keeps.refl _ | refine Keeps.alloc ?_ _ | refine Keeps.drew ?_ | refine Keeps.drewN ?_ _ | refine Keeps.setCell ?_ hwi _))) y2) l2 u2).mono ?_; rintro e w' ⟨rfl, rfl⟩))
 rw [show IntKind.i64.wrap (x1 / 16) = x1 / 16 from IntWalk.i64_in _ (by omega), show IntKind.i64.wrap (bits BinOp.and IntKind.u8 x1 15) = x1 % 16 by rw [and15 x1 l1 u1]; exact IntWalk.i64_in _ (by omega)]
 go_wp2_with fail
 refine (HC.out _ (by repeat (with_reducible (first | assumption | exact Keeps.refl _ | refine Keeps.alloc ?_ _ | refine Keeps.drew ?_ | refine Keeps.drewN ?_ _ | refine Keeps.setCell ?_ hwi _)))).mono ?_
 rintro e w5 ⟨rfl, hk5⟩
 have hB5 : Blk w5 gi (.cells #[.int .i64 k, .int .i64 (x1 / 16), .int .i64 (x1 % 16), .int .i64 (0), .int .i64 (num8 x2), .bool false] 61) := Blk.keep (by exact (((HBI.out).set 1 (.int .i64 (x1 / 16))).set 2 (.int .i64 (x1 % 16))).set 4 (.int .i64 (num8 x2))) hk5
 have hR5 : Blk w5 w.heap.size (.cells #[.int .i64 0, .int .i64 0, .int .i64 0, .int .i64 0, .int .i64 0, .bool false] 61) := Blk.keep (by first | exact Blk.other (Blk.other (Blk.other (HBR.out) hri _ _) hri _ _) hri _ _ | exact Blk.other (Blk.other (Blk.other (Blk.drew HBR.out) hri _ _) hri _ _) hri _ _) hk5
 have hkw5 : Keeps w w5 := Keeps.trans (by repeat (with_reducible (first | assumption | exact Keeps.refl _ | refine Keeps.alloc ?_ _ | refine Keeps.drew ?_ | refine Keeps.drewN ?_ _ | refine Keeps.setCell ?_ hwi _))) hk5
 have j0 := hB5.cell (j := 0) rfl
 have j1 := hB5.cell (j := 1) rfl
 have j2 := hB5.cell (j := 2) rfl
 have j3 := hB5.cell (j := 3) rfl
 have j4 := hB5.cell (j := 4) rfl
 have j5 := hB5.cell (j := 5) rfl
 have t0 := hR5.cell (j := 0) rfl
 have t1 := hR5.cell (j := 1) rfl
 have t2 := hR5.cell (j := 2) rfl
 have t3 := hR5.cell (j := 3) rfl
 have t4 := hR5.cell (j := 4) rfl
 have t5 := hR5.cell (j := 5) rfl
 have n0 := hR5.thawed 0
 have n1 := hR5.thawed 1
 have n2 := hR5.thawed 2
 have n3 := hR5.thawed 3
 have n4 := hR5.thawed 4
 have n5 := hR5.thawed 5
 have HR5 := Lib.hid hR5
 obtain ⟨F, hF⟩ : ∃ F, insFault (k : Int) (x1 / 16) (x1 % 16) (0) (num8 x2) false = F := ⟨_, rfl⟩
 rw [hF]
 have HF := Lib.hid hF
 clear hB5 hR5 hk5 hkw3 HC HBI HBR i0 i1 i2 i3 i4 i5 f1 f2 f3 f4 e2 hF
 by_cases h0 : F = 0
 ·have q1 : (F == 0) = true := by simpa using h0
  have q2 : (F != 0) = false := by simpa using h0
  have H0 := Lib.hid h0
  clear h0
  go_wp2_with fail
  obtain ⟨wf, hwf⟩ : ∃ wf : World, wf = ((((((w5.setCell ⟨w.heap.size, 0, none⟩ (.int .i64 k)).setCell ⟨w.heap.size, 1, none⟩ (.int .i64 (x1 / 16))).setCell ⟨w.heap.size, 2, none⟩ (.int .i64 (x1 % 16))).setCell ⟨w.heap.size, 3, none⟩ (.int .i64 (0))).setCell ⟨w.heap.size, 4, none⟩ (.int .i64 (num8 x2))).setCell ⟨w.heap.size, 5, none⟩ (.bool false)) := ⟨_, rfl⟩
  rw [← hwf]
  have hBf : Blk wf w.heap.size (.cells #[.int .i64 k, .int .i64 (x1 / 16), .int .i64 (x1 % 16), .int .i64 (0), .int .i64 (num8 x2), .bool false] 61) := by
   rw [hwf]
   exact (((((HR5.out.set 0 _).set 1 _).set 2 _).set 3 _).set 4 _).set 5 _
  have Kf : Keeps w wf := by
   rw [hwf]
   exact Keeps.setCell (Keeps.setCell (Keeps.setCell (Keeps.setCell (Keeps.setCell (Keeps.setCell hkw5 (Nat.le_refl _) _) (Nat.le_refl _) _) (Nat.le_refl _) _) (Nat.le_refl _) _) (Nat.le_refl _) _) (Nat.le_refl _) _
  have a0 := hBf.cell (j := 0) rfl
  have a1 := hBf.cell (j := 1) rfl
  have a2 := hBf.cell (j := 2) rfl
  have a3 := hBf.cell (j := 3) rfl
  have a4 := hBf.cell (j := 4) rfl
  have a5 := hBf.cell (j := 5) rfl
  clear hwf hBf j0 j1 j2 j3 j4 j5 t0 t1 t2 t3 t4 t5 n0 n1 n2 n3 n4 n5
  refine bodyPost_ret (v := .tuple #[.agg #[.int .i64 k, .int .i64 (x1 / 16), .int .i64 (x1 % 16), .int .i64 (0), .int .i64 (num8 x2), .bool false], .int .i64 3, .int .i64 0]) (by simp [results, Tryd.results42, go_sem, a0, a1, a2, a3, a4, a5]) rfl ⟨?_, Kf⟩
  show (if insFault (k : Int) (x1 / 16) (x1 % 16) (0) (num8 x2) false = 0 then _ else _)
  rw [HF.out, if_pos H0.out]
  rfl
 ·have q1 : (F == 0) = false := by simpa using h0
  have q2 : (F != 0) = true := by simpa using h0
  have H0 := Lib.hid h0
  clear h0
  go_wp2_with fail
  obtain ⟨wf, hwf⟩ : ∃ wf : World, wf = ((((((w5.setCell ⟨w.heap.size, 0, none⟩ (.int .i64 0)).setCell ⟨w.heap.size, 1, none⟩ (.int .i64 0)).setCell ⟨w.heap.size, 2, none⟩ (.int .i64 0)).setCell ⟨w.heap.size, 3, none⟩ (.int .i64 0)).setCell ⟨w.heap.size, 4, none⟩ (.int .i64 0)).setCell ⟨w.heap.size, 5, none⟩ (.bool false)) := ⟨_, rfl⟩
  rw [← hwf]
  have hBf : Blk wf w.heap.size (.cells #[.int .i64 0, .int .i64 0, .int .i64 0, .int .i64 0, .int .i64 0, .bool false] 61) := by
   rw [hwf]
   exact (((((HR5.out.set 0 _).set 1 _).set 2 _).set 3 _).set 4 _).set 5 _
  have Kf : Keeps w wf := by
   rw [hwf]
   exact Keeps.setCell (Keeps.setCell (Keeps.setCell (Keeps.setCell (Keeps.setCell (Keeps.setCell hkw5 (Nat.le_refl _) _) (Nat.le_refl _) _) (Nat.le_refl _) _) (Nat.le_refl _) _) (Nat.le_refl _) _) (Nat.le_refl _) _
  have a0 := hBf.cell (j := 0) rfl
  have a1 := hBf.cell (j := 1) rfl
  have a2 := hBf.cell (j := 2) rfl
  have a3 := hBf.cell (j := 3) rfl
  have a4 := hBf.cell (j := 4) rfl
  have a5 := hBf.cell (j := 5) rfl
  clear hwf hBf j0 j1 j2 j3 j4 j5 t0 t1 t2 t3 t4 t5 n0 n1 n2 n3 n4 n5
  refine bodyPost_ret (v := .tuple #[.agg #[.int .i64 0, .int .i64 0, .int .i64 0, .int .i64 0, .int .i64 0, .bool false], .int .i64 0, .int .i64 4]) (by simp [results, Tryd.results42, go_sem, a0, a1, a2, a3, a4, a5]) rfl ⟨?_, Kf⟩
  show (if insFault (k : Int) (x1 / 16) (x1 % 16) (0) (num8 x2) false = 0 then _ else _)
  rw [HF.out, if_neg H0.out]
  rfl
theorem dec_three (b off cap len : Nat) (a k : Nat) (h1 : 7 ≤ k) (h2 : k ≤ 13) (x0 x1 x2 : Int) (w : World) (ht : Tab w) (hs : Siz w) (hcap : len ≤ cap) (hmax : cap ≤ 9223372036854775807)
  (ha : a + 3 ≤ len) (y0 : w.cell? ⟨b, off + a, none⟩ = some (.int .u8 x0)) (y1 : w.cell? ⟨b, off + (a + 1), none⟩ = some (.int .u8 x1)) (y2 : w.cell? ⟨b, off + (a + 1) + 1, none⟩ = some (.int .u8 x2)) (l1 : 0 ≤ x1) (u1 : x1 < 256) (l2 : 0 ≤ x2) (u2 : x2 < 256) (hk : kindOf x0 = (k, false)) :
  Calls Tryd.prog 42 #[.slice (some ⟨b, off, none⟩) len cap, .int .i64 a] w (DecGives ⟨k, x1 / 16, x1 % 16, x2, 0, false⟩ 3 w) := by
 have HK := Lib.hid (kind_any x0 _ (ht.keep ((Keeps.refl w).alloc (.cells #[.int .i64 0, .int .i64 0, .int .i64 0, .int .i64 0, .int .i64 0, .bool false] 61))))
 rw [hk] at HK
 have HC := Lib.hid (fun W (hW : Keeps w W) => check_any k (x1 / 16) (x1 % 16) (x2) (0) false W (ht.keep hW))
 obtain ⟨es, hl⟩ := row_three k h1 h2
 obtain ⟨c0, c1, c2⟩ := ht k (by omega)
 rw [es] at c2
 have z0 : w.cell? ⟨1, 4, none⟩ = some (.int .i64 3) := hs 4 (by omega)
 generalize opT k = op at *
 generalize longT k = lop at *
 have hbw : b < w.heap.size := lt_of_cell y0
 have hG : 0 < w.heap.size := lt_of_cell c0
 have hG2 : 1 < w.heap.size := lt_of_cell z0
 have hn : decide ((a : Int) < 0) = false := by simp
 clear ht hs hk hl es
 go_enter Tryd.func42, Tryd.ntmps42
 go_wp2_with fail
 refine HK.out.mono ?_
 rintro e w1 ⟨rfl, hk1⟩
 have hz := hk1.size
 rw [sz_alloc] at hz
 have hbw1 : b < w1.heap.size := by omega
 have hG3 : 0 < w1.heap.size := by omega
 have hG4 : 1 < w1.heap.size := by omega
 have hkw : Keeps w w1 := ((Keeps.refl w).alloc _).trans hk1
 have hbR : Blk w1 w.heap.size (.cells #[.int .i64 0, .int .i64 0, .int .i64 0, .int .i64 0, .int .i64 0, .bool false] 61) := blk_up' hk1
 have d0 := hkw.cell c0
 have d1 := hkw.cell c1
 have d2 := hkw.cell c2
 have d3 := hkw.cell z0
 have g0 := hkw.cell y0
 have g1 := hkw.cell y1
 have g2 := hkw.cell y2
 clear c0 c1 c2 z0 y0
 obtain ⟨W3, hW3, hk3, hbr, hbi, hs3⟩ := two_blocks' w1 (.cells #[.int .u8 op, .int .u8 lop, .int .i64 4] 127) (.cells #[.int .i64 k, .int .i64 0, .int .i64 0, .int .i64 0, .int .i64 0, .bool false] 61)
 have HW3 := Lib.hid hW3
 clear hW3
 go_upto_region 21 with fail
 rw [← HW3.out]
 rw [show a + 3 - (a + 1) = 2 by omega]
 have p1 := hk3.cell g1
 have p2 := hk3.cell g2
 have i0 := hbi.cell (j := 0) rfl
 have i1 := hbi.cell (j := 1) rfl
 have i2 := hbi.cell (j := 2) rfl
 have i3 := hbi.cell (j := 3) rfl
 have i4 := hbi.cell (j := 4) rfl
 have i5 := hbi.cell (j := 5) rfl
 have f1 := hbi.thawed 1
 have f2 := hbi.thawed 2
 have f3 := hbi.thawed 3
 have f4 := hbi.thawed 4
 have e2 : W3.cell? ⟨w1.heap.size, 2, none⟩ = some (.int .i64 4) := hbr.cell rfl
 have hbW : b < W3.heap.size := by omega
 have hgi : w1.heap.size ≤ w1.heap.size + 1 := by omega
 have hkw3 := hkw.trans hk3
 have hbR3 := hbR.keep hk3
 have HBI := Lib.hid hbi
 have HBR := Lib.hid hbR3
 have hbi' : b ≠ w1.heap.size + 1 := by omega
 have hri : w.heap.size ≠ w1.heap.size + 1 := by omega
 have hwi : w.heap.size ≤ w1.heap.size + 1 := by omega
 have hgl := hbi.lt
 clear g0 g1 g2 d0 d1 d2 d3 hbR hbR3 hbr hbi hbw1 hG hG2 hG3 hG4 hk1 hk3 hkw HK HW3 hz
 generalize w1.heap.size + 1 = gi at *
 generalize off + (a + 1) = o1 at *
 have hcp : 2 ≤ cap - (a + 1) := by omega
 generalize cap - (a + 1) = cp at *
 have hcp1 : (2 : Int) ≤ (cp : Int) := by omega
 have hcp2 : (1 : Int) < (cp : Int) := by omega
 have hcp3 : ¬ cp = 1 := by omega
 go_region_held3 (fun w' => w'.cell? ⟨b, o1, none⟩ = some (.int .u8 x1) ∧ w'.cell? ⟨b, o1 + 1, none⟩ = some (.int .u8 x2))
  (exact ⟨Keeps.cell (by repeat (with_reducible (first | assumption | exact Keeps.refl _ | refine Keeps.alloc ?_ _ | refine Keeps.drew ?_ | refine Keeps.drewN ?_ _ | refine Keeps.setCell ?_ hwi _))) y1, Keeps.cell (by repeat (with_reducible (first | assumption | exact Keeps.refl _ | refine Keeps.alloc ?_ _ | refine Keeps.drew ?_ | refine Keeps.drewN ?_ _ | refine Keeps.setCell ?_ hwi _))) y2⟩)
  (fail)
 rw [show IntKind.i64.wrap (x1 / 16) = x1 / 16 from IntWalk.i64_in _ (by omega), show IntKind.i64.wrap (bits BinOp.and IntKind.u8 x1 15) = x1 % 16 by rw [and15 x1 l1 u1]; exact IntWalk.i64_in _ (by omega), show IntKind.i64.wrap x2 = x2 from IntWalk.i64_in _ (by omega)]
 go_wp2_with fail
 refine (HC.out _ (by repeat (with_reducible (first | assumption | exact Keeps.refl _ | refine Keeps.alloc ?_ _ | refine Keeps.drew ?_ | refine Keeps.drewN ?_ _ | refine Keeps.setCell ?_ hwi _)))).mono ?_
 rintro e w5 ⟨rfl, hk5⟩
 have hB5 : Blk w5 gi (.cells #[.int .i64 k, .int .i64 (x1 / 16), .int .i64 (x1 % 16), .int .i64 (x2), .int .i64 (0), .bool false] 61) := Blk.keep (by exact (((HBI.out).set 1 (.int .i64 (x1 / 16))).set 2 (.int .i64 (x1 % 16))).set 3 (.int .i64 (x2))) hk5
 have hR5 : Blk w5 w.heap.size (.cells #[.int .i64 0, .int .i64 0, .int .i64 0, .int .i64 0, .int .i64 0, .bool false] 61) := Blk.keep (by first | exact Blk.other (Blk.other (Blk.other (HBR.out) hri _ _) hri _ _) hri _ _ | exact Blk.other (Blk.other (Blk.other (Blk.drew HBR.out) hri _ _) hri _ _) hri _ _) hk5
 have hkw5 : Keeps w w5 := Keeps.trans (by repeat (with_reducible (first | assumption | exact Keeps.refl _ | refine Keeps.alloc ?_ _ | refine Keeps.drew ?_ | refine Keeps.drewN ?_ _ | refine Keeps.setCell ?_ hwi _))) hk5
 have j0 := hB5.cell (j := 0) rfl
 have j1 := hB5.cell (j := 1) rfl
 have j2 := hB5.cell (j := 2) rfl
 have j3 := hB5.cell (j := 3) rfl
 have j4 := hB5.cell (j := 4) rfl
 have j5 := hB5.cell (j := 5) rfl
 have t0 := hR5.cell (j := 0) rfl
 have t1 := hR5.cell (j := 1) rfl
 have t2 := hR5.cell (j := 2) rfl
 have t3 := hR5.cell (j := 3) rfl
 have t4 := hR5.cell (j := 4) rfl
 have t5 := hR5.cell (j := 5) rfl
 have n0 := hR5.thawed 0
 have n1 := hR5.thawed 1
 have n2 := hR5.thawed 2
 have n3 := hR5.thawed 3
 have n4 := hR5.thawed 4
 have n5 := hR5.thawed 5
 have HR5 := Lib.hid hR5
 obtain ⟨F, hF⟩ : ∃ F, insFault (k : Int) (x1 / 16) (x1 % 16) (x2) (0) false = F := ⟨_, rfl⟩
 rw [hF]
 have HF := Lib.hid hF
 clear hB5 hR5 hk5 hkw3 HC HBI HBR i0 i1 i2 i3 i4 i5 f1 f2 f3 f4 e2 hF
 by_cases h0 : F = 0
 ·have q1 : (F == 0) = true := by simpa using h0
  have q2 : (F != 0) = false := by simpa using h0
  have H0 := Lib.hid h0
  clear h0
  go_wp2_with fail
  obtain ⟨wf, hwf⟩ : ∃ wf : World, wf = ((((((w5.setCell ⟨w.heap.size, 0, none⟩ (.int .i64 k)).setCell ⟨w.heap.size, 1, none⟩ (.int .i64 (x1 / 16))).setCell ⟨w.heap.size, 2, none⟩ (.int .i64 (x1 % 16))).setCell ⟨w.heap.size, 3, none⟩ (.int .i64 (x2))).setCell ⟨w.heap.size, 4, none⟩ (.int .i64 (0))).setCell ⟨w.heap.size, 5, none⟩ (.bool false)) := ⟨_, rfl⟩
  rw [← hwf]
  have hBf : Blk wf w.heap.size (.cells #[.int .i64 k, .int .i64 (x1 / 16), .int .i64 (x1 % 16), .int .i64 (x2), .int .i64 (0), .bool false] 61) := by
   rw [hwf]
   exact (((((HR5.out.set 0 _).set 1 _).set 2 _).set 3 _).set 4 _).set 5 _
  have Kf : Keeps w wf := by
   rw [hwf]
   exact Keeps.setCell (Keeps.setCell (Keeps.setCell (Keeps.setCell (Keeps.setCell (Keeps.setCell hkw5 (Nat.le_refl _) _) (Nat.le_refl _) _) (Nat.le_refl _) _) (Nat.le_refl _) _) (Nat.le_refl _) _) (Nat.le_refl _) _
  have a0 := hBf.cell (j := 0) rfl
  have a1 := hBf.cell (j := 1) rfl
  have a2 := hBf.cell (j := 2) rfl
  have a3 := hBf.cell (j := 3) rfl
  have a4 := hBf.cell (j := 4) rfl
  have a5 := hBf.cell (j := 5) rfl
  clear hwf hBf j0 j1 j2 j3 j4 j5 t0 t1 t2 t3 t4 t5 n0 n1 n2 n3 n4 n5
  refine bodyPost_ret (v := .tuple #[.agg #[.int .i64 k, .int .i64 (x1 / 16), .int .i64 (x1 % 16), .int .i64 (x2), .int .i64 (0), .bool false], .int .i64 3, .int .i64 0]) (by simp [results, Tryd.results42, go_sem, a0, a1, a2, a3, a4, a5]) rfl ⟨?_, Kf⟩
  show (if insFault (k : Int) (x1 / 16) (x1 % 16) (x2) (0) false = 0 then _ else _)
  rw [HF.out, if_pos H0.out]
  rfl
 ·have q1 : (F == 0) = false := by simpa using h0
  have q2 : (F != 0) = true := by simpa using h0
  have H0 := Lib.hid h0
  clear h0
  go_wp2_with fail
  obtain ⟨wf, hwf⟩ : ∃ wf : World, wf = ((((((w5.setCell ⟨w.heap.size, 0, none⟩ (.int .i64 0)).setCell ⟨w.heap.size, 1, none⟩ (.int .i64 0)).setCell ⟨w.heap.size, 2, none⟩ (.int .i64 0)).setCell ⟨w.heap.size, 3, none⟩ (.int .i64 0)).setCell ⟨w.heap.size, 4, none⟩ (.int .i64 0)).setCell ⟨w.heap.size, 5, none⟩ (.bool false)) := ⟨_, rfl⟩
  rw [← hwf]
  have hBf : Blk wf w.heap.size (.cells #[.int .i64 0, .int .i64 0, .int .i64 0, .int .i64 0, .int .i64 0, .bool false] 61) := by
   rw [hwf]
   exact (((((HR5.out.set 0 _).set 1 _).set 2 _).set 3 _).set 4 _).set 5 _
  have Kf : Keeps w wf := by
   rw [hwf]
   exact Keeps.setCell (Keeps.setCell (Keeps.setCell (Keeps.setCell (Keeps.setCell (Keeps.setCell hkw5 (Nat.le_refl _) _) (Nat.le_refl _) _) (Nat.le_refl _) _) (Nat.le_refl _) _) (Nat.le_refl _) _) (Nat.le_refl _) _
  have a0 := hBf.cell (j := 0) rfl
  have a1 := hBf.cell (j := 1) rfl
  have a2 := hBf.cell (j := 2) rfl
  have a3 := hBf.cell (j := 3) rfl
  have a4 := hBf.cell (j := 4) rfl
  have a5 := hBf.cell (j := 5) rfl
  clear hwf hBf j0 j1 j2 j3 j4 j5 t0 t1 t2 t3 t4 t5 n0 n1 n2 n3 n4 n5
  refine bodyPost_ret (v := .tuple #[.agg #[.int .i64 0, .int .i64 0, .int .i64 0, .int .i64 0, .int .i64 0, .bool false], .int .i64 0, .int .i64 4]) (by simp [results, Tryd.results42, go_sem, a0, a1, a2, a3, a4, a5]) rfl ⟨?_, Kf⟩
  show (if insFault (k : Int) (x1 / 16) (x1 % 16) (x2) (0) false = 0 then _ else _)
  rw [HF.out, if_neg H0.out]
  rfl
theorem dec_pairB (b off cap len : Nat) (a k : Nat) (h1 : 14 ≤ k) (h2 : k ≤ 14) (x0 x1 x2 : Int) (w : World) (ht : Tab w) (hs : Siz w) (hcap : len ≤ cap) (hmax : cap ≤ 9223372036854775807)
  (ha : a + 3 ≤ len) (y0 : w.cell? ⟨b, off + a, none⟩ = some (.int .u8 x0)) (y1 : w.cell? ⟨b, off + (a + 1), none⟩ = some (.int .u8 x1)) (y2 : w.cell? ⟨b, off + (a + 1) + 1, none⟩ = some (.int .u8 x2)) (l1 : 0 ≤ x1) (u1 : x1 < 256) (l2 : 0 ≤ x2) (u2 : x2 < 256) (hk : kindOf x0 = (k, false)) :
  Calls Tryd.prog 42 #[.slice (some ⟨b, off, none⟩) len cap, .int .i64 a] w (DecGives ⟨k, x1 / 16, x1 % 16, 0, num8 x2, false⟩ 3 w) := by
 have HK := Lib.hid (kind_any x0 _ (ht.keep ((Keeps.refl w).alloc (.cells #[.int .i64 0, .int .i64 0, .int .i64 0, .int .i64 0, .int .i64 0, .bool false] 61))))
 rw [hk] at HK
 have HC := Lib.hid (fun W (hW : Keeps w W) => check_any k (x1 / 16) (x1 % 16) (0) (num8 x2) false W (ht.keep hW))
 obtain ⟨es, hl⟩ := row_pairB k h1 h2
 obtain ⟨c0, c1, c2⟩ := ht k (by omega)
 rw [es] at c2
 have z0 : w.cell? ⟨1, 3, none⟩ = some (.int .i64 3) := hs 3 (by omega)
 generalize opT k = op at *
 generalize longT k = lop at *
 have hbw : b < w.heap.size := lt_of_cell y0
 have hG : 0 < w.heap.size := lt_of_cell c0
 have hG2 : 1 < w.heap.size := lt_of_cell z0
 have hn : decide ((a : Int) < 0) = false := by simp
 clear ht hs hk hl es
 go_enter Tryd.func42, Tryd.ntmps42
 go_wp2_with fail
 refine HK.out.mono ?_
 rintro e w1 ⟨rfl, hk1⟩
 have hz := hk1.size
 rw [sz_alloc] at hz
 have hbw1 : b < w1.heap.size := by omega
 have hG3 : 0 < w1.heap.size := by omega
 have hG4 : 1 < w1.heap.size := by omega
 have hkw : Keeps w w1 := ((Keeps.refl w).alloc _).trans hk1
 have hbR : Blk w1 w.heap.size (.cells #[.int .i64 0, .int .i64 0, .int .i64 0, .int .i64 0, .int .i64 0, .bool false] 61) := blk_up' hk1
 have d0 := hkw.cell c0
 have d1 := hkw.cell c1
 have d2 := hkw.cell c2
 have d3 := hkw.cell z0
 have g0 := hkw.cell y0
 have g1 := hkw.cell y1
 have g2 := hkw.cell y2
 clear c0 c1 c2 z0 y0
 obtain ⟨W3, hW3, hk3, hbr, hbi, hs3⟩ := two_blocks' w1 (.cells #[.int .u8 op, .int .u8 lop, .int .i64 3] 127) (.cells #[.int .i64 k, .int .i64 0, .int .i64 0, .int .i64 0, .int .i64 0, .bool false] 61)
 have HW3 := Lib.hid hW3
 clear hW3
 go_upto_region 19 with fail
 rw [← HW3.out]
 rw [show a + 3 - (a + 1) = 2 by omega]
 have p1 := hk3.cell g1
 have p2 := hk3.cell g2
 have i0 := hbi.cell (j := 0) rfl
 have i1 := hbi.cell (j := 1) rfl
 have i2 := hbi.cell (j := 2) rfl
 have i3 := hbi.cell (j := 3) rfl
 have i4 := hbi.cell (j := 4) rfl
 have i5 := hbi.cell (j := 5) rfl
 have f1 := hbi.thawed 1
 have f2 := hbi.thawed 2
 have f3 := hbi.thawed 3
 have f4 := hbi.thawed 4
 have e2 : W3.cell? ⟨w1.heap.size, 2, none⟩ = some (.int .i64 3) := hbr.cell rfl
 have hbW : b < W3.heap.size := by omega
 have hgi : w1.heap.size ≤ w1.heap.size + 1 := by omega
 have hkw3 := hkw.trans hk3
 have hbR3 := hbR.keep hk3
 have HBI := Lib.hid hbi
 have HBR := Lib.hid hbR3
 have hbi' : b ≠ w1.heap.size + 1 := by omega
 have hri : w.heap.size ≠ w1.heap.size + 1 := by omega
 have hwi : w.heap.size ≤ w1.heap.size + 1 := by omega
 have hgl := hbi.lt
 clear g0 g1 g2 d0 d1 d2 d3 hbR hbR3 hbr hbi hbw1 hG hG2 hG3 hG4 hk1 hk3 hkw HK HW3 hz
 generalize w1.heap.size + 1 = gi at *
 generalize off + (a + 1) = o1 at *
 have hcp : 2 ≤ cap - (a + 1) := by omega
 generalize cap - (a + 1) = cp at *
 have hcp1 : (2 : Int) ≤ (cp : Int) := by omega
 have hcp2 : (1 : Int) < (cp : Int) := by omega
 have hcp3 : ¬ cp = 1 := by omega
 go_region_held3 (fun w' => w'.cell? ⟨b, o1, none⟩ = some (.int .u8 x1) ∧ w'.cell? ⟨b, o1 + 1, none⟩ = some (.int .u8 x2))
  (exact ⟨Keeps.cell (by repeat (with_reducible (first | assumption | exact Keeps.refl _ | refine Keeps.alloc ?_ _ | refine Keeps.drew ?_ | refine Keeps.drewN ?_ _ | refine Keeps.setCell ?_ hwi _))) y1, Keeps.cell (by repeat (with_reducible (first | assumption | exact Keeps.refl _ | refine Keeps.alloc ?_ _ | refine Keeps.drew ?_ | refine Keeps.drewN ?_ _ | refine Keeps.setCell ?_ hwi _))) y2⟩)
  ((go_at_call 69; refine (number_one _ _ _ x2 _ (Keeps.cell (by repeat (with_reducible (first | assumption | exact Keeps.refl _ | refine Keeps.alloc ?_ _ | refine Keeps.drew ?_ | refine Keeps.drewN ?_ _ | refine Keeps.setCell ?_ hwi _))) y2) l2 u2).mono ?_; rintro e w' ⟨rfl, rfl⟩))
 rw [show IntKind.i64.wrap (x1 / 16) = x1 / 16 from IntWalk.i64_in _ (by omega), show IntKind.i64.wrap (bits BinOp.and IntKind.u8 x1 15) = x1 % 16 by rw [and15 x1 l1 u1]; exact IntWalk.i64_in _ (by omega)]
 go_wp2_with fail
 refine (HC.out _ (by repeat (with_reducible (first | assumption | exact Keeps.refl _ | refine Keeps.alloc ?_ _ | refine Keeps.drew ?_ | refine Keeps.drewN ?_ _ | refine Keeps.setCell ?_ hwi _)))).mono ?_
 rintro e w5 ⟨rfl, hk5⟩
 have hB5 : Blk w5 gi (.cells #[.int .i64 k, .int .i64 (x1 / 16), .int .i64 (x1 % 16), .int .i64 (0), .int .i64 (num8 x2), .bool false] 61) := Blk.keep (by exact (((HBI.out).set 1 (.int .i64 (x1 / 16))).set 2 (.int .i64 (x1 % 16))).set 4 (.int .i64 (num8 x2))) hk5
 have hR5 : Blk w5 w.heap.size (.cells #[.int .i64 0, .int .i64 0, .int .i64 0, .int .i64 0, .int .i64 0, .bool false] 61) := Blk.keep (by first | exact Blk.other (Blk.other (Blk.other (HBR.out) hri _ _) hri _ _) hri _ _ | exact Blk.other (Blk.other (Blk.other (Blk.drew HBR.out) hri _ _) hri _ _) hri _ _) hk5
 have hkw5 : Keeps w w5 := Keeps.trans (by repeat (with_reducible (first | assumption | exact Keeps.refl _ | refine Keeps.alloc ?_ _ | refine Keeps.drew ?_ | refine Keeps.drewN ?_ _ | refine Keeps.setCell ?_ hwi _))) hk5
 have j0 := hB5.cell (j := 0) rfl
 have j1 := hB5.cell (j := 1) rfl
 have j2 := hB5.cell (j := 2) rfl
 have j3 := hB5.cell (j := 3) rfl
 have j4 := hB5.cell (j := 4) rfl
 have j5 := hB5.cell (j := 5) rfl
 have t0 := hR5.cell (j := 0) rfl
 have t1 := hR5.cell (j := 1) rfl
 have t2 := hR5.cell (j := 2) rfl
 have t3 := hR5.cell (j := 3) rfl
 have t4 := hR5.cell (j := 4) rfl
 have t5 := hR5.cell (j := 5) rfl
 have n0 := hR5.thawed 0
 have n1 := hR5.thawed 1
 have n2 := hR5.thawed 2
 have n3 := hR5.thawed 3
 have n4 := hR5.thawed 4
 have n5 := hR5.thawed 5
 have HR5 := Lib.hid hR5
 obtain ⟨F, hF⟩ : ∃ F, insFault (k : Int) (x1 / 16) (x1 % 16) (0) (num8 x2) false = F := ⟨_, rfl⟩
 rw [hF]
 have HF := Lib.hid hF
 clear hB5 hR5 hk5 hkw3 HC HBI HBR i0 i1 i2 i3 i4 i5 f1 f2 f3 f4 e2 hF
 by_cases h0 : F = 0
 ·have q1 : (F == 0) = true := by simpa using h0
  have q2 : (F != 0) = false := by simpa using h0
  have H0 := Lib.hid h0
  clear h0
  go_wp2_with fail
  obtain ⟨wf, hwf⟩ : ∃ wf : World, wf = ((((((w5.setCell ⟨w.heap.size, 0, none⟩ (.int .i64 k)).setCell ⟨w.heap.size, 1, none⟩ (.int .i64 (x1 / 16))).setCell ⟨w.heap.size, 2, none⟩ (.int .i64 (x1 % 16))).setCell ⟨w.heap.size, 3, none⟩ (.int .i64 (0))).setCell ⟨w.heap.size, 4, none⟩ (.int .i64 (num8 x2))).setCell ⟨w.heap.size, 5, none⟩ (.bool false)) := ⟨_, rfl⟩
  rw [← hwf]
  have hBf : Blk wf w.heap.size (.cells #[.int .i64 k, .int .i64 (x1 / 16), .int .i64 (x1 % 16), .int .i64 (0), .int .i64 (num8 x2), .bool false] 61) := by
   rw [hwf]
   exact (((((HR5.out.set 0 _).set 1 _).set 2 _).set 3 _).set 4 _).set 5 _
  have Kf : Keeps w wf := by
   rw [hwf]
   exact Keeps.setCell (Keeps.setCell (Keeps.setCell (Keeps.setCell (Keeps.setCell (Keeps.setCell hkw5 (Nat.le_refl _) _) (Nat.le_refl _) _) (Nat.le_refl _) _) (Nat.le_refl _) _) (Nat.le_refl _) _) (Nat.le_refl _) _
  have a0 := hBf.cell (j := 0) rfl
  have a1 := hBf.cell (j := 1) rfl
  have a2 := hBf.cell (j := 2) rfl
  have a3 := hBf.cell (j := 3) rfl
  have a4 := hBf.cell (j := 4) rfl
  have a5 := hBf.cell (j := 5) rfl
  clear hwf hBf j0 j1 j2 j3 j4 j5 t0 t1 t2 t3 t4 t5 n0 n1 n2 n3 n4 n5
  refine bodyPost_ret (v := .tuple #[.agg #[.int .i64 k, .int .i64 (x1 / 16), .int .i64 (x1 % 16), .int .i64 (0), .int .i64 (num8 x2), .bool false], .int .i64 3, .int .i64 0]) (by simp [results, Tryd.results42, go_sem, a0, a1, a2, a3, a4, a5]) rfl ⟨?_, Kf⟩
  show (if insFault (k : Int) (x1 / 16) (x1 % 16) (0) (num8 x2) false = 0 then _ else _)
  rw [HF.out, if_pos H0.out]
  rfl
 ·have q1 : (F == 0) = false := by simpa using h0
  have q2 : (F != 0) = true := by simpa using h0
  have H0 := Lib.hid h0
  clear h0
  go_wp2_with fail
  obtain ⟨wf, hwf⟩ : ∃ wf : World, wf = ((((((w5.setCell ⟨w.heap.size, 0, none⟩ (.int .i64 0)).setCell ⟨w.heap.size, 1, none⟩ (.int .i64 0)).setCell ⟨w.heap.size, 2, none⟩ (.int .i64 0)).setCell ⟨w.heap.size, 3, none⟩ (.int .i64 0)).setCell ⟨w.heap.size, 4, none⟩ (.int .i64 0)).setCell ⟨w.heap.size, 5, none⟩ (.bool false)) := ⟨_, rfl⟩
  rw [← hwf]
  have hBf : Blk wf w.heap.size (.cells #[.int .i64 0, .int .i64 0, .int .i64 0, .int .i64 0, .int .i64 0, .bool false] 61) := by
   rw [hwf]
   exact (((((HR5.out.set 0 _).set 1 _).set 2 _).set 3 _).set 4 _).set 5 _
  have Kf : Keeps w wf := by
   rw [hwf]
   exact Keeps.setCell (Keeps.setCell (Keeps.setCell (Keeps.setCell (Keeps.setCell (Keeps.setCell hkw5 (Nat.le_refl _) _) (Nat.le_refl _) _) (Nat.le_refl _) _) (Nat.le_refl _) _) (Nat.le_refl _) _) (Nat.le_refl _) _
  have a0 := hBf.cell (j := 0) rfl
  have a1 := hBf.cell (j := 1) rfl
  have a2 := hBf.cell (j := 2) rfl
  have a3 := hBf.cell (j := 3) rfl
  have a4 := hBf.cell (j := 4) rfl
  have a5 := hBf.cell (j := 5) rfl
  clear hwf hBf j0 j1 j2 j3 j4 j5 t0 t1 t2 t3 t4 t5 n0 n1 n2 n3 n4 n5
  refine bodyPost_ret (v := .tuple #[.agg #[.int .i64 0, .int .i64 0, .int .i64 0, .int .i64 0, .int .i64 0, .bool false], .int .i64 0, .int .i64 4]) (by simp [results, Tryd.results42, go_sem, a0, a1, a2, a3, a4, a5]) rfl ⟨?_, Kf⟩
  show (if insFault (k : Int) (x1 / 16) (x1 % 16) (0) (num8 x2) false = 0 then _ else _)
  rw [HF.out, if_neg H0.out]
  rfl
end Go.Proofs.YtnekiooaobnndaaDoor
