/-
  isa.Encode, kind by kind: the bytes of an instruction that may be.
-/
import Derived.Test.YtckofmijaiahbaaDoorIsaEnc1
import Derived.Deep.RegionHeld3
import Derived.Deep.DeepCutAuto
namespace Go.Proofs.YtckofmijaiahbaaDoor
open Go.RowKit BH
set_option maxHeartbeats 2000000
set_option maxRecDepth 100000
theorem enc_dest (k : Nat) (h1 : 16 ≤ k) (h2 : k ≤ 16) (D A B N : Int) (w : World) (ht : Tab w) (hF : insFault k D A B N false = 0) :
    Calls Tryd.prog 8 #[insV k D A B N false] w (GivesE (fun v w' => Octs w' v (insBytes k D A B N false)) 0 w) := by
  obtain ⟨-, -, ⟨r1, r2, r3, r4, r5, r6⟩, n1, n2, -⟩ := insFault_zero hF
  have HC := Lib.hid (check_any k D A B N false _ (ht.keep ((Keeps.refl w).alloc (.cells #[.int .i64 k, .int .i64 D, .int .i64 A, .int .i64 B, .int .i64 N, .bool false] 23))))
  rw [hF] at HC
  obtain ⟨hs, hl⟩ := row_dest k h1 h2
  obtain ⟨c0, c1, c2⟩ := ht k (by omega)
  rw [hs] at c2
  have HB := Lib.hid (show insBytes k D A B N false = opT k :: [D] from insBytes_dest k h1 h2 D A B N)
  generalize opT k = op at *
  generalize longT k = lop at *
  have hG : 1 < w.heap.size := lt_of_cell c0
  clear hs ht hF hl
  unfold insV at HC ⊢
  go_enter Tryd.func8, Tryd.ntmps8
  go_wp2_with fail
  refine HC.out.mono ?_
  rintro e w1 ⟨rfl, hk1⟩
  have hz := lt_top hk1
  have hb0 : w1.cell? ⟨w.heap.size, 0, none⟩ = some (.int .i64 k) := hk1.cell (by simp)
  have hb1 : w1.cell? ⟨w.heap.size, 1, none⟩ = some (.int .i64 D) := hk1.cell (by simp)
  have hb2 : w1.cell? ⟨w.heap.size, 2, none⟩ = some (.int .i64 A) := hk1.cell (by simp)
  have hb3 : w1.cell? ⟨w.heap.size, 3, none⟩ = some (.int .i64 B) := hk1.cell (by simp)
  have hb4 : w1.cell? ⟨w.heap.size, 4, none⟩ = some (.int .i64 N) := hk1.cell (by simp)
  have hb5 : w1.cell? ⟨w.heap.size, 5, none⟩ = some (.bool false) := hk1.cell (by simp)
  have d0 : w1.cell? ⟨1, k * 3, none⟩ = some (.int .u8 op) := (((Keeps.refl w).alloc _).trans hk1).cell c0
  have d1 : w1.cell? ⟨1, k * 3 + 1, none⟩ = some (.int .u8 lop) := (((Keeps.refl w).alloc _).trans hk1).cell c1
  have d2 : w1.cell? ⟨1, k * 3 + 2, none⟩ = some (.int .i64 6) := (((Keeps.refl w).alloc _).trans hk1).cell c2
  have hkw : Keeps w w1 := ((Keeps.refl w).alloc _).trans hk1
  clear c0 c1 c2 HC hk1
  obtain ⟨W3, hW3, hk3, hbL, hbO, hs3⟩ := three_blocks w1 (.cells #[.int .u8 op, .int .u8 lop, .int .i64 6] 39) (.cells #[.int .u8 (N % 256)] 5) (.cells #[.int .u8 op] 5)
  have HW := Lib.hid hW3
  clear hW3
  go_upto_region 20 with fail
  rw [← HW.out]
  have hg1 : w1.heap.size ≤ w1.heap.size + 1 + 1 := by omega
  have hg2 : w1.heap.size + 1 < w1.heap.size + 1 + 1 := by omega
  generalize w1.heap.size + 1 + 1 = g at hbO hs3 hg1 hg2 ⊢
  generalize w1.heap.size + 1 = gl at hbL hg2 ⊢
  have HO : Own W3 g 5 1 cu (.slice (some ⟨g, 0, none⟩) 1 1) [op] := Own.of_block (l := [op]) cu_len (Nat.le_refl _) hbO (by simp [maxLen])
  have HL : Blk W3 gl (.cells (([lowB N] : List Int).flatMap cu).toArray 5) := hbL
  have HK := Lib.hid hkw
  have hb3s := hk3.size
  have p1 := hk3.cell hb1
  have p2 := hk3.cell hb2
  have p3 := hk3.cell hb3
  have p4 := hk3.cell hb4
  have hin : w.heap.size < W3.heap.size := by omega
  clear hb0 hb5 d0 d1 d2 hkw hz hG hbL
  go_wp2_with (at_builtin; refine wpList_pushes (by rfl) (.tmp 88) (.tmp 92) 28 (by rfl) Tryd.underlying28 info_u8 (by rfl) (by decide) (base := g) (l := [op]) (by rfl) (by exact HO.keep (by repeat (with_reducible (first | assumption | exact Keeps.refl _ | refine Keeps.alloc ?_ _ | refine Keeps.drew ?_ | refine Keeps.drewN ?_ _ | refine Keeps.trans' ?_ (by assumption) (by assumption))))) [D] _ _ (by rfl) (by exact Blk.top' _ _ (by first | rfl | simp)) cu_len cu_one (by simp) (by simp [maxLen]) (by first | omega | (simp only [sz_alloc]; omega) | (simp only [sz_drew]; omega) | (simp only [sz_alloc, sz_drew]; omega) | (simp only [sz_alloc, sz_drewN]; omega)) ?_; intro v' w' hown hbel hgr hfr; have hle : g ≤ w'.heap.size := Nat.le_trans (by first | omega | (simp only [sz_alloc]; omega) | (simp only [sz_drew]; omega) | (simp only [sz_alloc, sz_drew]; omega) | (simp only [sz_alloc, sz_drewN]; omega)) hbel.size)
  go_wp2
  go_ret2
  refine ⟨v', rfl, ?_, HK.out.trans (by repeat (with_reducible (first | assumption | exact Keeps.refl _ | refine Keeps.alloc ?_ _ | refine Keeps.drew ?_ | refine Keeps.drewN ?_ _ | refine Keeps.trans' ?_ (by assumption) (by assumption))))⟩
  have hown' : Own w' g 5 1 cu v' (op :: [D]) := hown
  rw [HB.out]
  exact own_octs hown'
theorem enc_source (k : Nat) (h1 : 17 ≤ k) (h2 : k ≤ 17) (D A B N : Int) (w : World) (ht : Tab w) (hF : insFault k D A B N false = 0) :
    Calls Tryd.prog 8 #[insV k D A B N false] w (GivesE (fun v w' => Octs w' v (insBytes k D A B N false)) 0 w) := by
  obtain ⟨-, -, ⟨r1, r2, r3, r4, r5, r6⟩, n1, n2, -⟩ := insFault_zero hF
  have HC := Lib.hid (check_any k D A B N false _ (ht.keep ((Keeps.refl w).alloc (.cells #[.int .i64 k, .int .i64 D, .int .i64 A, .int .i64 B, .int .i64 N, .bool false] 23))))
  rw [hF] at HC
  obtain ⟨hs, hl⟩ := row_source k h1 h2
  obtain ⟨c0, c1, c2⟩ := ht k (by omega)
  rw [hs] at c2
  have HB := Lib.hid (show insBytes k D A B N false = opT k :: [A] from insBytes_source k h1 h2 D A B N)
  generalize opT k = op at *
  generalize longT k = lop at *
  have hG : 1 < w.heap.size := lt_of_cell c0
  clear hs ht hF hl
  unfold insV at HC ⊢
  go_enter Tryd.func8, Tryd.ntmps8
  go_wp2_with fail
  refine HC.out.mono ?_
  rintro e w1 ⟨rfl, hk1⟩
  have hz := lt_top hk1
  have hb0 : w1.cell? ⟨w.heap.size, 0, none⟩ = some (.int .i64 k) := hk1.cell (by simp)
  have hb1 : w1.cell? ⟨w.heap.size, 1, none⟩ = some (.int .i64 D) := hk1.cell (by simp)
  have hb2 : w1.cell? ⟨w.heap.size, 2, none⟩ = some (.int .i64 A) := hk1.cell (by simp)
  have hb3 : w1.cell? ⟨w.heap.size, 3, none⟩ = some (.int .i64 B) := hk1.cell (by simp)
  have hb4 : w1.cell? ⟨w.heap.size, 4, none⟩ = some (.int .i64 N) := hk1.cell (by simp)
  have hb5 : w1.cell? ⟨w.heap.size, 5, none⟩ = some (.bool false) := hk1.cell (by simp)
  have d0 : w1.cell? ⟨1, k * 3, none⟩ = some (.int .u8 op) := (((Keeps.refl w).alloc _).trans hk1).cell c0
  have d1 : w1.cell? ⟨1, k * 3 + 1, none⟩ = some (.int .u8 lop) := (((Keeps.refl w).alloc _).trans hk1).cell c1
  have d2 : w1.cell? ⟨1, k * 3 + 2, none⟩ = some (.int .i64 7) := (((Keeps.refl w).alloc _).trans hk1).cell c2
  have hkw : Keeps w w1 := ((Keeps.refl w).alloc _).trans hk1
  clear c0 c1 c2 HC hk1
  obtain ⟨W3, hW3, hk3, hbL, hbO, hs3⟩ := three_blocks w1 (.cells #[.int .u8 op, .int .u8 lop, .int .i64 7] 39) (.cells #[.int .u8 (N % 256)] 5) (.cells #[.int .u8 op] 5)
  have HW := Lib.hid hW3
  clear hW3
  go_upto_region 22 with fail
  rw [← HW.out]
  have hg1 : w1.heap.size ≤ w1.heap.size + 1 + 1 := by omega
  have hg2 : w1.heap.size + 1 < w1.heap.size + 1 + 1 := by omega
  generalize w1.heap.size + 1 + 1 = g at hbO hs3 hg1 hg2 ⊢
  generalize w1.heap.size + 1 = gl at hbL hg2 ⊢
  have HO : Own W3 g 5 1 cu (.slice (some ⟨g, 0, none⟩) 1 1) [op] := Own.of_block (l := [op]) cu_len (Nat.le_refl _) hbO (by simp [maxLen])
  have HL : Blk W3 gl (.cells (([lowB N] : List Int).flatMap cu).toArray 5) := hbL
  have HK := Lib.hid hkw
  have hb3s := hk3.size
  have p1 := hk3.cell hb1
  have p2 := hk3.cell hb2
  have p3 := hk3.cell hb3
  have p4 := hk3.cell hb4
  have hin : w.heap.size < W3.heap.size := by omega
  clear hb0 hb5 d0 d1 d2 hkw hz hG hbL
  go_wp2_with (at_builtin; refine wpList_pushes (by rfl) (.tmp 96) (.tmp 100) 28 (by rfl) Tryd.underlying28 info_u8 (by rfl) (by decide) (base := g) (l := [op]) (by rfl) (by exact HO.keep (by repeat (with_reducible (first | assumption | exact Keeps.refl _ | refine Keeps.alloc ?_ _ | refine Keeps.drew ?_ | refine Keeps.drewN ?_ _ | refine Keeps.trans' ?_ (by assumption) (by assumption))))) [A] _ _ (by rfl) (by exact Blk.top' _ _ (by first | rfl | simp)) cu_len cu_one (by simp) (by simp [maxLen]) (by first | omega | (simp only [sz_alloc]; omega) | (simp only [sz_drew]; omega) | (simp only [sz_alloc, sz_drew]; omega) | (simp only [sz_alloc, sz_drewN]; omega)) ?_; intro v' w' hown hbel hgr hfr; have hle : g ≤ w'.heap.size := Nat.le_trans (by first | omega | (simp only [sz_alloc]; omega) | (simp only [sz_drew]; omega) | (simp only [sz_alloc, sz_drew]; omega) | (simp only [sz_alloc, sz_drewN]; omega)) hbel.size)
  go_wp2
  go_ret2
  refine ⟨v', rfl, ?_, HK.out.trans (by repeat (with_reducible (first | assumption | exact Keeps.refl _ | refine Keeps.alloc ?_ _ | refine Keeps.drew ?_ | refine Keeps.drewN ?_ _ | refine Keeps.trans' ?_ (by assumption) (by assumption))))⟩
  have hown' : Own w' g 5 1 cu v' (op :: [A]) := hown
  rw [HB.out]
  exact own_octs hown'
theorem enc_branchS (k : Nat) (h1 : 18 ≤ k) (h2 : k ≤ 21) (D A B N : Int) (w : World) (ht : Tab w) (hF : insFault k D A B N false = 0) :
    Calls Tryd.prog 8 #[insV k D A B N false] w (GivesE (fun v w' => Octs w' v (insBytes k D A B N false)) 0 w) := by
  obtain ⟨-, -, ⟨r1, r2, r3, r4, r5, r6⟩, n1, n2, -⟩ := insFault_zero hF
  have HC := Lib.hid (check_any k D A B N false _ (ht.keep ((Keeps.refl w).alloc (.cells #[.int .i64 k, .int .i64 D, .int .i64 A, .int .i64 B, .int .i64 N, .bool false] 23))))
  rw [hF] at HC
  obtain ⟨hs, hl⟩ := row_branch k h1 h2
  obtain ⟨c0, c1, c2⟩ := ht k (by omega)
  rw [hs] at c2
  have HB := Lib.hid (show insBytes k D A B N false = opT k :: (A * 16 + B) :: [lowB N] from insBytes_branch k h1 h2 D A B N false)
  generalize opT k = op at *
  generalize longT k = lop at *
  have hG : 1 < w.heap.size := lt_of_cell c0
  clear hs ht hF hl
  unfold insV at HC ⊢
  go_enter Tryd.func8, Tryd.ntmps8
  go_wp2_with fail
  refine HC.out.mono ?_
  rintro e w1 ⟨rfl, hk1⟩
  have hz := lt_top hk1
  have hb0 : w1.cell? ⟨w.heap.size, 0, none⟩ = some (.int .i64 k) := hk1.cell (by simp)
  have hb1 : w1.cell? ⟨w.heap.size, 1, none⟩ = some (.int .i64 D) := hk1.cell (by simp)
  have hb2 : w1.cell? ⟨w.heap.size, 2, none⟩ = some (.int .i64 A) := hk1.cell (by simp)
  have hb3 : w1.cell? ⟨w.heap.size, 3, none⟩ = some (.int .i64 B) := hk1.cell (by simp)
  have hb4 : w1.cell? ⟨w.heap.size, 4, none⟩ = some (.int .i64 N) := hk1.cell (by simp)
  have hb5 : w1.cell? ⟨w.heap.size, 5, none⟩ = some (.bool false) := hk1.cell (by simp)
  have d0 : w1.cell? ⟨1, k * 3, none⟩ = some (.int .u8 op) := (((Keeps.refl w).alloc _).trans hk1).cell c0
  have d1 : w1.cell? ⟨1, k * 3 + 1, none⟩ = some (.int .u8 lop) := (((Keeps.refl w).alloc _).trans hk1).cell c1
  have d2 : w1.cell? ⟨1, k * 3 + 2, none⟩ = some (.int .i64 8) := (((Keeps.refl w).alloc _).trans hk1).cell c2
  have hkw : Keeps w w1 := ((Keeps.refl w).alloc _).trans hk1
  clear c0 c1 c2 HC hk1
  obtain ⟨W3, hW3, hk3, hbL, hbO, hs3⟩ := three_blocks w1 (.cells #[.int .u8 op, .int .u8 lop, .int .i64 8] 39) (.cells #[.int .u8 (N % 256)] 5) (.cells #[.int .u8 op] 5)
  have HW := Lib.hid hW3
  clear hW3
  go_upto_region 24 with fail
  rw [← HW.out]
  have hg1 : w1.heap.size ≤ w1.heap.size + 1 + 1 := by omega
  have hg2 : w1.heap.size + 1 < w1.heap.size + 1 + 1 := by omega
  generalize w1.heap.size + 1 + 1 = g at hbO hs3 hg1 hg2 ⊢
  generalize w1.heap.size + 1 = gl at hbL hg2 ⊢
  have HO : Own W3 g 5 1 cu (.slice (some ⟨g, 0, none⟩) 1 1) [op] := Own.of_block (l := [op]) cu_len (Nat.le_refl _) hbO (by simp [maxLen])
  have HL : Blk W3 gl (.cells (([lowB N] : List Int).flatMap cu).toArray 5) := hbL
  have HK := Lib.hid hkw
  have hb3s := hk3.size
  have p1 := hk3.cell hb1
  have p2 := hk3.cell hb2
  have p3 := hk3.cell hb3
  have p4 := hk3.cell hb4
  have hin : w.heap.size < W3.heap.size := by omega
  clear hb0 hb5 d0 d1 d2 hkw hz hG hbL
  go_wp2_with (first
      | (go_at_call 17; refine (nibbles_any _ _ _ r3 r4 r5 r6).mono ?_; rintro e w' ⟨rfl, rfl⟩)
      | (at_builtin; refine wpList_pushes (by rfl) (.tmp 104) (.tmp 110) 28 (by rfl) Tryd.underlying28 info_u8 (by rfl) (by decide) (base := g) (l := [op]) (by rfl) (by exact HO.keep (by repeat (with_reducible (first | assumption | exact Keeps.refl _ | refine Keeps.alloc ?_ _ | refine Keeps.drew ?_ | refine Keeps.drewN ?_ _ | refine Keeps.trans' ?_ (by assumption) (by assumption))))) [A * 16 + B] _ _ (by rfl) (by exact Blk.top' _ _ (by first | rfl | simp)) cu_len cu_one (by simp) (by simp [maxLen]) (by first | omega | (simp only [sz_alloc]; omega) | (simp only [sz_drew]; omega) | (simp only [sz_alloc, sz_drew]; omega) | (simp only [sz_alloc, sz_drewN]; omega)) ?_; intro v' w' hown hbel hgr hfr; have hle : g ≤ w'.heap.size := Nat.le_trans (by first | omega | (simp only [sz_alloc]; omega) | (simp only [sz_drew]; omega) | (simp only [sz_alloc, sz_drew]; omega) | (simp only [sz_alloc, sz_drewN]; omega)) hbel.size)
      | (at_builtin; refine wpList_pushes (by rfl) (.tmp 111) (.tmp 112) 28 (by rfl) Tryd.underlying28 info_u8 (by rfl) (by decide) (base := g) (l := [op, A * 16 + B]) (by rfl) (by exact hown.keep (by repeat (with_reducible (first | assumption | exact Keeps.refl _ | refine Keeps.alloc ?_ _ | refine Keeps.drew ?_ | refine Keeps.drewN ?_ _ | refine Keeps.trans' ?_ (by assumption) (by assumption))))) [lowB N] _ _ (by rfl) (by exact Blk.below (HL.keep (by repeat (with_reducible (first | assumption | exact Keeps.refl _ | refine Keeps.alloc ?_ _ | refine Keeps.drew ?_ | refine Keeps.drewN ?_ _ | refine Keeps.trans' ?_ (by assumption) (by assumption))))) hbel hg2) cu_len cu_one (by simp) (by simp [maxLen]) (by first | omega | (simp only [sz_alloc]; omega) | (simp only [sz_drew]; omega) | (simp only [sz_alloc, sz_drew]; omega) | (simp only [sz_alloc, sz_drewN]; omega)) ?_; intro v2' w2' hown2 hbel2 hgr2 hfr2; have hle2 : g ≤ w2'.heap.size := Nat.le_trans (by first | omega | (simp only [sz_alloc]; omega) | (simp only [sz_drew]; omega) | (simp only [sz_alloc, sz_drew]; omega) | (simp only [sz_alloc, sz_drewN]; omega)) hbel2.size))
  go_wp2
  go_ret2
  refine ⟨v2', rfl, ?_, HK.out.trans (by repeat (with_reducible (first | assumption | exact Keeps.refl _ | refine Keeps.alloc ?_ _ | refine Keeps.drew ?_ | refine Keeps.drewN ?_ _ | refine Keeps.trans' ?_ (by assumption) (by assumption))))⟩
  have hown' : Own w2' g 5 1 cu v2' (op :: [A * 16 + B, lowB N]) := hown2
  rw [HB.out]
  exact own_octs hown'
theorem enc_branchL (k : Nat) (h1 : 18 ≤ k) (h2 : k ≤ 21) (D A B N : Int) (w : World) (ht : Tab w) (hF : insFault k D A B N true = 0) :
    Calls Tryd.prog 8 #[insV k D A B N true] w (GivesE (fun v w' => Octs w' v (insBytes k D A B N true)) 0 w) := by
  obtain ⟨-, -, ⟨r1, r2, r3, r4, r5, r6⟩, n1, n2, -⟩ := insFault_zero hF
  have HC := Lib.hid (check_any k D A B N true _ (ht.keep ((Keeps.refl w).alloc (.cells #[.int .i64 k, .int .i64 D, .int .i64 A, .int .i64 B, .int .i64 N, .bool true] 23))))
  rw [hF] at HC
  obtain ⟨hs, hl⟩ := row_branch k h1 h2
  obtain ⟨c0, c1, c2⟩ := ht k (by omega)
  rw [hs] at c2
  have HB := Lib.hid (show insBytes k D A B N true = longT k :: (A * 16 + B) :: [lowB N, highB N] from insBytes_branch k h1 h2 D A B N true)
  generalize opT k = op at *
  generalize longT k = lop at *
  have hG : 1 < w.heap.size := lt_of_cell c0
  clear hs ht hF hl
  unfold insV at HC ⊢
  go_enter Tryd.func8, Tryd.ntmps8
  go_wp2_with fail
  refine HC.out.mono ?_
  rintro e w1 ⟨rfl, hk1⟩
  have hz := lt_top hk1
  have hb0 : w1.cell? ⟨w.heap.size, 0, none⟩ = some (.int .i64 k) := hk1.cell (by simp)
  have hb1 : w1.cell? ⟨w.heap.size, 1, none⟩ = some (.int .i64 D) := hk1.cell (by simp)
  have hb2 : w1.cell? ⟨w.heap.size, 2, none⟩ = some (.int .i64 A) := hk1.cell (by simp)
  have hb3 : w1.cell? ⟨w.heap.size, 3, none⟩ = some (.int .i64 B) := hk1.cell (by simp)
  have hb4 : w1.cell? ⟨w.heap.size, 4, none⟩ = some (.int .i64 N) := hk1.cell (by simp)
  have hb5 : w1.cell? ⟨w.heap.size, 5, none⟩ = some (.bool true) := hk1.cell (by simp)
  have d0 : w1.cell? ⟨1, k * 3, none⟩ = some (.int .u8 op) := (((Keeps.refl w).alloc _).trans hk1).cell c0
  have d1 : w1.cell? ⟨1, k * 3 + 1, none⟩ = some (.int .u8 lop) := (((Keeps.refl w).alloc _).trans hk1).cell c1
  have d2 : w1.cell? ⟨1, k * 3 + 2, none⟩ = some (.int .i64 8) := (((Keeps.refl w).alloc _).trans hk1).cell c2
  have hkw : Keeps w w1 := ((Keeps.refl w).alloc _).trans hk1
  clear c0 c1 c2 HC hk1
  obtain ⟨W2, hW2, hk2, hbR, hs2⟩ := two_blocks w1 (.cells #[.int .u8 op, .int .u8 lop, .int .i64 8] 39) (.cells #[.int .u8 (N % 256)] 5)
  have HW2 := Lib.hid hW2
  clear hW2
  go_upto_region 8 with fail
  rw [← HW2.out]
  have e1 : W2.cell? ⟨w1.heap.size, 1, none⟩ = some (.int .u8 lop) := hbR.cell rfl
  have e2 : W2.cell? ⟨w1.heap.size, 2, none⟩ = some (.int .i64 8) := hbR.cell rfl
  have q1 := hk2.cell hb1
  have q2 := hk2.cell hb2
  have q3 := hk2.cell hb3
  have q4 := hk2.cell hb4
  have HK := Lib.hid (hkw.trans hk2)
  have hs4 : w1.heap.size < W2.heap.size := by omega
  have hs5 : w.heap.size < W2.heap.size := by omega
  generalize w1.heap.size = gr at e1 e2 hbR hs2 hs4 ⊢
  clear hb0 hb1 hb2 hb3 hb4 hb5 d0 d1 d2 hkw hbR hk2
  go_region_held3 (fun w' => w'.cell? ⟨w.heap.size, 4, none⟩ = some (.int .i64 N) ∧ w'.cell? ⟨gr, 1, none⟩ = some (.int .u8 lop))
    (exact ⟨Keeps.cell (by repeat (with_reducible (first | assumption | exact Keeps.refl _ | refine Keeps.alloc ?_ _ | refine Keeps.drew ?_ | refine Keeps.drewN ?_ _ | refine Keeps.trans' ?_ (by assumption) (by assumption)))) q4, Keeps.cell (by repeat (with_reducible (first | assumption | exact Keeps.refl _ | refine Keeps.alloc ?_ _ | refine Keeps.drew ?_ | refine Keeps.drewN ?_ _ | refine Keeps.trans' ?_ (by assumption) (by assumption)))) e1⟩)
    ((go_at_call 16; refine (two_any _ _).mono ?_; rintro e w' ⟨rfl, rfl⟩))
  obtain ⟨W3, hW3, hk3, hbL, hbO, hs3⟩ := two_drawn W2 (.cells #[.int .u8 (lowB N), .int .u8 (highB N)] 5) (.cells #[.int .u8 lop] 5)
  have HW3 := Lib.hid hW3
  clear hW3
  go_upto_region 24 with fail
  rw [← HW3.out]
  have hg1 : W2.heap.size ≤ W2.heap.size + 1 := by omega
  have hg2 : W2.heap.size < W2.heap.size + 1 := by omega
  generalize W2.heap.size + 1 = g at hbO hs3 hg1 hg2 ⊢
  have HO : Own W3 g 5 1 cu (.slice (some ⟨g, 0, none⟩) 1 1) [lop] := Own.of_block (l := [lop]) cu_len (Nat.le_refl _) hbO (by simp [maxLen])
  have HL : Blk W3 W2.heap.size (.cells (([lowB N, highB N] : List Int).flatMap cu).toArray 5) := hbL
  have hb1 := q1
  have hb2 := q2
  have hb3 := q3
  have hb4 := q4
  have p1 := hk3.cell hb1
  have p2 := hk3.cell hb2
  have p3 := hk3.cell hb3
  have p4 := hk3.cell hb4
  have hin : w.heap.size < W3.heap.size := by omega
  clear q1 q2 q3 q4 e1 e2 hbL
  go_wp2_with (first
      | (go_at_call 17; refine (nibbles_any _ _ _ r3 r4 r5 r6).mono ?_; rintro e w' ⟨rfl, rfl⟩)
      | (at_builtin; refine wpList_pushes (by rfl) (.tmp 104) (.tmp 110) 28 (by rfl) Tryd.underlying28 info_u8 (by rfl) (by decide) (base := g) (l := [lop]) (by rfl) (by exact HO.keep (by repeat (with_reducible (first | assumption | exact Keeps.refl _ | refine Keeps.alloc ?_ _ | refine Keeps.drew ?_ | refine Keeps.drewN ?_ _ | refine Keeps.trans' ?_ (by assumption) (by assumption))))) [A * 16 + B] _ _ (by rfl) (by exact Blk.top' _ _ (by first | rfl | simp)) cu_len cu_one (by simp) (by simp [maxLen]) (by first | omega | (simp only [sz_alloc]; omega) | (simp only [sz_drew]; omega) | (simp only [sz_alloc, sz_drew]; omega) | (simp only [sz_alloc, sz_drewN]; omega)) ?_; intro v' w' hown hbel hgr hfr; have hle : g ≤ w'.heap.size := Nat.le_trans (by first | omega | (simp only [sz_alloc]; omega) | (simp only [sz_drew]; omega) | (simp only [sz_alloc, sz_drew]; omega) | (simp only [sz_alloc, sz_drewN]; omega)) hbel.size)
      | (at_builtin; refine wpList_pushes (by rfl) (.tmp 111) (.tmp 112) 28 (by rfl) Tryd.underlying28 info_u8 (by rfl) (by decide) (base := g) (l := [lop, A * 16 + B]) (by rfl) (by exact hown.keep (by repeat (with_reducible (first | assumption | exact Keeps.refl _ | refine Keeps.alloc ?_ _ | refine Keeps.drew ?_ | refine Keeps.drewN ?_ _ | refine Keeps.trans' ?_ (by assumption) (by assumption))))) [lowB N, highB N] _ _ (by rfl) (by exact Blk.below (HL.keep (by repeat (with_reducible (first | assumption | exact Keeps.refl _ | refine Keeps.alloc ?_ _ | refine Keeps.drew ?_ | refine Keeps.drewN ?_ _ | refine Keeps.trans' ?_ (by assumption) (by assumption))))) hbel hg2) cu_len cu_one (by simp) (by simp [maxLen]) (by first | omega | (simp only [sz_alloc]; omega) | (simp only [sz_drew]; omega) | (simp only [sz_alloc, sz_drew]; omega) | (simp only [sz_alloc, sz_drewN]; omega)) ?_; intro v2' w2' hown2 hbel2 hgr2 hfr2; have hle2 : g ≤ w2'.heap.size := Nat.le_trans (by first | omega | (simp only [sz_alloc]; omega) | (simp only [sz_drew]; omega) | (simp only [sz_alloc, sz_drew]; omega) | (simp only [sz_alloc, sz_drewN]; omega)) hbel2.size))
  go_wp2
  go_ret2
  refine ⟨v2', rfl, ?_, HK.out.trans (by repeat (with_reducible (first | assumption | exact Keeps.refl _ | refine Keeps.alloc ?_ _ | refine Keeps.drew ?_ | refine Keeps.drewN ?_ _ | refine Keeps.trans' ?_ (by assumption) (by assumption))))⟩
  have hown' : Own w2' g 5 1 cu v2' (lop :: [A * 16 + B, lowB N, highB N]) := hown2
  rw [HB.out]
  exact own_octs hown'
theorem enc_jumpS (k : Nat) (h1 : 22 ≤ k) (h2 : k ≤ 22) (D A B N : Int) (w : World) (ht : Tab w) (hF : insFault k D A B N false = 0) :
    Calls Tryd.prog 8 #[insV k D A B N false] w (GivesE (fun v w' => Octs w' v (insBytes k D A B N false)) 0 w) := by
  obtain ⟨-, -, ⟨r1, r2, r3, r4, r5, r6⟩, n1, n2, -⟩ := insFault_zero hF
  have HC := Lib.hid (check_any k D A B N false _ (ht.keep ((Keeps.refl w).alloc (.cells #[.int .i64 k, .int .i64 D, .int .i64 A, .int .i64 B, .int .i64 N, .bool false] 23))))
  rw [hF] at HC
  obtain ⟨hs, hl⟩ := row_jump k h1 h2
  obtain ⟨c0, c1, c2⟩ := ht k (by omega)
  rw [hs] at c2
  have HB := Lib.hid (show insBytes k D A B N false = opT k :: [lowB N] from insBytes_jump k h1 h2 D A B N false)
  generalize opT k = op at *
  generalize longT k = lop at *
  have hG : 1 < w.heap.size := lt_of_cell c0
  clear hs ht hF hl
  unfold insV at HC ⊢
  go_enter Tryd.func8, Tryd.ntmps8
  go_wp2_with fail
  refine HC.out.mono ?_
  rintro e w1 ⟨rfl, hk1⟩
  have hz := lt_top hk1
  have hb0 : w1.cell? ⟨w.heap.size, 0, none⟩ = some (.int .i64 k) := hk1.cell (by simp)
  have hb1 : w1.cell? ⟨w.heap.size, 1, none⟩ = some (.int .i64 D) := hk1.cell (by simp)
  have hb2 : w1.cell? ⟨w.heap.size, 2, none⟩ = some (.int .i64 A) := hk1.cell (by simp)
  have hb3 : w1.cell? ⟨w.heap.size, 3, none⟩ = some (.int .i64 B) := hk1.cell (by simp)
  have hb4 : w1.cell? ⟨w.heap.size, 4, none⟩ = some (.int .i64 N) := hk1.cell (by simp)
  have hb5 : w1.cell? ⟨w.heap.size, 5, none⟩ = some (.bool false) := hk1.cell (by simp)
  have d0 : w1.cell? ⟨1, k * 3, none⟩ = some (.int .u8 op) := (((Keeps.refl w).alloc _).trans hk1).cell c0
  have d1 : w1.cell? ⟨1, k * 3 + 1, none⟩ = some (.int .u8 lop) := (((Keeps.refl w).alloc _).trans hk1).cell c1
  have d2 : w1.cell? ⟨1, k * 3 + 2, none⟩ = some (.int .i64 9) := (((Keeps.refl w).alloc _).trans hk1).cell c2
  have hkw : Keeps w w1 := ((Keeps.refl w).alloc _).trans hk1
  clear c0 c1 c2 HC hk1
  obtain ⟨W3, hW3, hk3, hbL, hbO, hs3⟩ := three_blocks w1 (.cells #[.int .u8 op, .int .u8 lop, .int .i64 9] 39) (.cells #[.int .u8 (N % 256)] 5) (.cells #[.int .u8 op] 5)
  have HW := Lib.hid hW3
  clear hW3
  go_upto_region 26 with fail
  rw [← HW.out]
  have hg1 : w1.heap.size ≤ w1.heap.size + 1 + 1 := by omega
  have hg2 : w1.heap.size + 1 < w1.heap.size + 1 + 1 := by omega
  generalize w1.heap.size + 1 + 1 = g at hbO hs3 hg1 hg2 ⊢
  generalize w1.heap.size + 1 = gl at hbL hg2 ⊢
  have HO : Own W3 g 5 1 cu (.slice (some ⟨g, 0, none⟩) 1 1) [op] := Own.of_block (l := [op]) cu_len (Nat.le_refl _) hbO (by simp [maxLen])
  have HL : Blk W3 gl (.cells (([lowB N] : List Int).flatMap cu).toArray 5) := hbL
  have HK := Lib.hid hkw
  have hb3s := hk3.size
  have p1 := hk3.cell hb1
  have p2 := hk3.cell hb2
  have p3 := hk3.cell hb3
  have p4 := hk3.cell hb4
  have hin : w.heap.size < W3.heap.size := by omega
  clear hb0 hb5 d0 d1 d2 hkw hz hG hbL
  go_wp2_with (at_builtin; refine wpList_pushes (by rfl) (.tmp 116) (.tmp 117) 28 (by rfl) Tryd.underlying28 info_u8 (by rfl) (by decide) (base := g) (l := [op]) (by rfl) (by exact HO.keep (by repeat (with_reducible (first | assumption | exact Keeps.refl _ | refine Keeps.alloc ?_ _ | refine Keeps.drew ?_ | refine Keeps.drewN ?_ _ | refine Keeps.trans' ?_ (by assumption) (by assumption))))) [lowB N] _ _ (by rfl) (by exact HL.keep (by repeat (with_reducible (first | assumption | exact Keeps.refl _ | refine Keeps.alloc ?_ _ | refine Keeps.drew ?_ | refine Keeps.drewN ?_ _ | refine Keeps.trans' ?_ (by assumption) (by assumption))))) cu_len cu_one (by simp) (by simp [maxLen]) (by first | omega | (simp only [sz_alloc]; omega) | (simp only [sz_drew]; omega) | (simp only [sz_alloc, sz_drew]; omega) | (simp only [sz_alloc, sz_drewN]; omega)) ?_; intro v' w' hown hbel hgr hfr; have hle : g ≤ w'.heap.size := Nat.le_trans (by first | omega | (simp only [sz_alloc]; omega) | (simp only [sz_drew]; omega) | (simp only [sz_alloc, sz_drew]; omega) | (simp only [sz_alloc, sz_drewN]; omega)) hbel.size)
  go_wp2
  go_ret2
  refine ⟨v', rfl, ?_, HK.out.trans (by repeat (with_reducible (first | assumption | exact Keeps.refl _ | refine Keeps.alloc ?_ _ | refine Keeps.drew ?_ | refine Keeps.drewN ?_ _ | refine Keeps.trans' ?_ (by assumption) (by assumption))))⟩
  have hown' : Own w' g 5 1 cu v' (op :: [lowB N]) := hown
  rw [HB.out]
  exact own_octs hown'
theorem enc_jumpL (k : Nat) (h1 : 22 ≤ k) (h2 : k ≤ 22) (D A B N : Int) (w : World) (ht : Tab w) (hF : insFault k D A B N true = 0) :
    Calls Tryd.prog 8 #[insV k D A B N true] w (GivesE (fun v w' => Octs w' v (insBytes k D A B N true)) 0 w) := by
  obtain ⟨-, -, ⟨r1, r2, r3, r4, r5, r6⟩, n1, n2, -⟩ := insFault_zero hF
  have HC := Lib.hid (check_any k D A B N true _ (ht.keep ((Keeps.refl w).alloc (.cells #[.int .i64 k, .int .i64 D, .int .i64 A, .int .i64 B, .int .i64 N, .bool true] 23))))
  rw [hF] at HC
  obtain ⟨hs, hl⟩ := row_jump k h1 h2
  obtain ⟨c0, c1, c2⟩ := ht k (by omega)
  rw [hs] at c2
  have HB := Lib.hid (show insBytes k D A B N true = longT k :: [lowB N, highB N] from insBytes_jump k h1 h2 D A B N true)
  generalize opT k = op at *
  generalize longT k = lop at *
  have hG : 1 < w.heap.size := lt_of_cell c0
  clear hs ht hF hl
  unfold insV at HC ⊢
  go_enter Tryd.func8, Tryd.ntmps8
  go_wp2_with fail
  refine HC.out.mono ?_
  rintro e w1 ⟨rfl, hk1⟩
  have hz := lt_top hk1
  have hb0 : w1.cell? ⟨w.heap.size, 0, none⟩ = some (.int .i64 k) := hk1.cell (by simp)
  have hb1 : w1.cell? ⟨w.heap.size, 1, none⟩ = some (.int .i64 D) := hk1.cell (by simp)
  have hb2 : w1.cell? ⟨w.heap.size, 2, none⟩ = some (.int .i64 A) := hk1.cell (by simp)
  have hb3 : w1.cell? ⟨w.heap.size, 3, none⟩ = some (.int .i64 B) := hk1.cell (by simp)
  have hb4 : w1.cell? ⟨w.heap.size, 4, none⟩ = some (.int .i64 N) := hk1.cell (by simp)
  have hb5 : w1.cell? ⟨w.heap.size, 5, none⟩ = some (.bool true) := hk1.cell (by simp)
  have d0 : w1.cell? ⟨1, k * 3, none⟩ = some (.int .u8 op) := (((Keeps.refl w).alloc _).trans hk1).cell c0
  have d1 : w1.cell? ⟨1, k * 3 + 1, none⟩ = some (.int .u8 lop) := (((Keeps.refl w).alloc _).trans hk1).cell c1
  have d2 : w1.cell? ⟨1, k * 3 + 2, none⟩ = some (.int .i64 9) := (((Keeps.refl w).alloc _).trans hk1).cell c2
  have hkw : Keeps w w1 := ((Keeps.refl w).alloc _).trans hk1
  clear c0 c1 c2 HC hk1
  obtain ⟨W2, hW2, hk2, hbR, hs2⟩ := two_blocks w1 (.cells #[.int .u8 op, .int .u8 lop, .int .i64 9] 39) (.cells #[.int .u8 (N % 256)] 5)
  have HW2 := Lib.hid hW2
  clear hW2
  go_upto_region 8 with fail
  rw [← HW2.out]
  have e1 : W2.cell? ⟨w1.heap.size, 1, none⟩ = some (.int .u8 lop) := hbR.cell rfl
  have e2 : W2.cell? ⟨w1.heap.size, 2, none⟩ = some (.int .i64 9) := hbR.cell rfl
  have q1 := hk2.cell hb1
  have q2 := hk2.cell hb2
  have q3 := hk2.cell hb3
  have q4 := hk2.cell hb4
  have HK := Lib.hid (hkw.trans hk2)
  have hs4 : w1.heap.size < W2.heap.size := by omega
  have hs5 : w.heap.size < W2.heap.size := by omega
  generalize w1.heap.size = gr at e1 e2 hbR hs2 hs4 ⊢
  clear hb0 hb1 hb2 hb3 hb4 hb5 d0 d1 d2 hkw hbR hk2
  go_region_held3 (fun w' => w'.cell? ⟨w.heap.size, 4, none⟩ = some (.int .i64 N) ∧ w'.cell? ⟨gr, 1, none⟩ = some (.int .u8 lop))
    (exact ⟨Keeps.cell (by repeat (with_reducible (first | assumption | exact Keeps.refl _ | refine Keeps.alloc ?_ _ | refine Keeps.drew ?_ | refine Keeps.drewN ?_ _ | refine Keeps.trans' ?_ (by assumption) (by assumption)))) q4, Keeps.cell (by repeat (with_reducible (first | assumption | exact Keeps.refl _ | refine Keeps.alloc ?_ _ | refine Keeps.drew ?_ | refine Keeps.drewN ?_ _ | refine Keeps.trans' ?_ (by assumption) (by assumption)))) e1⟩)
    ((go_at_call 16; refine (two_any _ _).mono ?_; rintro e w' ⟨rfl, rfl⟩))
  obtain ⟨W3, hW3, hk3, hbL, hbO, hs3⟩ := two_drawn W2 (.cells #[.int .u8 (lowB N), .int .u8 (highB N)] 5) (.cells #[.int .u8 lop] 5)
  have HW3 := Lib.hid hW3
  clear hW3
  go_upto_region 26 with fail
  rw [← HW3.out]
  have hg1 : W2.heap.size ≤ W2.heap.size + 1 := by omega
  have hg2 : W2.heap.size < W2.heap.size + 1 := by omega
  generalize W2.heap.size + 1 = g at hbO hs3 hg1 hg2 ⊢
  have HO : Own W3 g 5 1 cu (.slice (some ⟨g, 0, none⟩) 1 1) [lop] := Own.of_block (l := [lop]) cu_len (Nat.le_refl _) hbO (by simp [maxLen])
  have HL : Blk W3 W2.heap.size (.cells (([lowB N, highB N] : List Int).flatMap cu).toArray 5) := hbL
  have hb1 := q1
  have hb2 := q2
  have hb3 := q3
  have hb4 := q4
  have p1 := hk3.cell hb1
  have p2 := hk3.cell hb2
  have p3 := hk3.cell hb3
  have p4 := hk3.cell hb4
  have hin : w.heap.size < W3.heap.size := by omega
  clear q1 q2 q3 q4 e1 e2 hbL
  go_wp2_with (at_builtin; refine wpList_pushes (by rfl) (.tmp 116) (.tmp 117) 28 (by rfl) Tryd.underlying28 info_u8 (by rfl) (by decide) (base := g) (l := [lop]) (by rfl) (by exact HO.keep (by repeat (with_reducible (first | assumption | exact Keeps.refl _ | refine Keeps.alloc ?_ _ | refine Keeps.drew ?_ | refine Keeps.drewN ?_ _ | refine Keeps.trans' ?_ (by assumption) (by assumption))))) [lowB N, highB N] _ _ (by rfl) (by exact HL.keep (by repeat (with_reducible (first | assumption | exact Keeps.refl _ | refine Keeps.alloc ?_ _ | refine Keeps.drew ?_ | refine Keeps.drewN ?_ _ | refine Keeps.trans' ?_ (by assumption) (by assumption))))) cu_len cu_one (by simp) (by simp [maxLen]) (by first | omega | (simp only [sz_alloc]; omega) | (simp only [sz_drew]; omega) | (simp only [sz_alloc, sz_drew]; omega) | (simp only [sz_alloc, sz_drewN]; omega)) ?_; intro v' w' hown hbel hgr hfr; have hle : g ≤ w'.heap.size := Nat.le_trans (by first | omega | (simp only [sz_alloc]; omega) | (simp only [sz_drew]; omega) | (simp only [sz_alloc, sz_drew]; omega) | (simp only [sz_alloc, sz_drewN]; omega)) hbel.size)
  go_wp2
  go_ret2
  refine ⟨v', rfl, ?_, HK.out.trans (by repeat (with_reducible (first | assumption | exact Keeps.refl _ | refine Keeps.alloc ?_ _ | refine Keeps.drew ?_ | refine Keeps.drewN ?_ _ | refine Keeps.trans' ?_ (by assumption) (by assumption))))⟩
  have hown' : Own w' g 5 1 cu v' (lop :: [lowB N, highB N]) := hown
  rw [HB.out]
  exact own_octs hown'
theorem enc_call (k : Nat) (h1 : 23 ≤ k) (h2 : k ≤ 23) (D A B N : Int) (w : World) (ht : Tab w) (hF : insFault k D A B N false = 0) :
    Calls Tryd.prog 8 #[insV k D A B N false] w (GivesE (fun v w' => Octs w' v (insBytes k D A B N false)) 0 w) := by
  obtain ⟨-, -, ⟨r1, r2, r3, r4, r5, r6⟩, n1, n2, -⟩ := insFault_zero hF
  have HC := Lib.hid (check_any k D A B N false _ (ht.keep ((Keeps.refl w).alloc (.cells #[.int .i64 k, .int .i64 D, .int .i64 A, .int .i64 B, .int .i64 N, .bool false] 23))))
  rw [hF] at HC
  obtain ⟨hs, hl⟩ := row_call k h1 h2
  obtain ⟨c0, c1, c2⟩ := ht k (by omega)
  rw [hs] at c2
  have HB := Lib.hid (show insBytes k D A B N false = opT k :: [lowB N, highB N] from insBytes_call k h1 h2 D A B N)
  generalize opT k = op at *
  generalize longT k = lop at *
  have hG : 1 < w.heap.size := lt_of_cell c0
  clear hs ht hF hl
  unfold insV at HC ⊢
  go_enter Tryd.func8, Tryd.ntmps8
  go_wp2_with fail
  refine HC.out.mono ?_
  rintro e w1 ⟨rfl, hk1⟩
  have hz := lt_top hk1
  have hb0 : w1.cell? ⟨w.heap.size, 0, none⟩ = some (.int .i64 k) := hk1.cell (by simp)
  have hb1 : w1.cell? ⟨w.heap.size, 1, none⟩ = some (.int .i64 D) := hk1.cell (by simp)
  have hb2 : w1.cell? ⟨w.heap.size, 2, none⟩ = some (.int .i64 A) := hk1.cell (by simp)
  have hb3 : w1.cell? ⟨w.heap.size, 3, none⟩ = some (.int .i64 B) := hk1.cell (by simp)
  have hb4 : w1.cell? ⟨w.heap.size, 4, none⟩ = some (.int .i64 N) := hk1.cell (by simp)
  have hb5 : w1.cell? ⟨w.heap.size, 5, none⟩ = some (.bool false) := hk1.cell (by simp)
  have d0 : w1.cell? ⟨1, k * 3, none⟩ = some (.int .u8 op) := (((Keeps.refl w).alloc _).trans hk1).cell c0
  have d1 : w1.cell? ⟨1, k * 3 + 1, none⟩ = some (.int .u8 lop) := (((Keeps.refl w).alloc _).trans hk1).cell c1
  have d2 : w1.cell? ⟨1, k * 3 + 2, none⟩ = some (.int .i64 10) := (((Keeps.refl w).alloc _).trans hk1).cell c2
  have hkw : Keeps w w1 := ((Keeps.refl w).alloc _).trans hk1
  clear c0 c1 c2 HC hk1
  obtain ⟨W3, hW3, hk3, hbL, hbO, hs3⟩ := three_blocks w1 (.cells #[.int .u8 op, .int .u8 lop, .int .i64 10] 39) (.cells #[.int .u8 (N % 256)] 5) (.cells #[.int .u8 op] 5)
  have HW := Lib.hid hW3
  clear hW3
  go_upto_region 28 with fail
  rw [← HW.out]
  have hg1 : w1.heap.size ≤ w1.heap.size + 1 + 1 := by omega
  have hg2 : w1.heap.size + 1 < w1.heap.size + 1 + 1 := by omega
  generalize w1.heap.size + 1 + 1 = g at hbO hs3 hg1 hg2 ⊢
  generalize w1.heap.size + 1 = gl at hbL hg2 ⊢
  have HO : Own W3 g 5 1 cu (.slice (some ⟨g, 0, none⟩) 1 1) [op] := Own.of_block (l := [op]) cu_len (Nat.le_refl _) hbO (by simp [maxLen])
  have HL : Blk W3 gl (.cells (([lowB N] : List Int).flatMap cu).toArray 5) := hbL
  have HK := Lib.hid hkw
  have hb3s := hk3.size
  have p1 := hk3.cell hb1
  have p2 := hk3.cell hb2
  have p3 := hk3.cell hb3
  have p4 := hk3.cell hb4
  have hin : w.heap.size < W3.heap.size := by omega
  clear hb0 hb5 d0 d1 d2 hkw hz hG hbL
  go_wp2_with (first
      | (go_at_call 16; refine (two_any _ _).mono ?_; rintro e w' ⟨rfl, rfl⟩)
      | (at_builtin; refine wpList_pushes (by rfl) (.tmp 121) (.tmp 124) 28 (by rfl) Tryd.underlying28 info_u8 (by rfl) (by decide) (base := g) (l := [op]) (by rfl) (by exact HO.keep (by repeat (with_reducible (first | assumption | exact Keeps.refl _ | refine Keeps.alloc ?_ _ | refine Keeps.drew ?_ | refine Keeps.drewN ?_ _ | refine Keeps.trans' ?_ (by assumption) (by assumption))))) [lowB N, highB N] _ _ (by rfl) (by exact Blk.top' _ _ (by first | rfl | simp)) cu_len cu_one (by simp) (by simp [maxLen]) (by first | omega | (simp only [sz_alloc]; omega) | (simp only [sz_drew]; omega) | (simp only [sz_alloc, sz_drew]; omega) | (simp only [sz_alloc, sz_drewN]; omega)) ?_; intro v' w' hown hbel hgr hfr; have hle : g ≤ w'.heap.size := Nat.le_trans (by first | omega | (simp only [sz_alloc]; omega) | (simp only [sz_drew]; omega) | (simp only [sz_alloc, sz_drew]; omega) | (simp only [sz_alloc, sz_drewN]; omega)) hbel.size))
  go_wp2
  go_ret2
  refine ⟨v', rfl, ?_, HK.out.trans (by repeat (with_reducible (first | assumption | exact Keeps.refl _ | refine Keeps.alloc ?_ _ | refine Keeps.drew ?_ | refine Keeps.drewN ?_ _ | refine Keeps.trans' ?_ (by assumption) (by assumption))))⟩
  have hown' : Own w' g 5 1 cu v' (op :: [lowB N, highB N]) := hown
  rw [HB.out]
  exact own_octs hown'
theorem enc_table (k : Nat) (h1 : 24 ≤ k) (h2 : k ≤ 24) (D A B N : Int) (w : World) (ht : Tab w) (hF : insFault k D A B N false = 0) :
    Calls Tryd.prog 8 #[insV k D A B N false] w (GivesE (fun v w' => Octs w' v (insBytes k D A B N false)) 0 w) := by
  obtain ⟨-, -, ⟨r1, r2, r3, r4, r5, r6⟩, n1, n2, -⟩ := insFault_zero hF
  have HC := Lib.hid (check_any k D A B N false _ (ht.keep ((Keeps.refl w).alloc (.cells #[.int .i64 k, .int .i64 D, .int .i64 A, .int .i64 B, .int .i64 N, .bool false] 23))))
  rw [hF] at HC
  obtain ⟨hs, hl⟩ := row_table k h1 h2
  obtain ⟨c0, c1, c2⟩ := ht k (by omega)
  rw [hs] at c2
  have HB := Lib.hid (show insBytes k D A B N false = opT k :: [A, lowB N] from insBytes_table k h1 h2 D A B N)
  generalize opT k = op at *
  generalize longT k = lop at *
  have hG : 1 < w.heap.size := lt_of_cell c0
  clear hs ht hF hl
  unfold insV at HC ⊢
  go_enter Tryd.func8, Tryd.ntmps8
  go_wp2_with fail
  refine HC.out.mono ?_
  rintro e w1 ⟨rfl, hk1⟩
  have hz := lt_top hk1
  have hb0 : w1.cell? ⟨w.heap.size, 0, none⟩ = some (.int .i64 k) := hk1.cell (by simp)
  have hb1 : w1.cell? ⟨w.heap.size, 1, none⟩ = some (.int .i64 D) := hk1.cell (by simp)
  have hb2 : w1.cell? ⟨w.heap.size, 2, none⟩ = some (.int .i64 A) := hk1.cell (by simp)
  have hb3 : w1.cell? ⟨w.heap.size, 3, none⟩ = some (.int .i64 B) := hk1.cell (by simp)
  have hb4 : w1.cell? ⟨w.heap.size, 4, none⟩ = some (.int .i64 N) := hk1.cell (by simp)
  have hb5 : w1.cell? ⟨w.heap.size, 5, none⟩ = some (.bool false) := hk1.cell (by simp)
  have d0 : w1.cell? ⟨1, k * 3, none⟩ = some (.int .u8 op) := (((Keeps.refl w).alloc _).trans hk1).cell c0
  have d1 : w1.cell? ⟨1, k * 3 + 1, none⟩ = some (.int .u8 lop) := (((Keeps.refl w).alloc _).trans hk1).cell c1
  have d2 : w1.cell? ⟨1, k * 3 + 2, none⟩ = some (.int .i64 11) := (((Keeps.refl w).alloc _).trans hk1).cell c2
  have hkw : Keeps w w1 := ((Keeps.refl w).alloc _).trans hk1
  clear c0 c1 c2 HC hk1
  obtain ⟨W3, hW3, hk3, hbL, hbO, hs3⟩ := three_blocks w1 (.cells #[.int .u8 op, .int .u8 lop, .int .i64 11] 39) (.cells #[.int .u8 (N % 256)] 5) (.cells #[.int .u8 op] 5)
  have HW := Lib.hid hW3
  clear hW3
  go_upto_region 30 with fail
  rw [← HW.out]
  have hg1 : w1.heap.size ≤ w1.heap.size + 1 + 1 := by omega
  have hg2 : w1.heap.size + 1 < w1.heap.size + 1 + 1 := by omega
  generalize w1.heap.size + 1 + 1 = g at hbO hs3 hg1 hg2 ⊢
  generalize w1.heap.size + 1 = gl at hbL hg2 ⊢
  have HO : Own W3 g 5 1 cu (.slice (some ⟨g, 0, none⟩) 1 1) [op] := Own.of_block (l := [op]) cu_len (Nat.le_refl _) hbO (by simp [maxLen])
  have HL : Blk W3 gl (.cells (([lowB N] : List Int).flatMap cu).toArray 5) := hbL
  have HK := Lib.hid hkw
  have hb3s := hk3.size
  have p1 := hk3.cell hb1
  have p2 := hk3.cell hb2
  have p3 := hk3.cell hb3
  have p4 := hk3.cell hb4
  have hin : w.heap.size < W3.heap.size := by omega
  clear hb0 hb5 d0 d1 d2 hkw hz hG hbL
  go_wp2_with (at_builtin; refine wpList_pushes (by rfl) (.tmp 128) (.tmp 135) 28 (by rfl) Tryd.underlying28 info_u8 (by rfl) (by decide) (base := g) (l := [op]) (by rfl) (by exact HO.keep (by repeat (with_reducible (first | assumption | exact Keeps.refl _ | refine Keeps.alloc ?_ _ | refine Keeps.drew ?_ | refine Keeps.drewN ?_ _ | refine Keeps.trans' ?_ (by assumption) (by assumption))))) [A, N % 256] _ _ (by rfl) (by exact Blk.top' _ _ (by first | rfl | simp)) cu_len cu_one (by simp) (by simp [maxLen]) (by first | omega | (simp only [sz_alloc]; omega) | (simp only [sz_drew]; omega) | (simp only [sz_alloc, sz_drew]; omega) | (simp only [sz_alloc, sz_drewN]; omega)) ?_; intro v' w' hown hbel hgr hfr; have hle : g ≤ w'.heap.size := Nat.le_trans (by first | omega | (simp only [sz_alloc]; omega) | (simp only [sz_drew]; omega) | (simp only [sz_alloc, sz_drew]; omega) | (simp only [sz_alloc, sz_drewN]; omega)) hbel.size)
  go_wp2
  go_ret2
  refine ⟨v', rfl, ?_, HK.out.trans (by repeat (with_reducible (first | assumption | exact Keeps.refl _ | refine Keeps.alloc ?_ _ | refine Keeps.drew ?_ | refine Keeps.drewN ?_ _ | refine Keeps.trans' ?_ (by assumption) (by assumption))))⟩
  have hown' : Own w' g 5 1 cu v' (op :: [A, lowB N]) := hown
  rw [HB.out]
  exact own_octs hown'
end Go.Proofs.YtckofmijaiahbaaDoor
