/-
  The document's BytesOf, kind by kind: the bytes of an instruction that may be.
-/
import Derived.Test.YtckofmijaiahbaaDoorIsaEnc1
import Derived.Deep.RegionHeld3
import Derived.Deep.DeepCutAuto
namespace Go.Proofs.YtckofmijaiahbaaDoor
open Go.RowKit BH
set_option maxHeartbeats 2000000
set_option maxRecDepth 100000
theorem ref_branchS (k : Nat) (h1 : 18 ≤ k) (h2 : k ≤ 21) (D A B N : Int) (w : World) (hF : insFault k D A B N false = 0) :
    Calls Tryd.prog 9 #[insV k D A B N false] w (GivesE (fun v w' => Octs w' v (insBytes k D A B N false)) 0 w) := by
  obtain ⟨-, -, ⟨r1, r2, r3, r4, r5, r6⟩, n1, n2, -⟩ := insFault_zero hF
  have HC := Lib.hid (instrFault_any k D A B N false (w.alloc (.cells #[.int .i64 k, .int .i64 D, .int .i64 A, .int .i64 B, .int .i64 N, .bool false] 23)))
  rw [hF] at HC
  have HB := Lib.hid (show insBytes k D A B N false = opT k :: (A * 16 + B) :: [lowB N] from insBytes_branch k h1 h2 D A B N false)
  have HO := Lib.hid (fun w => opOf_branch k h1 h2 w)
  obtain ⟨o1, o2, o3, o4⟩ := op_bounds k (by omega)
  generalize opT k = op at *
  generalize longT k = lop at *
  have m1 : 0 ≤ N % 256 := by omega
  have m2 : N % 256 < 256 := by omega
  have m3 : 0 ≤ N % 65536 := by omega
  have m4 : N % 65536 < 65536 := by omega
  clear hF
  unfold insV at HC ⊢
  go_enter Tryd.func9, Tryd.ntmps9
  go_wp2_with fail
  refine HC.out.mono ?_
  rintro e w1 ⟨rfl, hk1⟩
  have hb0 : w1.cell? ⟨w.heap.size, 0, none⟩ = some (.int .i64 k) := hk1.cell (by simp)
  have hb1 : w1.cell? ⟨w.heap.size, 1, none⟩ = some (.int .i64 D) := hk1.cell (by simp)
  have hb2 : w1.cell? ⟨w.heap.size, 2, none⟩ = some (.int .i64 A) := hk1.cell (by simp)
  have hb3 : w1.cell? ⟨w.heap.size, 3, none⟩ = some (.int .i64 B) := hk1.cell (by simp)
  have hb4 : w1.cell? ⟨w.heap.size, 4, none⟩ = some (.int .i64 N) := hk1.cell (by simp)
  have hb5 : w1.cell? ⟨w.heap.size, 5, none⟩ = some (.bool false) := hk1.cell (by simp)
  have hin : w.heap.size < w1.heap.size := lt_top hk1
  have hkw : Keeps w w1 := ((Keeps.refl w).alloc _).trans hk1
  clear HC hk1
  go_upto_region 32 with (first | (go_at_call 18; refine (HO.out _).mono ?_; rintro e w' ⟨rfl, rfl⟩) | (go_at_call 19; with_reducible refine (wrap256_any _ _ n1 n2).mono ?_; rintro e w' ⟨rfl, rfl⟩) | (go_at_call 19; with_reducible refine (wrap65536_any _ _ n1 n2).mono ?_; rintro e w' ⟨rfl, rfl⟩))
  all_goals
    (try rw [show N % 65536 / 256 = highB N by unfold highB; omega])
    obtain ⟨W3, hW3⟩ : ∃ W3 : World, W3 = w1.alloc (.cells #[.int .u8 op] 5) := ⟨_, rfl⟩
    have hk3 : Keeps w1 W3 := by rw [hW3]; exact (Keeps.refl _).alloc _
    have hbO : Blk W3 w1.heap.size (.cells #[.int .u8 op] 5) := by rw [hW3]; exact Blk.top _ _
    have hs3 : w1.heap.size < W3.heap.size := hbO.lt
    rw [← hW3]
    clear hW3
    have hg1 : w1.heap.size ≤ w1.heap.size := Nat.le_refl _
    have p1 := hk3.cell hb1
    have p2 := hk3.cell hb2
    have p3 := hk3.cell hb3
    have p4 := hk3.cell hb4
    have p5 := hk3.cell hb5
    have hin3 : w.heap.size < W3.heap.size := by omega
    have HO2 : Own W3 w1.heap.size 5 1 cu (.slice (some ⟨w1.heap.size, 0, none⟩) 1 1) [op] := Own.of_block (l := [op]) cu_len (Nat.le_refl _) hbO (by simp [maxLen])
    have HK := Lib.hid hkw
    clear hb0 hb1 hb2 hb3 hb4 hb5 hkw hbO HO
    generalize hge : w1.heap.size = g at *
    have HG := Lib.hid hge
    clear hge
    go_wp2_with (at_builtin; refine wpList_pushes (by rfl) (.tmp 120) (.tmp 129) 28 (by rfl) Tryd.underlying28 info_u8 (by rfl) (by decide) (base := g) (l := [op]) (by rfl) (by exact HO2.keep (by repeat (with_reducible (first | assumption | exact Keeps.refl _ | refine Keeps.alloc ?_ _ | refine Keeps.drew ?_ | refine Keeps.drewN ?_ _ | refine Keeps.trans' ?_ (by assumption) (by assumption))))) [A * 16 + B, lowB N] _ _ (by rfl) (by exact Blk.top' _ _ (by first | rfl | simp)) cu_len cu_one (by simp) (by simp [maxLen]) (by first | omega | (simp only [sz_alloc]; omega) | (simp only [sz_drew]; omega) | (simp only [sz_alloc, sz_drew]; omega) | (simp only [sz_alloc, sz_drewN]; omega)) ?_; intro v' w' hown hbel hgr hfr; have hle : g ≤ w'.heap.size := Nat.le_trans (by first | omega | (simp only [sz_alloc]; omega) | (simp only [sz_drew]; omega) | (simp only [sz_alloc, sz_drew]; omega) | (simp only [sz_alloc, sz_drewN]; omega)) hbel.size; have p6 := Eq.trans (Below.cell hbel (p := ⟨w.heap.size, 5, none⟩) (by assumption)) (Keeps.cell (by repeat (with_reducible (first | assumption | exact Keeps.refl _ | refine Keeps.alloc ?_ _ | refine Keeps.drew ?_ | refine Keeps.drewN ?_ _))) p5))
    go_wp2
    go_ret2
    refine ⟨v', rfl, ?_, HK.out.trans (by have e := HG.out; repeat (with_reducible (first | assumption | exact Keeps.refl _ | refine Keeps.alloc ?_ _ | refine Keeps.drew ?_ | refine Keeps.drewN ?_ _ | refine Keeps.trans' ?_ (by assumption) (Nat.le_of_eq e))))⟩
    have hown' : Own w' g 5 1 cu v' (op :: [A * 16 + B, lowB N]) := hown
    rw [HB.out]
    exact own_octs hown'
theorem ref_branchL (k : Nat) (h1 : 18 ≤ k) (h2 : k ≤ 21) (D A B N : Int) (w : World) (hF : insFault k D A B N true = 0) :
    Calls Tryd.prog 9 #[insV k D A B N true] w (GivesE (fun v w' => Octs w' v (insBytes k D A B N true)) 0 w) := by
  obtain ⟨-, -, ⟨r1, r2, r3, r4, r5, r6⟩, n1, n2, -⟩ := insFault_zero hF
  have HC := Lib.hid (instrFault_any k D A B N true (w.alloc (.cells #[.int .i64 k, .int .i64 D, .int .i64 A, .int .i64 B, .int .i64 N, .bool true] 23)))
  rw [hF] at HC
  have HB := Lib.hid (show insBytes k D A B N true = longT k :: (A * 16 + B) :: [lowB N, highB N] from insBytes_branch k h1 h2 D A B N true)
  have HO := Lib.hid (fun w => opOf_branch k h1 h2 w)
  obtain ⟨o1, o2, o3, o4⟩ := op_bounds k (by omega)
  generalize opT k = op at *
  generalize longT k = lop at *
  have m1 : 0 ≤ N % 256 := by omega
  have m2 : N % 256 < 256 := by omega
  have m3 : 0 ≤ N % 65536 := by omega
  have m4 : N % 65536 < 65536 := by omega
  clear hF
  unfold insV at HC ⊢
  go_enter Tryd.func9, Tryd.ntmps9
  go_wp2_with fail
  refine HC.out.mono ?_
  rintro e w1 ⟨rfl, hk1⟩
  have hb0 : w1.cell? ⟨w.heap.size, 0, none⟩ = some (.int .i64 k) := hk1.cell (by simp)
  have hb1 : w1.cell? ⟨w.heap.size, 1, none⟩ = some (.int .i64 D) := hk1.cell (by simp)
  have hb2 : w1.cell? ⟨w.heap.size, 2, none⟩ = some (.int .i64 A) := hk1.cell (by simp)
  have hb3 : w1.cell? ⟨w.heap.size, 3, none⟩ = some (.int .i64 B) := hk1.cell (by simp)
  have hb4 : w1.cell? ⟨w.heap.size, 4, none⟩ = some (.int .i64 N) := hk1.cell (by simp)
  have hb5 : w1.cell? ⟨w.heap.size, 5, none⟩ = some (.bool true) := hk1.cell (by simp)
  have hin : w.heap.size < w1.heap.size := lt_top hk1
  have hkw : Keeps w w1 := ((Keeps.refl w).alloc _).trans hk1
  clear HC hk1
  go_upto_region 32 with (first | (go_at_call 18; refine (HO.out _).mono ?_; rintro e w' ⟨rfl, rfl⟩) | (go_at_call 19; with_reducible refine (wrap256_any _ _ n1 n2).mono ?_; rintro e w' ⟨rfl, rfl⟩) | (go_at_call 19; with_reducible refine (wrap65536_any _ _ n1 n2).mono ?_; rintro e w' ⟨rfl, rfl⟩))
  all_goals
    (try rw [show N % 65536 / 256 = highB N by unfold highB; omega])
    obtain ⟨W3, hW3⟩ : ∃ W3 : World, W3 = w1.alloc (.cells #[.int .u8 lop] 5) := ⟨_, rfl⟩
    have hk3 : Keeps w1 W3 := by rw [hW3]; exact (Keeps.refl _).alloc _
    have hbO : Blk W3 w1.heap.size (.cells #[.int .u8 lop] 5) := by rw [hW3]; exact Blk.top _ _
    have hs3 : w1.heap.size < W3.heap.size := hbO.lt
    rw [← hW3]
    clear hW3
    have hg1 : w1.heap.size ≤ w1.heap.size := Nat.le_refl _
    have p1 := hk3.cell hb1
    have p2 := hk3.cell hb2
    have p3 := hk3.cell hb3
    have p4 := hk3.cell hb4
    have p5 := hk3.cell hb5
    have hin3 : w.heap.size < W3.heap.size := by omega
    have HO2 : Own W3 w1.heap.size 5 1 cu (.slice (some ⟨w1.heap.size, 0, none⟩) 1 1) [lop] := Own.of_block (l := [lop]) cu_len (Nat.le_refl _) hbO (by simp [maxLen])
    have HK := Lib.hid hkw
    clear hb0 hb1 hb2 hb3 hb4 hb5 hkw hbO HO
    generalize hge : w1.heap.size = g at *
    have HG := Lib.hid hge
    clear hge
    go_wp2_with (first | (at_builtin; refine wpList_pushes (by rfl) (.tmp 120) (.tmp 129) 28 (by rfl) Tryd.underlying28 info_u8 (by rfl) (by decide) (base := g) (l := [lop]) (by rfl) (by exact HO2.keep (by repeat (with_reducible (first | assumption | exact Keeps.refl _ | refine Keeps.alloc ?_ _ | refine Keeps.drew ?_ | refine Keeps.drewN ?_ _ | refine Keeps.trans' ?_ (by assumption) (by assumption))))) [A * 16 + B, lowB N] _ _ (by rfl) (by exact Blk.top' _ _ (by first | rfl | simp)) cu_len cu_one (by simp) (by simp [maxLen]) (by first | omega | (simp only [sz_alloc]; omega) | (simp only [sz_drew]; omega) | (simp only [sz_alloc, sz_drew]; omega) | (simp only [sz_alloc, sz_drewN]; omega)) ?_; intro v' w' hown hbel hgr hfr; have hle : g ≤ w'.heap.size := Nat.le_trans (by first | omega | (simp only [sz_alloc]; omega) | (simp only [sz_drew]; omega) | (simp only [sz_alloc, sz_drew]; omega) | (simp only [sz_alloc, sz_drewN]; omega)) hbel.size; have p6 := Eq.trans (Below.cell hbel (p := ⟨w.heap.size, 5, none⟩) (by assumption)) (Keeps.cell (by repeat (with_reducible (first | assumption | exact Keeps.refl _ | refine Keeps.alloc ?_ _ | refine Keeps.drew ?_ | refine Keeps.drewN ?_ _))) p5)) | (at_builtin; refine wpList_pushes (by rfl) (.tmp 133) (.tmp 135) 28 (by rfl) Tryd.underlying28 info_u8 (by rfl) (by decide) (base := g) (l := [lop, A * 16 + B, lowB N]) (by rfl) (by exact hown.keep (by repeat (with_reducible (first | assumption | exact Keeps.refl _ | refine Keeps.alloc ?_ _ | refine Keeps.drew ?_ | refine Keeps.drewN ?_ _ | refine Keeps.trans' ?_ (by assumption) (by assumption))))) [highB N] _ _ (by rfl) (by exact Blk.top' _ _ (by first | rfl | simp)) cu_len cu_one (by simp) (by simp [maxLen]) (by first | omega | (simp only [sz_alloc]; omega) | (simp only [sz_drew]; omega) | (simp only [sz_alloc, sz_drew]; omega) | (simp only [sz_alloc, sz_drewN]; omega)) ?_; intro v2' w2' hown2 hbel2 hgr2 hfr2; have hle2 : g ≤ w2'.heap.size := Nat.le_trans (by first | omega | (simp only [sz_alloc]; omega) | (simp only [sz_drew]; omega) | (simp only [sz_alloc, sz_drew]; omega) | (simp only [sz_alloc, sz_drewN]; omega)) hbel2.size))
    go_wp2
    go_ret2
    refine ⟨v2', rfl, ?_, HK.out.trans (by have e := HG.out; repeat (with_reducible (first | assumption | exact Keeps.refl _ | refine Keeps.alloc ?_ _ | refine Keeps.drew ?_ | refine Keeps.drewN ?_ _ | refine Keeps.trans' ?_ (by assumption) (Nat.le_of_eq e))))⟩
    have hown' : Own w2' g 5 1 cu v2' (lop :: [A * 16 + B, lowB N, highB N]) := hown2
    rw [HB.out]
    exact own_octs hown'
theorem ref_jumpS (k : Nat) (h1 : 22 ≤ k) (h2 : k ≤ 22) (D A B N : Int) (w : World) (hF : insFault k D A B N false = 0) :
    Calls Tryd.prog 9 #[insV k D A B N false] w (GivesE (fun v w' => Octs w' v (insBytes k D A B N false)) 0 w) := by
  obtain ⟨-, -, ⟨r1, r2, r3, r4, r5, r6⟩, n1, n2, -⟩ := insFault_zero hF
  have HC := Lib.hid (instrFault_any k D A B N false (w.alloc (.cells #[.int .i64 k, .int .i64 D, .int .i64 A, .int .i64 B, .int .i64 N, .bool false] 23)))
  rw [hF] at HC
  have HB := Lib.hid (show insBytes k D A B N false = opT k :: [lowB N] from insBytes_jump k h1 h2 D A B N false)
  have HO := Lib.hid (fun w => opOf_jump k h1 h2 w)
  obtain ⟨o1, o2, o3, o4⟩ := op_bounds k (by omega)
  generalize opT k = op at *
  generalize longT k = lop at *
  have m1 : 0 ≤ N % 256 := by omega
  have m2 : N % 256 < 256 := by omega
  have m3 : 0 ≤ N % 65536 := by omega
  have m4 : N % 65536 < 65536 := by omega
  clear hF
  unfold insV at HC ⊢
  go_enter Tryd.func9, Tryd.ntmps9
  go_wp2_with fail
  refine HC.out.mono ?_
  rintro e w1 ⟨rfl, hk1⟩
  have hb0 : w1.cell? ⟨w.heap.size, 0, none⟩ = some (.int .i64 k) := hk1.cell (by simp)
  have hb1 : w1.cell? ⟨w.heap.size, 1, none⟩ = some (.int .i64 D) := hk1.cell (by simp)
  have hb2 : w1.cell? ⟨w.heap.size, 2, none⟩ = some (.int .i64 A) := hk1.cell (by simp)
  have hb3 : w1.cell? ⟨w.heap.size, 3, none⟩ = some (.int .i64 B) := hk1.cell (by simp)
  have hb4 : w1.cell? ⟨w.heap.size, 4, none⟩ = some (.int .i64 N) := hk1.cell (by simp)
  have hb5 : w1.cell? ⟨w.heap.size, 5, none⟩ = some (.bool false) := hk1.cell (by simp)
  have hin : w.heap.size < w1.heap.size := lt_top hk1
  have hkw : Keeps w w1 := ((Keeps.refl w).alloc _).trans hk1
  clear HC hk1
  go_upto_region 36 with (first | (go_at_call 18; refine (HO.out _).mono ?_; rintro e w' ⟨rfl, rfl⟩) | (go_at_call 19; with_reducible refine (wrap256_any _ _ n1 n2).mono ?_; rintro e w' ⟨rfl, rfl⟩) | (go_at_call 19; with_reducible refine (wrap65536_any _ _ n1 n2).mono ?_; rintro e w' ⟨rfl, rfl⟩))
  all_goals
    (try rw [show N % 65536 / 256 = highB N by unfold highB; omega])
    obtain ⟨W3, hW3⟩ : ∃ W3 : World, W3 = w1.alloc (.cells #[.int .u8 op] 5) := ⟨_, rfl⟩
    have hk3 : Keeps w1 W3 := by rw [hW3]; exact (Keeps.refl _).alloc _
    have hbO : Blk W3 w1.heap.size (.cells #[.int .u8 op] 5) := by rw [hW3]; exact Blk.top _ _
    have hs3 : w1.heap.size < W3.heap.size := hbO.lt
    rw [← hW3]
    clear hW3
    have hg1 : w1.heap.size ≤ w1.heap.size := Nat.le_refl _
    have p1 := hk3.cell hb1
    have p2 := hk3.cell hb2
    have p3 := hk3.cell hb3
    have p4 := hk3.cell hb4
    have p5 := hk3.cell hb5
    have hin3 : w.heap.size < W3.heap.size := by omega
    have HO2 : Own W3 w1.heap.size 5 1 cu (.slice (some ⟨w1.heap.size, 0, none⟩) 1 1) [op] := Own.of_block (l := [op]) cu_len (Nat.le_refl _) hbO (by simp [maxLen])
    have HK := Lib.hid hkw
    clear hb0 hb1 hb2 hb3 hb4 hb5 hkw hbO HO
    generalize hge : w1.heap.size = g at *
    have HG := Lib.hid hge
    clear hge
    go_wp2_with (at_builtin; refine wpList_pushes (by rfl) (.tmp 139) (.tmp 141) 28 (by rfl) Tryd.underlying28 info_u8 (by rfl) (by decide) (base := g) (l := [op]) (by rfl) (by exact HO2.keep (by repeat (with_reducible (first | assumption | exact Keeps.refl _ | refine Keeps.alloc ?_ _ | refine Keeps.drew ?_ | refine Keeps.drewN ?_ _ | refine Keeps.trans' ?_ (by assumption) (by assumption))))) [lowB N] _ _ (by rfl) (by exact Blk.top' _ _ (by first | rfl | simp)) cu_len cu_one (by simp) (by simp [maxLen]) (by first | omega | (simp only [sz_alloc]; omega) | (simp only [sz_drew]; omega) | (simp only [sz_alloc, sz_drew]; omega) | (simp only [sz_alloc, sz_drewN]; omega)) ?_; intro v' w' hown hbel hgr hfr; have hle : g ≤ w'.heap.size := Nat.le_trans (by first | omega | (simp only [sz_alloc]; omega) | (simp only [sz_drew]; omega) | (simp only [sz_alloc, sz_drew]; omega) | (simp only [sz_alloc, sz_drewN]; omega)) hbel.size; have p6 := Eq.trans (Below.cell hbel (p := ⟨w.heap.size, 5, none⟩) (by assumption)) (Keeps.cell (by repeat (with_reducible (first | assumption | exact Keeps.refl _ | refine Keeps.alloc ?_ _ | refine Keeps.drew ?_ | refine Keeps.drewN ?_ _))) p5))
    go_wp2
    go_ret2
    refine ⟨v', rfl, ?_, HK.out.trans (by have e := HG.out; repeat (with_reducible (first | assumption | exact Keeps.refl _ | refine Keeps.alloc ?_ _ | refine Keeps.drew ?_ | refine Keeps.drewN ?_ _ | refine Keeps.trans' ?_ (by assumption) (Nat.le_of_eq e))))⟩
    have hown' : Own w' g 5 1 cu v' (op :: [lowB N]) := hown
    rw [HB.out]
    exact own_octs hown'
theorem ref_jumpL (k : Nat) (h1 : 22 ≤ k) (h2 : k ≤ 22) (D A B N : Int) (w : World) (hF : insFault k D A B N true = 0) :
    Calls Tryd.prog 9 #[insV k D A B N true] w (GivesE (fun v w' => Octs w' v (insBytes k D A B N true)) 0 w) := by
  obtain ⟨-, -, ⟨r1, r2, r3, r4, r5, r6⟩, n1, n2, -⟩ := insFault_zero hF
  have HC := Lib.hid (instrFault_any k D A B N true (w.alloc (.cells #[.int .i64 k, .int .i64 D, .int .i64 A, .int .i64 B, .int .i64 N, .bool true] 23)))
  rw [hF] at HC
  have HB := Lib.hid (show insBytes k D A B N true = longT k :: [lowB N, highB N] from insBytes_jump k h1 h2 D A B N true)
  have HO := Lib.hid (fun w => opOf_jump k h1 h2 w)
  obtain ⟨o1, o2, o3, o4⟩ := op_bounds k (by omega)
  generalize opT k = op at *
  generalize longT k = lop at *
  have m1 : 0 ≤ N % 256 := by omega
  have m2 : N % 256 < 256 := by omega
  have m3 : 0 ≤ N % 65536 := by omega
  have m4 : N % 65536 < 65536 := by omega
  clear hF
  unfold insV at HC ⊢
  go_enter Tryd.func9, Tryd.ntmps9
  go_wp2_with fail
  refine HC.out.mono ?_
  rintro e w1 ⟨rfl, hk1⟩
  have hb0 : w1.cell? ⟨w.heap.size, 0, none⟩ = some (.int .i64 k) := hk1.cell (by simp)
  have hb1 : w1.cell? ⟨w.heap.size, 1, none⟩ = some (.int .i64 D) := hk1.cell (by simp)
  have hb2 : w1.cell? ⟨w.heap.size, 2, none⟩ = some (.int .i64 A) := hk1.cell (by simp)
  have hb3 : w1.cell? ⟨w.heap.size, 3, none⟩ = some (.int .i64 B) := hk1.cell (by simp)
  have hb4 : w1.cell? ⟨w.heap.size, 4, none⟩ = some (.int .i64 N) := hk1.cell (by simp)
  have hb5 : w1.cell? ⟨w.heap.size, 5, none⟩ = some (.bool true) := hk1.cell (by simp)
  have hin : w.heap.size < w1.heap.size := lt_top hk1
  have hkw : Keeps w w1 := ((Keeps.refl w).alloc _).trans hk1
  clear HC hk1
  go_upto_region 36 with (first | (go_at_call 18; refine (HO.out _).mono ?_; rintro e w' ⟨rfl, rfl⟩) | (go_at_call 19; with_reducible refine (wrap256_any _ _ n1 n2).mono ?_; rintro e w' ⟨rfl, rfl⟩) | (go_at_call 19; with_reducible refine (wrap65536_any _ _ n1 n2).mono ?_; rintro e w' ⟨rfl, rfl⟩))
  all_goals
    (try rw [show N % 65536 / 256 = highB N by unfold highB; omega])
    obtain ⟨W3, hW3⟩ : ∃ W3 : World, W3 = w1.alloc (.cells #[.int .u8 lop] 5) := ⟨_, rfl⟩
    have hk3 : Keeps w1 W3 := by rw [hW3]; exact (Keeps.refl _).alloc _
    have hbO : Blk W3 w1.heap.size (.cells #[.int .u8 lop] 5) := by rw [hW3]; exact Blk.top _ _
    have hs3 : w1.heap.size < W3.heap.size := hbO.lt
    rw [← hW3]
    clear hW3
    have hg1 : w1.heap.size ≤ w1.heap.size := Nat.le_refl _
    have p1 := hk3.cell hb1
    have p2 := hk3.cell hb2
    have p3 := hk3.cell hb3
    have p4 := hk3.cell hb4
    have p5 := hk3.cell hb5
    have hin3 : w.heap.size < W3.heap.size := by omega
    have HO2 : Own W3 w1.heap.size 5 1 cu (.slice (some ⟨w1.heap.size, 0, none⟩) 1 1) [lop] := Own.of_block (l := [lop]) cu_len (Nat.le_refl _) hbO (by simp [maxLen])
    have HK := Lib.hid hkw
    clear hb0 hb1 hb2 hb3 hb4 hb5 hkw hbO HO
    generalize hge : w1.heap.size = g at *
    have HG := Lib.hid hge
    clear hge
    go_wp2_with (first | (at_builtin; refine wpList_pushes (by rfl) (.tmp 139) (.tmp 141) 28 (by rfl) Tryd.underlying28 info_u8 (by rfl) (by decide) (base := g) (l := [lop]) (by rfl) (by exact HO2.keep (by repeat (with_reducible (first | assumption | exact Keeps.refl _ | refine Keeps.alloc ?_ _ | refine Keeps.drew ?_ | refine Keeps.drewN ?_ _ | refine Keeps.trans' ?_ (by assumption) (by assumption))))) [lowB N] _ _ (by rfl) (by exact Blk.top' _ _ (by first | rfl | simp)) cu_len cu_one (by simp) (by simp [maxLen]) (by first | omega | (simp only [sz_alloc]; omega) | (simp only [sz_drew]; omega) | (simp only [sz_alloc, sz_drew]; omega) | (simp only [sz_alloc, sz_drewN]; omega)) ?_; intro v' w' hown hbel hgr hfr; have hle : g ≤ w'.heap.size := Nat.le_trans (by first | omega | (simp only [sz_alloc]; omega) | (simp only [sz_drew]; omega) | (simp only [sz_alloc, sz_drew]; omega) | (simp only [sz_alloc, sz_drewN]; omega)) hbel.size; have p6 := Eq.trans (Below.cell hbel (p := ⟨w.heap.size, 5, none⟩) (by assumption)) (Keeps.cell (by repeat (with_reducible (first | assumption | exact Keeps.refl _ | refine Keeps.alloc ?_ _ | refine Keeps.drew ?_ | refine Keeps.drewN ?_ _))) p5)) | (at_builtin; refine wpList_pushes (by rfl) (.tmp 145) (.tmp 147) 28 (by rfl) Tryd.underlying28 info_u8 (by rfl) (by decide) (base := g) (l := [lop, lowB N]) (by rfl) (by exact hown.keep (by repeat (with_reducible (first | assumption | exact Keeps.refl _ | refine Keeps.alloc ?_ _ | refine Keeps.drew ?_ | refine Keeps.drewN ?_ _ | refine Keeps.trans' ?_ (by assumption) (by assumption))))) [highB N] _ _ (by rfl) (by exact Blk.top' _ _ (by first | rfl | simp)) cu_len cu_one (by simp) (by simp [maxLen]) (by first | omega | (simp only [sz_alloc]; omega) | (simp only [sz_drew]; omega) | (simp only [sz_alloc, sz_drew]; omega) | (simp only [sz_alloc, sz_drewN]; omega)) ?_; intro v2' w2' hown2 hbel2 hgr2 hfr2; have hle2 : g ≤ w2'.heap.size := Nat.le_trans (by first | omega | (simp only [sz_alloc]; omega) | (simp only [sz_drew]; omega) | (simp only [sz_alloc, sz_drew]; omega) | (simp only [sz_alloc, sz_drewN]; omega)) hbel2.size))
    go_wp2
    go_ret2
    refine ⟨v2', rfl, ?_, HK.out.trans (by have e := HG.out; repeat (with_reducible (first | assumption | exact Keeps.refl _ | refine Keeps.alloc ?_ _ | refine Keeps.drew ?_ | refine Keeps.drewN ?_ _ | refine Keeps.trans' ?_ (by assumption) (Nat.le_of_eq e))))⟩
    have hown' : Own w2' g 5 1 cu v2' (lop :: [lowB N, highB N]) := hown2
    rw [HB.out]
    exact own_octs hown'
theorem ref_call (k : Nat) (h1 : 23 ≤ k) (h2 : k ≤ 23) (D A B N : Int) (w : World) (hF : insFault k D A B N false = 0) :
    Calls Tryd.prog 9 #[insV k D A B N false] w (GivesE (fun v w' => Octs w' v (insBytes k D A B N false)) 0 w) := by
  obtain ⟨-, -, ⟨r1, r2, r3, r4, r5, r6⟩, n1, n2, -⟩ := insFault_zero hF
  have HC := Lib.hid (instrFault_any k D A B N false (w.alloc (.cells #[.int .i64 k, .int .i64 D, .int .i64 A, .int .i64 B, .int .i64 N, .bool false] 23)))
  rw [hF] at HC
  have HB := Lib.hid (show insBytes k D A B N false = opT k :: [lowB N, highB N] from insBytes_call k h1 h2 D A B N)
  have HO := Lib.hid (fun w => opOf_call k h1 h2 w)
  obtain ⟨o1, o2, o3, o4⟩ := op_bounds k (by omega)
  generalize opT k = op at *
  generalize longT k = lop at *
  have m1 : 0 ≤ N % 256 := by omega
  have m2 : N % 256 < 256 := by omega
  have m3 : 0 ≤ N % 65536 := by omega
  have m4 : N % 65536 < 65536 := by omega
  clear hF
  unfold insV at HC ⊢
  go_enter Tryd.func9, Tryd.ntmps9
  go_wp2_with fail
  refine HC.out.mono ?_
  rintro e w1 ⟨rfl, hk1⟩
  have hb0 : w1.cell? ⟨w.heap.size, 0, none⟩ = some (.int .i64 k) := hk1.cell (by simp)
  have hb1 : w1.cell? ⟨w.heap.size, 1, none⟩ = some (.int .i64 D) := hk1.cell (by simp)
  have hb2 : w1.cell? ⟨w.heap.size, 2, none⟩ = some (.int .i64 A) := hk1.cell (by simp)
  have hb3 : w1.cell? ⟨w.heap.size, 3, none⟩ = some (.int .i64 B) := hk1.cell (by simp)
  have hb4 : w1.cell? ⟨w.heap.size, 4, none⟩ = some (.int .i64 N) := hk1.cell (by simp)
  have hb5 : w1.cell? ⟨w.heap.size, 5, none⟩ = some (.bool false) := hk1.cell (by simp)
  have hin : w.heap.size < w1.heap.size := lt_top hk1
  have hkw : Keeps w w1 := ((Keeps.refl w).alloc _).trans hk1
  clear HC hk1
  go_upto_region 40 with (first | (go_at_call 18; refine (HO.out _).mono ?_; rintro e w' ⟨rfl, rfl⟩) | (go_at_call 19; with_reducible refine (wrap256_any _ _ n1 n2).mono ?_; rintro e w' ⟨rfl, rfl⟩) | (go_at_call 19; with_reducible refine (wrap65536_any _ _ n1 n2).mono ?_; rintro e w' ⟨rfl, rfl⟩))
  all_goals
    (try rw [show N % 65536 / 256 = highB N by unfold highB; omega])
    obtain ⟨W3, hW3⟩ : ∃ W3 : World, W3 = w1.alloc (.cells #[.int .u8 op] 5) := ⟨_, rfl⟩
    have hk3 : Keeps w1 W3 := by rw [hW3]; exact (Keeps.refl _).alloc _
    have hbO : Blk W3 w1.heap.size (.cells #[.int .u8 op] 5) := by rw [hW3]; exact Blk.top _ _
    have hs3 : w1.heap.size < W3.heap.size := hbO.lt
    rw [← hW3]
    clear hW3
    have hg1 : w1.heap.size ≤ w1.heap.size := Nat.le_refl _
    have p1 := hk3.cell hb1
    have p2 := hk3.cell hb2
    have p3 := hk3.cell hb3
    have p4 := hk3.cell hb4
    have p5 := hk3.cell hb5
    have hin3 : w.heap.size < W3.heap.size := by omega
    have HO2 : Own W3 w1.heap.size 5 1 cu (.slice (some ⟨w1.heap.size, 0, none⟩) 1 1) [op] := Own.of_block (l := [op]) cu_len (Nat.le_refl _) hbO (by simp [maxLen])
    have HK := Lib.hid hkw
    clear hb0 hb1 hb2 hb3 hb4 hb5 hkw hbO HO
    generalize hge : w1.heap.size = g at *
    have HG := Lib.hid hge
    clear hge
    go_wp2_with (at_builtin; refine wpList_pushes (by rfl) (.tmp 151) (.tmp 154) 28 (by rfl) Tryd.underlying28 info_u8 (by rfl) (by decide) (base := g) (l := [op]) (by rfl) (by exact HO2.keep (by repeat (with_reducible (first | assumption | exact Keeps.refl _ | refine Keeps.alloc ?_ _ | refine Keeps.drew ?_ | refine Keeps.drewN ?_ _ | refine Keeps.trans' ?_ (by assumption) (by assumption))))) [lowB N, highB N] _ _ (by rfl) (by exact Blk.top' _ _ (by first | rfl | simp)) cu_len cu_one (by simp) (by simp [maxLen]) (by first | omega | (simp only [sz_alloc]; omega) | (simp only [sz_drew]; omega) | (simp only [sz_alloc, sz_drew]; omega) | (simp only [sz_alloc, sz_drewN]; omega)) ?_; intro v' w' hown hbel hgr hfr; have hle : g ≤ w'.heap.size := Nat.le_trans (by first | omega | (simp only [sz_alloc]; omega) | (simp only [sz_drew]; omega) | (simp only [sz_alloc, sz_drew]; omega) | (simp only [sz_alloc, sz_drewN]; omega)) hbel.size)
    go_wp2
    go_ret2
    refine ⟨v', rfl, ?_, HK.out.trans (by have e := HG.out; repeat (with_reducible (first | assumption | exact Keeps.refl _ | refine Keeps.alloc ?_ _ | refine Keeps.drew ?_ | refine Keeps.drewN ?_ _ | refine Keeps.trans' ?_ (by assumption) (Nat.le_of_eq e))))⟩
    have hown' : Own w' g 5 1 cu v' (op :: [lowB N, highB N]) := hown
    rw [HB.out]
    exact own_octs hown'
theorem ref_table (k : Nat) (h1 : 24 ≤ k) (h2 : k ≤ 24) (D A B N : Int) (w : World) (hF : insFault k D A B N false = 0) :
    Calls Tryd.prog 9 #[insV k D A B N false] w (GivesE (fun v w' => Octs w' v (insBytes k D A B N false)) 0 w) := by
  obtain ⟨-, -, ⟨r1, r2, r3, r4, r5, r6⟩, n1, n2, -⟩ := insFault_zero hF
  have HC := Lib.hid (instrFault_any k D A B N false (w.alloc (.cells #[.int .i64 k, .int .i64 D, .int .i64 A, .int .i64 B, .int .i64 N, .bool false] 23)))
  rw [hF] at HC
  have HB := Lib.hid (show insBytes k D A B N false = opT k :: [A, lowB N] from insBytes_table k h1 h2 D A B N)
  have HO := Lib.hid (fun w => opOf_table k h1 h2 w)
  obtain ⟨o1, o2, o3, o4⟩ := op_bounds k (by omega)
  generalize opT k = op at *
  generalize longT k = lop at *
  have m1 : 0 ≤ N % 256 := by omega
  have m2 : N % 256 < 256 := by omega
  have m3 : 0 ≤ N % 65536 := by omega
  have m4 : N % 65536 < 65536 := by omega
  clear hF
  unfold insV at HC ⊢
  go_enter Tryd.func9, Tryd.ntmps9
  go_wp2_with fail
  refine HC.out.mono ?_
  rintro e w1 ⟨rfl, hk1⟩
  have hb0 : w1.cell? ⟨w.heap.size, 0, none⟩ = some (.int .i64 k) := hk1.cell (by simp)
  have hb1 : w1.cell? ⟨w.heap.size, 1, none⟩ = some (.int .i64 D) := hk1.cell (by simp)
  have hb2 : w1.cell? ⟨w.heap.size, 2, none⟩ = some (.int .i64 A) := hk1.cell (by simp)
  have hb3 : w1.cell? ⟨w.heap.size, 3, none⟩ = some (.int .i64 B) := hk1.cell (by simp)
  have hb4 : w1.cell? ⟨w.heap.size, 4, none⟩ = some (.int .i64 N) := hk1.cell (by simp)
  have hb5 : w1.cell? ⟨w.heap.size, 5, none⟩ = some (.bool false) := hk1.cell (by simp)
  have hin : w.heap.size < w1.heap.size := lt_top hk1
  have hkw : Keeps w w1 := ((Keeps.refl w).alloc _).trans hk1
  clear HC hk1
  go_upto_region 42 with (first | (go_at_call 18; refine (HO.out _).mono ?_; rintro e w' ⟨rfl, rfl⟩) | (go_at_call 19; with_reducible refine (wrap256_any _ _ n1 n2).mono ?_; rintro e w' ⟨rfl, rfl⟩) | (go_at_call 19; with_reducible refine (wrap65536_any _ _ n1 n2).mono ?_; rintro e w' ⟨rfl, rfl⟩))
  all_goals
    (try rw [show N % 65536 / 256 = highB N by unfold highB; omega])
    obtain ⟨W3, hW3⟩ : ∃ W3 : World, W3 = w1.alloc (.cells #[.int .u8 op] 5) := ⟨_, rfl⟩
    have hk3 : Keeps w1 W3 := by rw [hW3]; exact (Keeps.refl _).alloc _
    have hbO : Blk W3 w1.heap.size (.cells #[.int .u8 op] 5) := by rw [hW3]; exact Blk.top _ _
    have hs3 : w1.heap.size < W3.heap.size := hbO.lt
    rw [← hW3]
    clear hW3
    have hg1 : w1.heap.size ≤ w1.heap.size := Nat.le_refl _
    have p1 := hk3.cell hb1
    have p2 := hk3.cell hb2
    have p3 := hk3.cell hb3
    have p4 := hk3.cell hb4
    have p5 := hk3.cell hb5
    have hin3 : w.heap.size < W3.heap.size := by omega
    have HO2 : Own W3 w1.heap.size 5 1 cu (.slice (some ⟨w1.heap.size, 0, none⟩) 1 1) [op] := Own.of_block (l := [op]) cu_len (Nat.le_refl _) hbO (by simp [maxLen])
    have HK := Lib.hid hkw
    clear hb0 hb1 hb2 hb3 hb4 hb5 hkw hbO HO
    generalize hge : w1.heap.size = g at *
    have HG := Lib.hid hge
    clear hge
    go_wp2_with (at_builtin; refine wpList_pushes (by rfl) (.tmp 158) (.tmp 163) 28 (by rfl) Tryd.underlying28 info_u8 (by rfl) (by decide) (base := g) (l := [op]) (by rfl) (by exact HO2.keep (by repeat (with_reducible (first | assumption | exact Keeps.refl _ | refine Keeps.alloc ?_ _ | refine Keeps.drew ?_ | refine Keeps.drewN ?_ _ | refine Keeps.trans' ?_ (by assumption) (by assumption))))) [A, lowB N] _ _ (by rfl) (by exact Blk.top' _ _ (by first | rfl | simp)) cu_len cu_one (by simp) (by simp [maxLen]) (by first | omega | (simp only [sz_alloc]; omega) | (simp only [sz_drew]; omega) | (simp only [sz_alloc, sz_drew]; omega) | (simp only [sz_alloc, sz_drewN]; omega)) ?_; intro v' w' hown hbel hgr hfr; have hle : g ≤ w'.heap.size := Nat.le_trans (by first | omega | (simp only [sz_alloc]; omega) | (simp only [sz_drew]; omega) | (simp only [sz_alloc, sz_drew]; omega) | (simp only [sz_alloc, sz_drewN]; omega)) hbel.size)
    go_wp2
    go_ret2
    refine ⟨v', rfl, ?_, HK.out.trans (by have e := HG.out; repeat (with_reducible (first | assumption | exact Keeps.refl _ | refine Keeps.alloc ?_ _ | refine Keeps.drew ?_ | refine Keeps.drewN ?_ _ | refine Keeps.trans' ?_ (by assumption) (Nat.le_of_eq e))))⟩
    have hown' : Own w' g 5 1 cu v' (op :: [A, lowB N]) := hown
    rw [HB.out]
    exact own_octs hown'
end Go.Proofs.YtckofmijaiahbaaDoor
