/-
  The document's BytesOf, kind by kind: the bytes of an instruction that may be.
-/
import Derived.Test.YtckofmijaiahbaaDoorIsaEnc1
import Derived.Deep.RegionHeld3
import Derived.Deep.DeepCutAuto
namespace Go.Proofs.YtckofmijaiahbaaDoor
open Go.RowKit BH
set_option maxHeartbeats 2000000
set_option maxRecDepth 100000
theorem ref_bare (k : Nat) (h1 : 1 ≤ k) (h2 : k ≤ 4) (D A B N : Int) (w : World) (hF : insFault k D A B N false = 0) :
    Calls Tryd.prog 9 #[insV k D A B N false] w (GivesE (fun v w' => Octs w' v (insBytes k D A B N false)) 0 w) := by
  obtain ⟨-, -, ⟨r1, r2, r3, r4, r5, r6⟩, n1, n2, -⟩ := insFault_zero hF
  have HC := Lib.hid (instrFault_any k D A B N false (w.alloc (.cells #[.int .i64 k, .int .i64 D, .int .i64 A, .int .i64 B, .int .i64 N, .bool false] 23)))
  rw [hF] at HC
  have HB := Lib.hid (show insBytes k D A B N false = opT k :: [] from insBytes_bare k h1 h2 D A B N)
  have HO := Lib.hid (fun w => opOf_bare k h1 h2 w)
  obtain ⟨o1, o2, o3, o4⟩ := op_bounds k (by omega)
  generalize opT k = op at *
  generalize longT k = lop at *
  have m1 : 0 ≤ N % 256 := by omega
  have m2 : N % 256 < 256 := by omega
  have m3 : 0 ≤ N % 65536 := by omega
  have m4 : N % 65536 < 65536 := by omega
  clear hF
  unfold insV at HC ⊢
  go_enter Tryd.func9, Tryd.ntmps9
  go_wp2_with fail
  refine HC.out.mono ?_
  rintro e w1 ⟨rfl, hk1⟩
  have hb0 : w1.cell? ⟨w.heap.size, 0, none⟩ = some (.int .i64 k) := hk1.cell (by simp)
  have hb1 : w1.cell? ⟨w.heap.size, 1, none⟩ = some (.int .i64 D) := hk1.cell (by simp)
  have hb2 : w1.cell? ⟨w.heap.size, 2, none⟩ = some (.int .i64 A) := hk1.cell (by simp)
  have hb3 : w1.cell? ⟨w.heap.size, 3, none⟩ = some (.int .i64 B) := hk1.cell (by simp)
  have hb4 : w1.cell? ⟨w.heap.size, 4, none⟩ = some (.int .i64 N) := hk1.cell (by simp)
  have hb5 : w1.cell? ⟨w.heap.size, 5, none⟩ = some (.bool false) := hk1.cell (by simp)
  have hin : w.heap.size < w1.heap.size := lt_top hk1
  have hkw : Keeps w w1 := ((Keeps.refl w).alloc _).trans hk1
  clear HC hk1
  go_wp2_with (first | (go_at_call 18; refine (HO.out _).mono ?_; rintro e w' ⟨rfl, rfl⟩) | (go_at_call 19; with_reducible refine (wrap256_any _ _ n1 n2).mono ?_; rintro e w' ⟨rfl, rfl⟩) | (go_at_call 19; with_reducible refine (wrap65536_any _ _ n1 n2).mono ?_; rintro e w' ⟨rfl, rfl⟩))
  all_goals
    go_ret2
    refine ⟨_, rfl, ?_, hkw.trans (by repeat (with_reducible (first | assumption | exact Keeps.refl _ | refine Keeps.alloc ?_ _ | refine Keeps.drew ?_ | refine Keeps.drewN ?_ _ | refine Keeps.trans' ?_ (by assumption) (by assumption))))⟩
    rw [HB.out]
    exact own_octs (base := w1.heap.size) (Own.of_block (l := [op]) cu_len (Nat.le_refl _) (Blk.top _ _) (by simp [maxLen]))
theorem ref_wide (k : Nat) (h1 : 5 ≤ k) (h2 : k ≤ 5) (D A B N : Int) (w : World) (hF : insFault k D A B N false = 0) :
    Calls Tryd.prog 9 #[insV k D A B N false] w (GivesE (fun v w' => Octs w' v (insBytes k D A B N false)) 0 w) := by
  obtain ⟨-, -, ⟨r1, r2, r3, r4, r5, r6⟩, n1, n2, -⟩ := insFault_zero hF
  have HC := Lib.hid (instrFault_any k D A B N false (w.alloc (.cells #[.int .i64 k, .int .i64 D, .int .i64 A, .int .i64 B, .int .i64 N, .bool false] 23)))
  rw [hF] at HC
  have HB := Lib.hid (show insBytes k D A B N false = opT k :: [D, lowB N, highB N] from insBytes_wide k h1 h2 D A B N)
  have HO := Lib.hid (fun w => opOf_wide k h1 h2 w)
  obtain ⟨o1, o2, o3, o4⟩ := op_bounds k (by omega)
  generalize opT k = op at *
  generalize longT k = lop at *
  have m1 : 0 ≤ N % 256 := by omega
  have m2 : N % 256 < 256 := by omega
  have m3 : 0 ≤ N % 65536 := by omega
  have m4 : N % 65536 < 65536 := by omega
  clear hF
  unfold insV at HC ⊢
  go_enter Tryd.func9, Tryd.ntmps9
  go_wp2_with fail
  refine HC.out.mono ?_
  rintro e w1 ⟨rfl, hk1⟩
  have hb0 : w1.cell? ⟨w.heap.size, 0, none⟩ = some (.int .i64 k) := hk1.cell (by simp)
  have hb1 : w1.cell? ⟨w.heap.size, 1, none⟩ = some (.int .i64 D) := hk1.cell (by simp)
  have hb2 : w1.cell? ⟨w.heap.size, 2, none⟩ = some (.int .i64 A) := hk1.cell (by simp)
  have hb3 : w1.cell? ⟨w.heap.size, 3, none⟩ = some (.int .i64 B) := hk1.cell (by simp)
  have hb4 : w1.cell? ⟨w.heap.size, 4, none⟩ = some (.int .i64 N) := hk1.cell (by simp)
  have hb5 : w1.cell? ⟨w.heap.size, 5, none⟩ = some (.bool false) := hk1.cell (by simp)
  have hin : w.heap.size < w1.heap.size := lt_top hk1
  have hkw : Keeps w w1 := ((Keeps.refl w).alloc _).trans hk1
  clear HC hk1
  go_upto_region 18 with (first | (go_at_call 18; refine (HO.out _).mono ?_; rintro e w' ⟨rfl, rfl⟩) | (go_at_call 19; with_reducible refine (wrap256_any _ _ n1 n2).mono ?_; rintro e w' ⟨rfl, rfl⟩) | (go_at_call 19; with_reducible refine (wrap65536_any _ _ n1 n2).mono ?_; rintro e w' ⟨rfl, rfl⟩))
  all_goals
    (try rw [show N % 65536 / 256 = highB N by unfold highB; omega])
    obtain ⟨W3, hW3⟩ : ∃ W3 : World, W3 = w1.alloc (.cells #[.int .u8 op] 5) := ⟨_, rfl⟩
    have hk3 : Keeps w1 W3 := by rw [hW3]; exact (Keeps.refl _).alloc _
    have hbO : Blk W3 w1.heap.size (.cells #[.int .u8 op] 5) := by rw [hW3]; exact Blk.top _ _
    have hs3 : w1.heap.size < W3.heap.size := hbO.lt
    rw [← hW3]
    clear hW3
    have hg1 : w1.heap.size ≤ w1.heap.size := Nat.le_refl _
    have p1 := hk3.cell hb1
    have p2 := hk3.cell hb2
    have p3 := hk3.cell hb3
    have p4 := hk3.cell hb4
    have p5 := hk3.cell hb5
    have hin3 : w.heap.size < W3.heap.size := by omega
    have HO2 : Own W3 w1.heap.size 5 1 cu (.slice (some ⟨w1.heap.size, 0, none⟩) 1 1) [op] := Own.of_block (l := [op]) cu_len (Nat.le_refl _) hbO (by simp [maxLen])
    have HK := Lib.hid hkw
    clear hb0 hb1 hb2 hb3 hb4 hb5 hkw hbO HO
    generalize hge : w1.heap.size = g at *
    have HG := Lib.hid hge
    clear hge
    go_wp2_with (at_builtin; refine wpList_pushes (by rfl) (.tmp 64) (.tmp 70) 28 (by rfl) Tryd.underlying28 info_u8 (by rfl) (by decide) (base := g) (l := [op]) (by rfl) (by exact HO2.keep (by repeat (with_reducible (first | assumption | exact Keeps.refl _ | refine Keeps.alloc ?_ _ | refine Keeps.drew ?_ | refine Keeps.drewN ?_ _ | refine Keeps.trans' ?_ (by assumption) (by assumption))))) [D, lowB N, highB N] _ _ (by rfl) (by exact Blk.top' _ _ (by first | rfl | simp)) cu_len cu_one (by simp) (by simp [maxLen]) (by first | omega | (simp only [sz_alloc]; omega) | (simp only [sz_drew]; omega) | (simp only [sz_alloc, sz_drew]; omega) | (simp only [sz_alloc, sz_drewN]; omega)) ?_; intro v' w' hown hbel hgr hfr; have hle : g ≤ w'.heap.size := Nat.le_trans (by first | omega | (simp only [sz_alloc]; omega) | (simp only [sz_drew]; omega) | (simp only [sz_alloc, sz_drew]; omega) | (simp only [sz_alloc, sz_drewN]; omega)) hbel.size)
    go_wp2
    go_ret2
    refine ⟨v', rfl, ?_, HK.out.trans (by have e := HG.out; repeat (with_reducible (first | assumption | exact Keeps.refl _ | refine Keeps.alloc ?_ _ | refine Keeps.drew ?_ | refine Keeps.drewN ?_ _ | refine Keeps.trans' ?_ (by assumption) (Nat.le_of_eq e))))⟩
    have hown' : Own w' g 5 1 cu v' (op :: [D, lowB N, highB N]) := hown
    rw [HB.out]
    exact own_octs hown'
theorem ref_pairA (k : Nat) (h1 : 6 ≤ k) (h2 : k ≤ 6) (D A B N : Int) (w : World) (hF : insFault k D A B N false = 0) :
    Calls Tryd.prog 9 #[insV k D A B N false] w (GivesE (fun v w' => Octs w' v (insBytes k D A B N false)) 0 w) := by
  obtain ⟨-, -, ⟨r1, r2, r3, r4, r5, r6⟩, n1, n2, -⟩ := insFault_zero hF
  have HC := Lib.hid (instrFault_any k D A B N false (w.alloc (.cells #[.int .i64 k, .int .i64 D, .int .i64 A, .int .i64 B, .int .i64 N, .bool false] 23)))
  rw [hF] at HC
  have HB := Lib.hid (show insBytes k D A B N false = opT k :: [D * 16 + A, lowB N] from insBytes_pairA k h1 h2 D A B N)
  have HO := Lib.hid (fun w => opOf_pairA k h1 h2 w)
  obtain ⟨o1, o2, o3, o4⟩ := op_bounds k (by omega)
  generalize opT k = op at *
  generalize longT k = lop at *
  have m1 : 0 ≤ N % 256 := by omega
  have m2 : N % 256 < 256 := by omega
  have m3 : 0 ≤ N % 65536 := by omega
  have m4 : N % 65536 < 65536 := by omega
  clear hF
  unfold insV at HC ⊢
  go_enter Tryd.func9, Tryd.ntmps9
  go_wp2_with fail
  refine HC.out.mono ?_
  rintro e w1 ⟨rfl, hk1⟩
  have hb0 : w1.cell? ⟨w.heap.size, 0, none⟩ = some (.int .i64 k) := hk1.cell (by simp)
  have hb1 : w1.cell? ⟨w.heap.size, 1, none⟩ = some (.int .i64 D) := hk1.cell (by simp)
  have hb2 : w1.cell? ⟨w.heap.size, 2, none⟩ = some (.int .i64 A) := hk1.cell (by simp)
  have hb3 : w1.cell? ⟨w.heap.size, 3, none⟩ = some (.int .i64 B) := hk1.cell (by simp)
  have hb4 : w1.cell? ⟨w.heap.size, 4, none⟩ = some (.int .i64 N) := hk1.cell (by simp)
  have hb5 : w1.cell? ⟨w.heap.size, 5, none⟩ = some (.bool false) := hk1.cell (by simp)
  have hin : w.heap.size < w1.heap.size := lt_top hk1
  have hkw : Keeps w w1 := ((Keeps.refl w).alloc _).trans hk1
  clear HC hk1
  go_upto_region 21 with (first | (go_at_call 18; refine (HO.out _).mono ?_; rintro e w' ⟨rfl, rfl⟩) | (go_at_call 19; with_reducible refine (wrap256_any _ _ n1 n2).mono ?_; rintro e w' ⟨rfl, rfl⟩) | (go_at_call 19; with_reducible refine (wrap65536_any _ _ n1 n2).mono ?_; rintro e w' ⟨rfl, rfl⟩))
  all_goals
    (try rw [show N % 65536 / 256 = highB N by unfold highB; omega])
    obtain ⟨W3, hW3⟩ : ∃ W3 : World, W3 = w1.alloc (.cells #[.int .u8 op] 5) := ⟨_, rfl⟩
    have hk3 : Keeps w1 W3 := by rw [hW3]; exact (Keeps.refl _).alloc _
    have hbO : Blk W3 w1.heap.size (.cells #[.int .u8 op] 5) := by rw [hW3]; exact Blk.top _ _
    have hs3 : w1.heap.size < W3.heap.size := hbO.lt
    rw [← hW3]
    clear hW3
    have hg1 : w1.heap.size ≤ w1.heap.size := Nat.le_refl _
    have p1 := hk3.cell hb1
    have p2 := hk3.cell hb2
    have p3 := hk3.cell hb3
    have p4 := hk3.cell hb4
    have p5 := hk3.cell hb5
    have hin3 : w.heap.size < W3.heap.size := by omega
    have HO2 : Own W3 w1.heap.size 5 1 cu (.slice (some ⟨w1.heap.size, 0, none⟩) 1 1) [op] := Own.of_block (l := [op]) cu_len (Nat.le_refl _) hbO (by simp [maxLen])
    have HK := Lib.hid hkw
    clear hb0 hb1 hb2 hb3 hb4 hb5 hkw hbO HO
    generalize hge : w1.heap.size = g at *
    have HG := Lib.hid hge
    clear hge
    go_wp2_with (at_builtin; refine wpList_pushes (by rfl) (.tmp 75) (.tmp 84) 28 (by rfl) Tryd.underlying28 info_u8 (by rfl) (by decide) (base := g) (l := [op]) (by rfl) (by exact HO2.keep (by repeat (with_reducible (first | assumption | exact Keeps.refl _ | refine Keeps.alloc ?_ _ | refine Keeps.drew ?_ | refine Keeps.drewN ?_ _ | refine Keeps.trans' ?_ (by assumption) (by assumption))))) [D * 16 + A, lowB N] _ _ (by rfl) (by exact Blk.top' _ _ (by first | rfl | simp)) cu_len cu_one (by simp) (by simp [maxLen]) (by first | omega | (simp only [sz_alloc]; omega) | (simp only [sz_drew]; omega) | (simp only [sz_alloc, sz_drew]; omega) | (simp only [sz_alloc, sz_drewN]; omega)) ?_; intro v' w' hown hbel hgr hfr; have hle : g ≤ w'.heap.size := Nat.le_trans (by first | omega | (simp only [sz_alloc]; omega) | (simp only [sz_drew]; omega) | (simp only [sz_alloc, sz_drew]; omega) | (simp only [sz_alloc, sz_drewN]; omega)) hbel.size)
    go_wp2
    go_ret2
    refine ⟨v', rfl, ?_, HK.out.trans (by have e := HG.out; repeat (with_reducible (first | assumption | exact Keeps.refl _ | refine Keeps.alloc ?_ _ | refine Keeps.drew ?_ | refine Keeps.drewN ?_ _ | refine Keeps.trans' ?_ (by assumption) (Nat.le_of_eq e))))⟩
    have hown' : Own w' g 5 1 cu v' (op :: [D * 16 + A, lowB N]) := hown
    rw [HB.out]
    exact own_octs hown'
theorem ref_three (k : Nat) (h1 : 7 ≤ k) (h2 : k ≤ 13) (D A B N : Int) (w : World) (hF : insFault k D A B N false = 0) :
    Calls Tryd.prog 9 #[insV k D A B N false] w (GivesE (fun v w' => Octs w' v (insBytes k D A B N false)) 0 w) := by
  obtain ⟨-, -, ⟨r1, r2, r3, r4, r5, r6⟩, n1, n2, -⟩ := insFault_zero hF
  have HC := Lib.hid (instrFault_any k D A B N false (w.alloc (.cells #[.int .i64 k, .int .i64 D, .int .i64 A, .int .i64 B, .int .i64 N, .bool false] 23)))
  rw [hF] at HC
  have HB := Lib.hid (show insBytes k D A B N false = opT k :: [D * 16 + A, B] from insBytes_three k h1 h2 D A B N)
  have HO := Lib.hid (fun w => opOf_three k h1 h2 w)
  obtain ⟨o1, o2, o3, o4⟩ := op_bounds k (by omega)
  generalize opT k = op at *
  generalize longT k = lop at *
  have m1 : 0 ≤ N % 256 := by omega
  have m2 : N % 256 < 256 := by omega
  have m3 : 0 ≤ N % 65536 := by omega
  have m4 : N % 65536 < 65536 := by omega
  clear hF
  unfold insV at HC ⊢
  go_enter Tryd.func9, Tryd.ntmps9
  go_wp2_with fail
  refine HC.out.mono ?_
  rintro e w1 ⟨rfl, hk1⟩
  have hb0 : w1.cell? ⟨w.heap.size, 0, none⟩ = some (.int .i64 k) := hk1.cell (by simp)
  have hb1 : w1.cell? ⟨w.heap.size, 1, none⟩ = some (.int .i64 D) := hk1.cell (by simp)
  have hb2 : w1.cell? ⟨w.heap.size, 2, none⟩ = some (.int .i64 A) := hk1.cell (by simp)
  have hb3 : w1.cell? ⟨w.heap.size, 3, none⟩ = some (.int .i64 B) := hk1.cell (by simp)
  have hb4 : w1.cell? ⟨w.heap.size, 4, none⟩ = some (.int .i64 N) := hk1.cell (by simp)
  have hb5 : w1.cell? ⟨w.heap.size, 5, none⟩ = some (.bool false) := hk1.cell (by simp)
  have hin : w.heap.size < w1.heap.size := lt_top hk1
  have hkw : Keeps w w1 := ((Keeps.refl w).alloc _).trans hk1
  clear HC hk1
  go_upto_region 12 with (first | (go_at_call 18; refine (HO.out _).mono ?_; rintro e w' ⟨rfl, rfl⟩) | (go_at_call 19; with_reducible refine (wrap256_any _ _ n1 n2).mono ?_; rintro e w' ⟨rfl, rfl⟩) | (go_at_call 19; with_reducible refine (wrap65536_any _ _ n1 n2).mono ?_; rintro e w' ⟨rfl, rfl⟩))
  all_goals
    (try rw [show N % 65536 / 256 = highB N by unfold highB; omega])
    obtain ⟨W3, hW3⟩ : ∃ W3 : World, W3 = w1.alloc (.cells #[.int .u8 op] 5) := ⟨_, rfl⟩
    have hk3 : Keeps w1 W3 := by rw [hW3]; exact (Keeps.refl _).alloc _
    have hbO : Blk W3 w1.heap.size (.cells #[.int .u8 op] 5) := by rw [hW3]; exact Blk.top _ _
    have hs3 : w1.heap.size < W3.heap.size := hbO.lt
    rw [← hW3]
    clear hW3
    have hg1 : w1.heap.size ≤ w1.heap.size := Nat.le_refl _
    have p1 := hk3.cell hb1
    have p2 := hk3.cell hb2
    have p3 := hk3.cell hb3
    have p4 := hk3.cell hb4
    have p5 := hk3.cell hb5
    have hin3 : w.heap.size < W3.heap.size := by omega
    have HO2 : Own W3 w1.heap.size 5 1 cu (.slice (some ⟨w1.heap.size, 0, none⟩) 1 1) [op] := Own.of_block (l := [op]) cu_len (Nat.le_refl _) hbO (by simp [maxLen])
    have HK := Lib.hid hkw
    clear hb0 hb1 hb2 hb3 hb4 hb5 hkw hbO HO
    generalize hge : w1.heap.size = g at *
    have HG := Lib.hid hge
    clear hge
    go_wp2_with (at_builtin; refine wpList_pushes (by rfl) (.tmp 44) (.tmp 55) 28 (by rfl) Tryd.underlying28 info_u8 (by rfl) (by decide) (base := g) (l := [op]) (by rfl) (by exact HO2.keep (by repeat (with_reducible (first | assumption | exact Keeps.refl _ | refine Keeps.alloc ?_ _ | refine Keeps.drew ?_ | refine Keeps.drewN ?_ _ | refine Keeps.trans' ?_ (by assumption) (by assumption))))) [D * 16 + A, B] _ _ (by rfl) (by exact Blk.top' _ _ (by first | rfl | simp)) cu_len cu_one (by simp) (by simp [maxLen]) (by first | omega | (simp only [sz_alloc]; omega) | (simp only [sz_drew]; omega) | (simp only [sz_alloc, sz_drew]; omega) | (simp only [sz_alloc, sz_drewN]; omega)) ?_; intro v' w' hown hbel hgr hfr; have hle : g ≤ w'.heap.size := Nat.le_trans (by first | omega | (simp only [sz_alloc]; omega) | (simp only [sz_drew]; omega) | (simp only [sz_alloc, sz_drew]; omega) | (simp only [sz_alloc, sz_drewN]; omega)) hbel.size)
    go_wp2
    go_ret2
    refine ⟨v', rfl, ?_, HK.out.trans (by have e := HG.out; repeat (with_reducible (first | assumption | exact Keeps.refl _ | refine Keeps.alloc ?_ _ | refine Keeps.drew ?_ | refine Keeps.drewN ?_ _ | refine Keeps.trans' ?_ (by assumption) (Nat.le_of_eq e))))⟩
    have hown' : Own w' g 5 1 cu v' (op :: [D * 16 + A, B]) := hown
    rw [HB.out]
    exact own_octs hown'
theorem ref_pairB (k : Nat) (h1 : 14 ≤ k) (h2 : k ≤ 14) (D A B N : Int) (w : World) (hF : insFault k D A B N false = 0) :
    Calls Tryd.prog 9 #[insV k D A B N false] w (GivesE (fun v w' => Octs w' v (insBytes k D A B N false)) 0 w) := by
  obtain ⟨-, -, ⟨r1, r2, r3, r4, r5, r6⟩, n1, n2, -⟩ := insFault_zero hF
  have HC := Lib.hid (instrFault_any k D A B N false (w.alloc (.cells #[.int .i64 k, .int .i64 D, .int .i64 A, .int .i64 B, .int .i64 N, .bool false] 23)))
  rw [hF] at HC
  have HB := Lib.hid (show insBytes k D A B N false = opT k :: [D * 16 + A, lowB N] from insBytes_pairB k h1 h2 D A B N)
  have HO := Lib.hid (fun w => opOf_pairB k h1 h2 w)
  obtain ⟨o1, o2, o3, o4⟩ := op_bounds k (by omega)
  generalize opT k = op at *
  generalize longT k = lop at *
  have m1 : 0 ≤ N % 256 := by omega
  have m2 : N % 256 < 256 := by omega
  have m3 : 0 ≤ N % 65536 := by omega
  have m4 : N % 65536 < 65536 := by omega
  clear hF
  unfold insV at HC ⊢
  go_enter Tryd.func9, Tryd.ntmps9
  go_wp2_with fail
  refine HC.out.mono ?_
  rintro e w1 ⟨rfl, hk1⟩
  have hb0 : w1.cell? ⟨w.heap.size, 0, none⟩ = some (.int .i64 k) := hk1.cell (by simp)
  have hb1 : w1.cell? ⟨w.heap.size, 1, none⟩ = some (.int .i64 D) := hk1.cell (by simp)
  have hb2 : w1.cell? ⟨w.heap.size, 2, none⟩ = some (.int .i64 A) := hk1.cell (by simp)
  have hb3 : w1.cell? ⟨w.heap.size, 3, none⟩ = some (.int .i64 B) := hk1.cell (by simp)
  have hb4 : w1.cell? ⟨w.heap.size, 4, none⟩ = some (.int .i64 N) := hk1.cell (by simp)
  have hb5 : w1.cell? ⟨w.heap.size, 5, none⟩ = some (.bool false) := hk1.cell (by simp)
  have hin : w.heap.size < w1.heap.size := lt_top hk1
  have hkw : Keeps w w1 := ((Keeps.refl w).alloc _).trans hk1
  clear HC hk1
  go_upto_region 21 with (first | (go_at_call 18; refine (HO.out _).mono ?_; rintro e w' ⟨rfl, rfl⟩) | (go_at_call 19; with_reducible refine (wrap256_any _ _ n1 n2).mono ?_; rintro e w' ⟨rfl, rfl⟩) | (go_at_call 19; with_reducible refine (wrap65536_any _ _ n1 n2).mono ?_; rintro e w' ⟨rfl, rfl⟩))
  all_goals
    (try rw [show N % 65536 / 256 = highB N by unfold highB; omega])
    obtain ⟨W3, hW3⟩ : ∃ W3 : World, W3 = w1.alloc (.cells #[.int .u8 op] 5) := ⟨_, rfl⟩
    have hk3 : Keeps w1 W3 := by rw [hW3]; exact (Keeps.refl _).alloc _
    have hbO : Blk W3 w1.heap.size (.cells #[.int .u8 op] 5) := by rw [hW3]; exact Blk.top _ _
    have hs3 : w1.heap.size < W3.heap.size := hbO.lt
    rw [← hW3]
    clear hW3
    have hg1 : w1.heap.size ≤ w1.heap.size := Nat.le_refl _
    have p1 := hk3.cell hb1
    have p2 := hk3.cell hb2
    have p3 := hk3.cell hb3
    have p4 := hk3.cell hb4
    have p5 := hk3.cell hb5
    have hin3 : w.heap.size < W3.heap.size := by omega
    have HO2 : Own W3 w1.heap.size 5 1 cu (.slice (some ⟨w1.heap.size, 0, none⟩) 1 1) [op] := Own.of_block (l := [op]) cu_len (Nat.le_refl _) hbO (by simp [maxLen])
    have HK := Lib.hid hkw
    clear hb0 hb1 hb2 hb3 hb4 hb5 hkw hbO HO
    generalize hge : w1.heap.size = g at *
    have HG := Lib.hid hge
    clear hge
    go_wp2_with (at_builtin; refine wpList_pushes (by rfl) (.tmp 75) (.tmp 84) 28 (by rfl) Tryd.underlying28 info_u8 (by rfl) (by decide) (base := g) (l := [op]) (by rfl) (by exact HO2.keep (by repeat (with_reducible (first | assumption | exact Keeps.refl _ | refine Keeps.alloc ?_ _ | refine Keeps.drew ?_ | refine Keeps.drewN ?_ _ | refine Keeps.trans' ?_ (by assumption) (by assumption))))) [D * 16 + A, lowB N] _ _ (by rfl) (by exact Blk.top' _ _ (by first | rfl | simp)) cu_len cu_one (by simp) (by simp [maxLen]) (by first | omega | (simp only [sz_alloc]; omega) | (simp only [sz_drew]; omega) | (simp only [sz_alloc, sz_drew]; omega) | (simp only [sz_alloc, sz_drewN]; omega)) ?_; intro v' w' hown hbel hgr hfr; have hle : g ≤ w'.heap.size := Nat.le_trans (by first | omega | (simp only [sz_alloc]; omega) | (simp only [sz_drew]; omega) | (simp only [sz_alloc, sz_drew]; omega) | (simp only [sz_alloc, sz_drewN]; omega)) hbel.size)
    go_wp2
    go_ret2
    refine ⟨v', rfl, ?_, HK.out.trans (by have e := HG.out; repeat (with_reducible (first | assumption | exact Keeps.refl _ | refine Keeps.alloc ?_ _ | refine Keeps.drew ?_ | refine Keeps.drewN ?_ _ | refine Keeps.trans' ?_ (by assumption) (Nat.le_of_eq e))))⟩
    have hown' : Own w' g 5 1 cu v' (op :: [D * 16 + A, lowB N]) := hown
    rw [HB.out]
    exact own_octs hown'
theorem ref_store (k : Nat) (h1 : 15 ≤ k) (h2 : k ≤ 15) (D A B N : Int) (w : World) (hF : insFault k D A B N false = 0) :
    Calls Tryd.prog 9 #[insV k D A B N false] w (GivesE (fun v w' => Octs w' v (insBytes k D A B N false)) 0 w) := by
  obtain ⟨-, -, ⟨r1, r2, r3, r4, r5, r6⟩, n1, n2, -⟩ := insFault_zero hF
  have HC := Lib.hid (instrFault_any k D A B N false (w.alloc (.cells #[.int .i64 k, .int .i64 D, .int .i64 A, .int .i64 B, .int .i64 N, .bool false] 23)))
  rw [hF] at HC
  have HB := Lib.hid (show insBytes k D A B N false = opT k :: [B * 16 + A, lowB N] from insBytes_store k h1 h2 D A B N)
  have HO := Lib.hid (fun w => opOf_store k h1 h2 w)
  obtain ⟨o1, o2, o3, o4⟩ := op_bounds k (by omega)
  generalize opT k = op at *
  generalize longT k = lop at *
  have m1 : 0 ≤ N % 256 := by omega
  have m2 : N % 256 < 256 := by omega
  have m3 : 0 ≤ N % 65536 := by omega
  have m4 : N % 65536 < 65536 := by omega
  clear hF
  unfold insV at HC ⊢
  go_enter Tryd.func9, Tryd.ntmps9
  go_wp2_with fail
  refine HC.out.mono ?_
  rintro e w1 ⟨rfl, hk1⟩
  have hb0 : w1.cell? ⟨w.heap.size, 0, none⟩ = some (.int .i64 k) := hk1.cell (by simp)
  have hb1 : w1.cell? ⟨w.heap.size, 1, none⟩ = some (.int .i64 D) := hk1.cell (by simp)
  have hb2 : w1.cell? ⟨w.heap.size, 2, none⟩ = some (.int .i64 A) := hk1.cell (by simp)
  have hb3 : w1.cell? ⟨w.heap.size, 3, none⟩ = some (.int .i64 B) := hk1.cell (by simp)
  have hb4 : w1.cell? ⟨w.heap.size, 4, none⟩ = some (.int .i64 N) := hk1.cell (by simp)
  have hb5 : w1.cell? ⟨w.heap.size, 5, none⟩ = some (.bool false) := hk1.cell (by simp)
  have hin : w.heap.size < w1.heap.size := lt_top hk1
  have hkw : Keeps w w1 := ((Keeps.refl w).alloc _).trans hk1
  clear HC hk1
  go_upto_region 23 with (first | (go_at_call 18; refine (HO.out _).mono ?_; rintro e w' ⟨rfl, rfl⟩) | (go_at_call 19; with_reducible refine (wrap256_any _ _ n1 n2).mono ?_; rintro e w' ⟨rfl, rfl⟩) | (go_at_call 19; with_reducible refine (wrap65536_any _ _ n1 n2).mono ?_; rintro e w' ⟨rfl, rfl⟩))
  all_goals
    (try rw [show N % 65536 / 256 = highB N by unfold highB; omega])
    obtain ⟨W3, hW3⟩ : ∃ W3 : World, W3 = w1.alloc (.cells #[.int .u8 op] 5) := ⟨_, rfl⟩
    have hk3 : Keeps w1 W3 := by rw [hW3]; exact (Keeps.refl _).alloc _
    have hbO : Blk W3 w1.heap.size (.cells #[.int .u8 op] 5) := by rw [hW3]; exact Blk.top _ _
    have hs3 : w1.heap.size < W3.heap.size := hbO.lt
    rw [← hW3]
    clear hW3
    have hg1 : w1.heap.size ≤ w1.heap.size := Nat.le_refl _
    have p1 := hk3.cell hb1
    have p2 := hk3.cell hb2
    have p3 := hk3.cell hb3
    have p4 := hk3.cell hb4
    have p5 := hk3.cell hb5
    have hin3 : w.heap.size < W3.heap.size := by omega
    have HO2 : Own W3 w1.heap.size 5 1 cu (.slice (some ⟨w1.heap.size, 0, none⟩) 1 1) [op] := Own.of_block (l := [op]) cu_len (Nat.le_refl _) hbO (by simp [maxLen])
    have HK := Lib.hid hkw
    clear hb0 hb1 hb2 hb3 hb4 hb5 hkw hbO HO
    generalize hge : w1.heap.size = g at *
    have HG := Lib.hid hge
    clear hge
    go_wp2_with (at_builtin; refine wpList_pushes (by rfl) (.tmp 88) (.tmp 97) 28 (by rfl) Tryd.underlying28 info_u8 (by rfl) (by decide) (base := g) (l := [op]) (by rfl) (by exact HO2.keep (by repeat (with_reducible (first | assumption | exact Keeps.refl _ | refine Keeps.alloc ?_ _ | refine Keeps.drew ?_ | refine Keeps.drewN ?_ _ | refine Keeps.trans' ?_ (by assumption) (by assumption))))) [B * 16 + A, lowB N] _ _ (by rfl) (by exact Blk.top' _ _ (by first | rfl | simp)) cu_len cu_one (by simp) (by simp [maxLen]) (by first | omega | (simp only [sz_alloc]; omega) | (simp only [sz_drew]; omega) | (simp only [sz_alloc, sz_drew]; omega) | (simp only [sz_alloc, sz_drewN]; omega)) ?_; intro v' w' hown hbel hgr hfr; have hle : g ≤ w'.heap.size := Nat.le_trans (by first | omega | (simp only [sz_alloc]; omega) | (simp only [sz_drew]; omega) | (simp only [sz_alloc, sz_drew]; omega) | (simp only [sz_alloc, sz_drewN]; omega)) hbel.size)
    go_wp2
    go_ret2
    refine ⟨v', rfl, ?_, HK.out.trans (by have e := HG.out; repeat (with_reducible (first | assumption | exact Keeps.refl _ | refine Keeps.alloc ?_ _ | refine Keeps.drew ?_ | refine Keeps.drewN ?_ _ | refine Keeps.trans' ?_ (by assumption) (Nat.le_of_eq e))))⟩
    have hown' : Own w' g 5 1 cu v' (op :: [B * 16 + A, lowB N]) := hown
    rw [HB.out]
    exact own_octs hown'
theorem ref_dest (k : Nat) (h1 : 16 ≤ k) (h2 : k ≤ 16) (D A B N : Int) (w : World) (hF : insFault k D A B N false = 0) :
    Calls Tryd.prog 9 #[insV k D A B N false] w (GivesE (fun v w' => Octs w' v (insBytes k D A B N false)) 0 w) := by
  obtain ⟨-, -, ⟨r1, r2, r3, r4, r5, r6⟩, n1, n2, -⟩ := insFault_zero hF
  have HC := Lib.hid (instrFault_any k D A B N false (w.alloc (.cells #[.int .i64 k, .int .i64 D, .int .i64 A, .int .i64 B, .int .i64 N, .bool false] 23)))
  rw [hF] at HC
  have HB := Lib.hid (show insBytes k D A B N false = opT k :: [D] from insBytes_dest k h1 h2 D A B N)
  have HO := Lib.hid (fun w => opOf_dest k h1 h2 w)
  obtain ⟨o1, o2, o3, o4⟩ := op_bounds k (by omega)
  generalize opT k = op at *
  generalize longT k = lop at *
  have m1 : 0 ≤ N % 256 := by omega
  have m2 : N % 256 < 256 := by omega
  have m3 : 0 ≤ N % 65536 := by omega
  have m4 : N % 65536 < 65536 := by omega
  clear hF
  unfold insV at HC ⊢
  go_enter Tryd.func9, Tryd.ntmps9
  go_wp2_with fail
  refine HC.out.mono ?_
  rintro e w1 ⟨rfl, hk1⟩
  have hb0 : w1.cell? ⟨w.heap.size, 0, none⟩ = some (.int .i64 k) := hk1.cell (by simp)
  have hb1 : w1.cell? ⟨w.heap.size, 1, none⟩ = some (.int .i64 D) := hk1.cell (by simp)
  have hb2 : w1.cell? ⟨w.heap.size, 2, none⟩ = some (.int .i64 A) := hk1.cell (by simp)
  have hb3 : w1.cell? ⟨w.heap.size, 3, none⟩ = some (.int .i64 B) := hk1.cell (by simp)
  have hb4 : w1.cell? ⟨w.heap.size, 4, none⟩ = some (.int .i64 N) := hk1.cell (by simp)
  have hb5 : w1.cell? ⟨w.heap.size, 5, none⟩ = some (.bool false) := hk1.cell (by simp)
  have hin : w.heap.size < w1.heap.size := lt_top hk1
  have hkw : Keeps w w1 := ((Keeps.refl w).alloc _).trans hk1
  clear HC hk1
  go_upto_region 25 with (first | (go_at_call 18; refine (HO.out _).mono ?_; rintro e w' ⟨rfl, rfl⟩) | (go_at_call 19; with_reducible refine (wrap256_any _ _ n1 n2).mono ?_; rintro e w' ⟨rfl, rfl⟩) | (go_at_call 19; with_reducible refine (wrap65536_any _ _ n1 n2).mono ?_; rintro e w' ⟨rfl, rfl⟩))
  all_goals
    (try rw [show N % 65536 / 256 = highB N by unfold highB; omega])
    obtain ⟨W3, hW3⟩ : ∃ W3 : World, W3 = w1.alloc (.cells #[.int .u8 op] 5) := ⟨_, rfl⟩
    have hk3 : Keeps w1 W3 := by rw [hW3]; exact (Keeps.refl _).alloc _
    have hbO : Blk W3 w1.heap.size (.cells #[.int .u8 op] 5) := by rw [hW3]; exact Blk.top _ _
    have hs3 : w1.heap.size < W3.heap.size := hbO.lt
    rw [← hW3]
    clear hW3
    have hg1 : w1.heap.size ≤ w1.heap.size := Nat.le_refl _
    have p1 := hk3.cell hb1
    have p2 := hk3.cell hb2
    have p3 := hk3.cell hb3
    have p4 := hk3.cell hb4
    have p5 := hk3.cell hb5
    have hin3 : w.heap.size < W3.heap.size := by omega
    have HO2 : Own W3 w1.heap.size 5 1 cu (.slice (some ⟨w1.heap.size, 0, none⟩) 1 1) [op] := Own.of_block (l := [op]) cu_len (Nat.le_refl _) hbO (by simp [maxLen])
    have HK := Lib.hid hkw
    clear hb0 hb1 hb2 hb3 hb4 hb5 hkw hbO HO
    generalize hge : w1.heap.size = g at *
    have HG := Lib.hid hge
    clear hge
    go_wp2_with (at_builtin; refine wpList_pushes (by rfl) (.tmp 101) (.tmp 105) 28 (by rfl) Tryd.underlying28 info_u8 (by rfl) (by decide) (base := g) (l := [op]) (by rfl) (by exact HO2.keep (by repeat (with_reducible (first | assumption | exact Keeps.refl _ | refine Keeps.alloc ?_ _ | refine Keeps.drew ?_ | refine Keeps.drewN ?_ _ | refine Keeps.trans' ?_ (by assumption) (by assumption))))) [D] _ _ (by rfl) (by exact Blk.top' _ _ (by first | rfl | simp)) cu_len cu_one (by simp) (by simp [maxLen]) (by first | omega | (simp only [sz_alloc]; omega) | (simp only [sz_drew]; omega) | (simp only [sz_alloc, sz_drew]; omega) | (simp only [sz_alloc, sz_drewN]; omega)) ?_; intro v' w' hown hbel hgr hfr; have hle : g ≤ w'.heap.size := Nat.le_trans (by first | omega | (simp only [sz_alloc]; omega) | (simp only [sz_drew]; omega) | (simp only [sz_alloc, sz_drew]; omega) | (simp only [sz_alloc, sz_drewN]; omega)) hbel.size)
    go_wp2
    go_ret2
    refine ⟨v', rfl, ?_, HK.out.trans (by have e := HG.out; repeat (with_reducible (first | assumption | exact Keeps.refl _ | refine Keeps.alloc ?_ _ | refine Keeps.drew ?_ | refine Keeps.drewN ?_ _ | refine Keeps.trans' ?_ (by assumption) (Nat.le_of_eq e))))⟩
    have hown' : Own w' g 5 1 cu v' (op :: [D]) := hown
    rw [HB.out]
    exact own_octs hown'
theorem ref_source (k : Nat) (h1 : 17 ≤ k) (h2 : k ≤ 17) (D A B N : Int) (w : World) (hF : insFault k D A B N false = 0) :
    Calls Tryd.prog 9 #[insV k D A B N false] w (GivesE (fun v w' => Octs w' v (insBytes k D A B N false)) 0 w) := by
  obtain ⟨-, -, ⟨r1, r2, r3, r4, r5, r6⟩, n1, n2, -⟩ := insFault_zero hF
  have HC := Lib.hid (instrFault_any k D A B N false (w.alloc (.cells #[.int .i64 k, .int .i64 D, .int .i64 A, .int .i64 B, .int .i64 N, .bool false] 23)))
  rw [hF] at HC
  have HB := Lib.hid (show insBytes k D A B N false = opT k :: [A] from insBytes_source k h1 h2 D A B N)
  have HO := Lib.hid (fun w => opOf_source k h1 h2 w)
  obtain ⟨o1, o2, o3, o4⟩ := op_bounds k (by omega)
  generalize opT k = op at *
  generalize longT k = lop at *
  have m1 : 0 ≤ N % 256 := by omega
  have m2 : N % 256 < 256 := by omega
  have m3 : 0 ≤ N % 65536 := by omega
  have m4 : N % 65536 < 65536 := by omega
  clear hF
  unfold insV at HC ⊢
  go_enter Tryd.func9, Tryd.ntmps9
  go_wp2_with fail
  refine HC.out.mono ?_
  rintro e w1 ⟨rfl, hk1⟩
  have hb0 : w1.cell? ⟨w.heap.size, 0, none⟩ = some (.int .i64 k) := hk1.cell (by simp)
  have hb1 : w1.cell? ⟨w.heap.size, 1, none⟩ = some (.int .i64 D) := hk1.cell (by simp)
  have hb2 : w1.cell? ⟨w.heap.size, 2, none⟩ = some (.int .i64 A) := hk1.cell (by simp)
  have hb3 : w1.cell? ⟨w.heap.size, 3, none⟩ = some (.int .i64 B) := hk1.cell (by simp)
  have hb4 : w1.cell? ⟨w.heap.size, 4, none⟩ = some (.int .i64 N) := hk1.cell (by simp)
  have hb5 : w1.cell? ⟨w.heap.size, 5, none⟩ = some (.bool false) := hk1.cell (by simp)
  have hin : w.heap.size < w1.heap.size := lt_top hk1
  have hkw : Keeps w w1 := ((Keeps.refl w).alloc _).trans hk1
  clear HC hk1
  go_upto_region 27 with (first | (go_at_call 18; refine (HO.out _).mono ?_; rintro e w' ⟨rfl, rfl⟩) | (go_at_call 19; with_reducible refine (wrap256_any _ _ n1 n2).mono ?_; rintro e w' ⟨rfl, rfl⟩) | (go_at_call 19; with_reducible refine (wrap65536_any _ _ n1 n2).mono ?_; rintro e w' ⟨rfl, rfl⟩))
  all_goals
    (try rw [show N % 65536 / 256 = highB N by unfold highB; omega])
    obtain ⟨W3, hW3⟩ : ∃ W3 : World, W3 = w1.alloc (.cells #[.int .u8 op] 5) := ⟨_, rfl⟩
    have hk3 : Keeps w1 W3 := by rw [hW3]; exact (Keeps.refl _).alloc _
    have hbO : Blk W3 w1.heap.size (.cells #[.int .u8 op] 5) := by rw [hW3]; exact Blk.top _ _
    have hs3 : w1.heap.size < W3.heap.size := hbO.lt
    rw [← hW3]
    clear hW3
    have hg1 : w1.heap.size ≤ w1.heap.size := Nat.le_refl _
    have p1 := hk3.cell hb1
    have p2 := hk3.cell hb2
    have p3 := hk3.cell hb3
    have p4 := hk3.cell hb4
    have p5 := hk3.cell hb5
    have hin3 : w.heap.size < W3.heap.size := by omega
    have HO2 : Own W3 w1.heap.size 5 1 cu (.slice (some ⟨w1.heap.size, 0, none⟩) 1 1) [op] := Own.of_block (l := [op]) cu_len (Nat.le_refl _) hbO (by simp [maxLen])
    have HK := Lib.hid hkw
    clear hb0 hb1 hb2 hb3 hb4 hb5 hkw hbO HO
    generalize hge : w1.heap.size = g at *
    have HG := Lib.hid hge
    clear hge
    go_wp2_with (at_builtin; refine wpList_pushes (by rfl) (.tmp 109) (.tmp 113) 28 (by rfl) Tryd.underlying28 info_u8 (by rfl) (by decide) (base := g) (l := [op]) (by rfl) (by exact HO2.keep (by repeat (with_reducible (first | assumption | exact Keeps.refl _ | refine Keeps.alloc ?_ _ | refine Keeps.drew ?_ | refine Keeps.drewN ?_ _ | refine Keeps.trans' ?_ (by assumption) (by assumption))))) [A] _ _ (by rfl) (by exact Blk.top' _ _ (by first | rfl | simp)) cu_len cu_one (by simp) (by simp [maxLen]) (by first | omega | (simp only [sz_alloc]; omega) | (simp only [sz_drew]; omega) | (simp only [sz_alloc, sz_drew]; omega) | (simp only [sz_alloc, sz_drewN]; omega)) ?_; intro v' w' hown hbel hgr hfr; have hle : g ≤ w'.heap.size := Nat.le_trans (by first | omega | (simp only [sz_alloc]; omega) | (simp only [sz_drew]; omega) | (simp only [sz_alloc, sz_drew]; omega) | (simp only [sz_alloc, sz_drewN]; omega)) hbel.size)
    go_wp2
    go_ret2
    refine ⟨v', rfl, ?_, HK.out.trans (by have e := HG.out; repeat (with_reducible (first | assumption | exact Keeps.refl _ | refine Keeps.alloc ?_ _ | refine Keeps.drew ?_ | refine Keeps.drewN ?_ _ | refine Keeps.trans' ?_ (by assumption) (Nat.le_of_eq e))))⟩
    have hown' : Own w' g 5 1 cu v' (op :: [A]) := hown
    rw [HB.out]
    exact own_octs hown'
end Go.Proofs.YtckofmijaiahbaaDoor
