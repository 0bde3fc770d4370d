/-
  isa.Encode, kind by kind: the bytes of an instruction that may be.
-/
import Derived.Test.YtckofmijaiahbaaDoorIsaEnc0
import Derived.Deep.RegionHeld3
import Derived.Deep.DeepCutAuto
namespace Go.Proofs.YtckofmijaiahbaaDoor
open Go.RowKit BH
set_option maxHeartbeats 2000000
set_option maxRecDepth 100000
theorem insBytes_bare (k : Nat) (_h1 : 1 ≤ k) (h2 : k ≤ 4) (D A B N : Int) : insBytes k D A B N false = (bif false then longT k else opT k) :: [] := by
  unfold insBytes
  rw [if_pos (by omega)]
theorem insBytes_wide (k : Nat) (h1 : 5 ≤ k) (h2 : k ≤ 5) (D A B N : Int) : insBytes k D A B N false = (bif false then longT k else opT k) :: [D, lowB N, highB N] := by
  unfold insBytes
  rw [if_neg (by omega), if_pos (by omega)]
theorem insBytes_pairA (k : Nat) (h1 : 6 ≤ k) (h2 : k ≤ 6) (D A B N : Int) : insBytes k D A B N false = (bif false then longT k else opT k) :: [D * 16 + A, lowB N] := by
  unfold insBytes
  rw [if_neg (by omega), if_neg (by omega), if_pos (by omega)]
theorem insBytes_three (k : Nat) (h1 : 7 ≤ k) (h2 : k ≤ 13) (D A B N : Int) : insBytes k D A B N false = (bif false then longT k else opT k) :: [D * 16 + A, B] := by
  unfold insBytes
  rw [if_neg (by omega), if_neg (by omega), if_neg (by omega), if_pos (by omega)]
theorem insBytes_pairB (k : Nat) (h1 : 14 ≤ k) (h2 : k ≤ 14) (D A B N : Int) : insBytes k D A B N false = (bif false then longT k else opT k) :: [D * 16 + A, lowB N] := by
  unfold insBytes
  rw [if_neg (by omega), if_neg (by omega), if_neg (by omega), if_neg (by omega), if_pos (by omega)]
theorem insBytes_store (k : Nat) (h1 : 15 ≤ k) (h2 : k ≤ 15) (D A B N : Int) : insBytes k D A B N false = (bif false then longT k else opT k) :: [B * 16 + A, lowB N] := by
  unfold insBytes
  rw [if_neg (by omega), if_neg (by omega), if_neg (by omega), if_neg (by omega), if_neg (by omega), if_pos (by omega)]
theorem insBytes_dest (k : Nat) (h1 : 16 ≤ k) (h2 : k ≤ 16) (D A B N : Int) : insBytes k D A B N false = (bif false then longT k else opT k) :: [D] := by
  unfold insBytes
  rw [if_neg (by omega), if_neg (by omega), if_neg (by omega), if_neg (by omega), if_neg (by omega), if_neg (by omega), if_pos (by omega)]
theorem insBytes_source (k : Nat) (h1 : 17 ≤ k) (h2 : k ≤ 17) (D A B N : Int) : insBytes k D A B N false = (bif false then longT k else opT k) :: [A] := by
  unfold insBytes
  rw [if_neg (by omega), if_neg (by omega), if_neg (by omega), if_neg (by omega), if_neg (by omega), if_neg (by omega), if_neg (by omega), if_pos (by omega)]
theorem insBytes_branch (k : Nat) (h1 : 18 ≤ k) (h2 : k ≤ 21) (D A B N : Int) (Lg : Bool) : insBytes k D A B N Lg = (bif Lg then longT k else opT k) :: (A * 16 + B) :: lastB N Lg := by
  unfold insBytes
  rw [if_neg (by omega), if_neg (by omega), if_neg (by omega), if_neg (by omega), if_neg (by omega), if_neg (by omega), if_neg (by omega), if_neg (by omega), if_pos (by omega)]
theorem insBytes_jump (k : Nat) (h1 : 22 ≤ k) (h2 : k ≤ 22) (D A B N : Int) (Lg : Bool) : insBytes k D A B N Lg = (bif Lg then longT k else opT k) :: lastB N Lg := by
  unfold insBytes
  rw [if_neg (by omega), if_neg (by omega), if_neg (by omega), if_neg (by omega), if_neg (by omega), if_neg (by omega), if_neg (by omega), if_neg (by omega), if_neg (by omega), if_pos (by omega)]
theorem insBytes_call (k : Nat) (h1 : 23 ≤ k) (h2 : k ≤ 23) (D A B N : Int) : insBytes k D A B N false = (bif false then longT k else opT k) :: [lowB N, highB N] := by
  unfold insBytes
  rw [if_neg (by omega), if_neg (by omega), if_neg (by omega), if_neg (by omega), if_neg (by omega), if_neg (by omega), if_neg (by omega), if_neg (by omega), if_neg (by omega), if_neg (by omega), if_pos (by omega)]
theorem insBytes_table (k : Nat) (h1 : 24 ≤ k) (h2 : k ≤ 24) (D A B N : Int) : insBytes k D A B N false = (bif false then longT k else opT k) :: [A, lowB N] := by
  unfold insBytes
  rw [if_neg (by omega), if_neg (by omega), if_neg (by omega), if_neg (by omega), if_neg (by omega), if_neg (by omega), if_neg (by omega), if_neg (by omega), if_neg (by omega), if_neg (by omega), if_neg (by omega)]
theorem enc_bare (k : Nat) (h1 : 1 ≤ k) (h2 : k ≤ 4) (D A B N : Int) (w : World) (ht : Tab w) (hF : insFault k D A B N false = 0) :
    Calls Tryd.prog 8 #[insV k D A B N false] w (GivesE (fun v w' => Octs w' v (insBytes k D A B N false)) 0 w) := by
  obtain ⟨-, -, ⟨r1, r2, r3, r4, r5, r6⟩, n1, n2, -⟩ := insFault_zero hF
  have HC := Lib.hid (check_any k D A B N false _ (ht.keep ((Keeps.refl w).alloc (.cells #[.int .i64 k, .int .i64 D, .int .i64 A, .int .i64 B, .int .i64 N, .bool false] 23))))
  rw [hF] at HC
  obtain ⟨hs, hl⟩ := row_bare k h1 h2
  obtain ⟨c0, c1, c2⟩ := ht k (by omega)
  rw [hs] at c2
  have HB := Lib.hid (show insBytes k D A B N false = opT k :: [] from insBytes_bare k h1 h2 D A B N)
  generalize opT k = op at *
  generalize longT k = lop at *
  have hG : 1 < w.heap.size := lt_of_cell c0
  clear hs ht hF hl
  unfold insV at HC ⊢
  go_enter Tryd.func8, Tryd.ntmps8
  go_wp2_with fail
  refine HC.out.mono ?_
  rintro e w1 ⟨rfl, hk1⟩
  have hz := lt_top hk1
  have hb0 : w1.cell? ⟨w.heap.size, 0, none⟩ = some (.int .i64 k) := hk1.cell (by simp)
  have hb1 : w1.cell? ⟨w.heap.size, 1, none⟩ = some (.int .i64 D) := hk1.cell (by simp)
  have hb2 : w1.cell? ⟨w.heap.size, 2, none⟩ = some (.int .i64 A) := hk1.cell (by simp)
  have hb3 : w1.cell? ⟨w.heap.size, 3, none⟩ = some (.int .i64 B) := hk1.cell (by simp)
  have hb4 : w1.cell? ⟨w.heap.size, 4, none⟩ = some (.int .i64 N) := hk1.cell (by simp)
  have hb5 : w1.cell? ⟨w.heap.size, 5, none⟩ = some (.bool false) := hk1.cell (by simp)
  have d0 : w1.cell? ⟨1, k * 3, none⟩ = some (.int .u8 op) := (((Keeps.refl w).alloc _).trans hk1).cell c0
  have d1 : w1.cell? ⟨1, k * 3 + 1, none⟩ = some (.int .u8 lop) := (((Keeps.refl w).alloc _).trans hk1).cell c1
  have d2 : w1.cell? ⟨1, k * 3 + 2, none⟩ = some (.int .i64 1) := (((Keeps.refl w).alloc _).trans hk1).cell c2
  have hkw : Keeps w w1 := ((Keeps.refl w).alloc _).trans hk1
  clear c0 c1 c2 HC hk1
  go_wp2_with fail
  go_ret2
  refine ⟨_, rfl, ?_, hkw.trans (by repeat (with_reducible (first | assumption | exact Keeps.refl _ | refine Keeps.alloc ?_ _ | refine Keeps.drew ?_ | refine Keeps.drewN ?_ _ | refine Keeps.trans' ?_ (by assumption) (by assumption))))⟩
  rw [HB.out]
  exact own_octs (base := w1.heap.size) (Own.of_block (l := [op]) cu_len (by omega) (Blk.top' _ _ (by simp)) (by simp [maxLen]))
theorem enc_wide (k : Nat) (h1 : 5 ≤ k) (h2 : k ≤ 5) (D A B N : Int) (w : World) (ht : Tab w) (hF : insFault k D A B N false = 0) :
    Calls Tryd.prog 8 #[insV k D A B N false] w (GivesE (fun v w' => Octs w' v (insBytes k D A B N false)) 0 w) := by
  obtain ⟨-, -, ⟨r1, r2, r3, r4, r5, r6⟩, n1, n2, -⟩ := insFault_zero hF
  have HC := Lib.hid (check_any k D A B N false _ (ht.keep ((Keeps.refl w).alloc (.cells #[.int .i64 k, .int .i64 D, .int .i64 A, .int .i64 B, .int .i64 N, .bool false] 23))))
  rw [hF] at HC
  obtain ⟨hs, hl⟩ := row_wide k h1 h2
  obtain ⟨c0, c1, c2⟩ := ht k (by omega)
  rw [hs] at c2
  have HB := Lib.hid (show insBytes k D A B N false = opT k :: [D, lowB N, highB N] from insBytes_wide k h1 h2 D A B N)
  generalize opT k = op at *
  generalize longT k = lop at *
  have hG : 1 < w.heap.size := lt_of_cell c0
  clear hs ht hF hl
  unfold insV at HC ⊢
  go_enter Tryd.func8, Tryd.ntmps8
  go_wp2_with fail
  refine HC.out.mono ?_
  rintro e w1 ⟨rfl, hk1⟩
  have hz := lt_top hk1
  have hb0 : w1.cell? ⟨w.heap.size, 0, none⟩ = some (.int .i64 k) := hk1.cell (by simp)
  have hb1 : w1.cell? ⟨w.heap.size, 1, none⟩ = some (.int .i64 D) := hk1.cell (by simp)
  have hb2 : w1.cell? ⟨w.heap.size, 2, none⟩ = some (.int .i64 A) := hk1.cell (by simp)
  have hb3 : w1.cell? ⟨w.heap.size, 3, none⟩ = some (.int .i64 B) := hk1.cell (by simp)
  have hb4 : w1.cell? ⟨w.heap.size, 4, none⟩ = some (.int .i64 N) := hk1.cell (by simp)
  have hb5 : w1.cell? ⟨w.heap.size, 5, none⟩ = some (.bool false) := hk1.cell (by simp)
  have d0 : w1.cell? ⟨1, k * 3, none⟩ = some (.int .u8 op) := (((Keeps.refl w).alloc _).trans hk1).cell c0
  have d1 : w1.cell? ⟨1, k * 3 + 1, none⟩ = some (.int .u8 lop) := (((Keeps.refl w).alloc _).trans hk1).cell c1
  have d2 : w1.cell? ⟨1, k * 3 + 2, none⟩ = some (.int .i64 2) := (((Keeps.refl w).alloc _).trans hk1).cell c2
  have hkw : Keeps w w1 := ((Keeps.refl w).alloc _).trans hk1
  clear c0 c1 c2 HC hk1
  obtain ⟨W3, hW3, hk3, hbL, hbO, hs3⟩ := three_blocks w1 (.cells #[.int .u8 op, .int .u8 lop, .int .i64 2] 39) (.cells #[.int .u8 (N % 256)] 5) (.cells #[.int .u8 op] 5)
  have HW := Lib.hid hW3
  clear hW3
  go_upto_region 12 with fail
  rw [← HW.out]
  have hg1 : w1.heap.size ≤ w1.heap.size + 1 + 1 := by omega
  have hg2 : w1.heap.size + 1 < w1.heap.size + 1 + 1 := by omega
  generalize w1.heap.size + 1 + 1 = g at hbO hs3 hg1 hg2 ⊢
  generalize w1.heap.size + 1 = gl at hbL hg2 ⊢
  have HO : Own W3 g 5 1 cu (.slice (some ⟨g, 0, none⟩) 1 1) [op] := Own.of_block (l := [op]) cu_len (Nat.le_refl _) hbO (by simp [maxLen])
  have HL : Blk W3 gl (.cells (([lowB N] : List Int).flatMap cu).toArray 5) := hbL
  have HK := Lib.hid hkw
  have hb3s := hk3.size
  have p1 := hk3.cell hb1
  have p2 := hk3.cell hb2
  have p3 := hk3.cell hb3
  have p4 := hk3.cell hb4
  have hin : w.heap.size < W3.heap.size := by omega
  clear hb0 hb5 d0 d1 d2 hkw hz hG hbL
  go_region_held3 (fun w' => w'.cell? ⟨w.heap.size, 1, none⟩ = some (.int .i64 D) ∧ w'.cell? ⟨w.heap.size, 4, none⟩ = some (.int .i64 N))
    (exact ⟨Keeps.cell (by repeat (with_reducible (first | assumption | exact Keeps.refl _ | refine Keeps.alloc ?_ _ | refine Keeps.drew ?_ | refine Keeps.drewN ?_ _ | refine Keeps.trans' ?_ (by assumption) (by assumption)))) hb1, Keeps.cell (by repeat (with_reducible (first | assumption | exact Keeps.refl _ | refine Keeps.alloc ?_ _ | refine Keeps.drew ?_ | refine Keeps.drewN ?_ _ | refine Keeps.trans' ?_ (by assumption) (by assumption)))) hb4⟩)
    ((first
      | (go_at_call 16; refine (two_any _ _).mono ?_; rintro e w' ⟨rfl, rfl⟩)
      | (refine step_pushes (by rfl) (.tmp 37) (.tmp 41) 28 (by rfl) Tryd.underlying28 info_u8 (by rfl) (by decide) (base := g) (l := [op]) (by rfl) (by exact HO.keep (by repeat (with_reducible (first | assumption | exact Keeps.refl _ | refine Keeps.alloc ?_ _ | refine Keeps.drew ?_ | refine Keeps.drewN ?_ _ | refine Keeps.trans' ?_ (by assumption) (by assumption))))) [D % 256] _ _ (by rfl) (by exact Blk.top' _ _ (by first | rfl | simp)) cu_len cu_one (by simp) (by simp [maxLen]) (by first | omega | (simp only [sz_alloc]; omega) | (simp only [sz_drew]; omega) | (simp only [sz_alloc, sz_drew]; omega) | (simp only [sz_alloc, sz_drewN]; omega)) ?_; intro v' w' hown hbel hgr hfr; have hle : g ≤ w'.heap.size := Nat.le_trans (by first | omega | (simp only [sz_alloc]; omega) | (simp only [sz_drew]; omega) | (simp only [sz_alloc, sz_drew]; omega) | (simp only [sz_alloc, sz_drewN]; omega)) hbel.size)
      | (refine step_pushes (by rfl) (.tmp 42) (.tmp 45) 28 (by rfl) Tryd.underlying28 info_u8 (by rfl) (by decide) (base := g) (l := [op, D % 256]) (by rfl) (by exact hown.keep (by repeat (with_reducible (first | assumption | exact Keeps.refl _ | refine Keeps.alloc ?_ _ | refine Keeps.drew ?_ | refine Keeps.drewN ?_ _ | refine Keeps.trans' ?_ (by assumption) (by assumption))))) [lowB N, highB N] _ _ (by rfl) (by exact Blk.top' _ _ (by first | rfl | simp)) cu_len cu_one (by simp) (by simp [maxLen]) (by first | omega | (simp only [sz_alloc]; omega) | (simp only [sz_drew]; omega) | (simp only [sz_alloc, sz_drew]; omega) | (simp only [sz_alloc, sz_drewN]; omega)) ?_; intro v2' w2' hown2 hbel2 hgr2 hfr2; have hle2 : g ≤ w2'.heap.size := Nat.le_trans (by first | omega | (simp only [sz_alloc]; omega) | (simp only [sz_drew]; omega) | (simp only [sz_alloc, sz_drew]; omega) | (simp only [sz_alloc, sz_drewN]; omega)) hbel2.size)))
  go_wp2
  go_ret2
  rw [show D % 256 = D by omega] at hown2
  refine ⟨v2', rfl, ?_, HK.out.trans (by repeat (with_reducible (first | assumption | exact Keeps.refl _ | refine Keeps.alloc ?_ _ | refine Keeps.drew ?_ | refine Keeps.drewN ?_ _ | refine Keeps.trans' ?_ (by assumption) (by assumption))))⟩
  have hown' : Own w2' g 5 1 cu v2' (op :: [D, lowB N, highB N]) := hown2
  rw [HB.out]
  exact own_octs hown'
theorem enc_pairA (k : Nat) (h1 : 6 ≤ k) (h2 : k ≤ 6) (D A B N : Int) (w : World) (ht : Tab w) (hF : insFault k D A B N false = 0) :
    Calls Tryd.prog 8 #[insV k D A B N false] w (GivesE (fun v w' => Octs w' v (insBytes k D A B N false)) 0 w) := by
  obtain ⟨-, -, ⟨r1, r2, r3, r4, r5, r6⟩, n1, n2, -⟩ := insFault_zero hF
  have HC := Lib.hid (check_any k D A B N false _ (ht.keep ((Keeps.refl w).alloc (.cells #[.int .i64 k, .int .i64 D, .int .i64 A, .int .i64 B, .int .i64 N, .bool false] 23))))
  rw [hF] at HC
  obtain ⟨hs, hl⟩ := row_pairA k h1 h2
  obtain ⟨c0, c1, c2⟩ := ht k (by omega)
  rw [hs] at c2
  have HB := Lib.hid (show insBytes k D A B N false = opT k :: [D * 16 + A, lowB N] from insBytes_pairA k h1 h2 D A B N)
  generalize opT k = op at *
  generalize longT k = lop at *
  have hG : 1 < w.heap.size := lt_of_cell c0
  clear hs ht hF hl
  unfold insV at HC ⊢
  go_enter Tryd.func8, Tryd.ntmps8
  go_wp2_with fail
  refine HC.out.mono ?_
  rintro e w1 ⟨rfl, hk1⟩
  have hz := lt_top hk1
  have hb0 : w1.cell? ⟨w.heap.size, 0, none⟩ = some (.int .i64 k) := hk1.cell (by simp)
  have hb1 : w1.cell? ⟨w.heap.size, 1, none⟩ = some (.int .i64 D) := hk1.cell (by simp)
  have hb2 : w1.cell? ⟨w.heap.size, 2, none⟩ = some (.int .i64 A) := hk1.cell (by simp)
  have hb3 : w1.cell? ⟨w.heap.size, 3, none⟩ = some (.int .i64 B) := hk1.cell (by simp)
  have hb4 : w1.cell? ⟨w.heap.size, 4, none⟩ = some (.int .i64 N) := hk1.cell (by simp)
  have hb5 : w1.cell? ⟨w.heap.size, 5, none⟩ = some (.bool false) := hk1.cell (by simp)
  have d0 : w1.cell? ⟨1, k * 3, none⟩ = some (.int .u8 op) := (((Keeps.refl w).alloc _).trans hk1).cell c0
  have d1 : w1.cell? ⟨1, k * 3 + 1, none⟩ = some (.int .u8 lop) := (((Keeps.refl w).alloc _).trans hk1).cell c1
  have d2 : w1.cell? ⟨1, k * 3 + 2, none⟩ = some (.int .i64 3) := (((Keeps.refl w).alloc _).trans hk1).cell c2
  have hkw : Keeps w w1 := ((Keeps.refl w).alloc _).trans hk1
  clear c0 c1 c2 HC hk1
  obtain ⟨W3, hW3, hk3, hbL, hbO, hs3⟩ := three_blocks w1 (.cells #[.int .u8 op, .int .u8 lop, .int .i64 3] 39) (.cells #[.int .u8 (N % 256)] 5) (.cells #[.int .u8 op] 5)
  have HW := Lib.hid hW3
  clear hW3
  go_upto_region 14 with fail
  rw [← HW.out]
  have hg1 : w1.heap.size ≤ w1.heap.size + 1 + 1 := by omega
  have hg2 : w1.heap.size + 1 < w1.heap.size + 1 + 1 := by omega
  generalize w1.heap.size + 1 + 1 = g at hbO hs3 hg1 hg2 ⊢
  generalize w1.heap.size + 1 = gl at hbL hg2 ⊢
  have HO : Own W3 g 5 1 cu (.slice (some ⟨g, 0, none⟩) 1 1) [op] := Own.of_block (l := [op]) cu_len (Nat.le_refl _) hbO (by simp [maxLen])
  have HL : Blk W3 gl (.cells (([lowB N] : List Int).flatMap cu).toArray 5) := hbL
  have HK := Lib.hid hkw
  have hb3s := hk3.size
  have p1 := hk3.cell hb1
  have p2 := hk3.cell hb2
  have p3 := hk3.cell hb3
  have p4 := hk3.cell hb4
  have hin : w.heap.size < W3.heap.size := by omega
  clear hb0 hb5 d0 d1 d2 hkw hz hG hbL
  go_region_held3 (fun w' => w'.cell? ⟨w.heap.size, 1, none⟩ = some (.int .i64 D) ∧ w'.cell? ⟨w.heap.size, 2, none⟩ = some (.int .i64 A) ∧ w'.cell? ⟨w.heap.size, 4, none⟩ = some (.int .i64 N))
    (exact ⟨Keeps.cell (by repeat (with_reducible (first | assumption | exact Keeps.refl _ | refine Keeps.alloc ?_ _ | refine Keeps.drew ?_ | refine Keeps.drewN ?_ _ | refine Keeps.trans' ?_ (by assumption) (by assumption)))) hb1, Keeps.cell (by repeat (with_reducible (first | assumption | exact Keeps.refl _ | refine Keeps.alloc ?_ _ | refine Keeps.drew ?_ | refine Keeps.drewN ?_ _ | refine Keeps.trans' ?_ (by assumption) (by assumption)))) hb2, Keeps.cell (by repeat (with_reducible (first | assumption | exact Keeps.refl _ | refine Keeps.alloc ?_ _ | refine Keeps.drew ?_ | refine Keeps.drewN ?_ _ | refine Keeps.trans' ?_ (by assumption) (by assumption)))) hb4⟩)
    ((first
      | (go_at_call 17; refine (nibbles_any _ _ _ r1 r2 r3 r4).mono ?_; rintro e w' ⟨rfl, rfl⟩)
      | (refine step_pushes (by rfl) (.tmp 49) (.tmp 58) 28 (by rfl) Tryd.underlying28 info_u8 (by rfl) (by decide) (base := g) (l := [op]) (by rfl) (by exact HO.keep (by repeat (with_reducible (first | assumption | exact Keeps.refl _ | refine Keeps.alloc ?_ _ | refine Keeps.drew ?_ | refine Keeps.drewN ?_ _ | refine Keeps.trans' ?_ (by assumption) (by assumption))))) [D * 16 + A, N % 256] _ _ (by rfl) (by exact Blk.top' _ _ (by first | rfl | simp)) cu_len cu_one (by simp) (by simp [maxLen]) (by first | omega | (simp only [sz_alloc]; omega) | (simp only [sz_drew]; omega) | (simp only [sz_alloc, sz_drew]; omega) | (simp only [sz_alloc, sz_drewN]; omega)) ?_; intro v' w' hown hbel hgr hfr; have hle : g ≤ w'.heap.size := Nat.le_trans (by first | omega | (simp only [sz_alloc]; omega) | (simp only [sz_drew]; omega) | (simp only [sz_alloc, sz_drew]; omega) | (simp only [sz_alloc, sz_drewN]; omega)) hbel.size)))
  go_wp2
  go_ret2
  refine ⟨v', rfl, ?_, HK.out.trans (by repeat (with_reducible (first | assumption | exact Keeps.refl _ | refine Keeps.alloc ?_ _ | refine Keeps.drew ?_ | refine Keeps.drewN ?_ _ | refine Keeps.trans' ?_ (by assumption) (by assumption))))⟩
  have hown' : Own w' g 5 1 cu v' (op :: [D * 16 + A, lowB N]) := hown
  rw [HB.out]
  exact own_octs hown'
theorem enc_three (k : Nat) (h1 : 7 ≤ k) (h2 : k ≤ 13) (D A B N : Int) (w : World) (ht : Tab w) (hF : insFault k D A B N false = 0) :
    Calls Tryd.prog 8 #[insV k D A B N false] w (GivesE (fun v w' => Octs w' v (insBytes k D A B N false)) 0 w) := by
  obtain ⟨-, -, ⟨r1, r2, r3, r4, r5, r6⟩, n1, n2, -⟩ := insFault_zero hF
  have HC := Lib.hid (check_any k D A B N false _ (ht.keep ((Keeps.refl w).alloc (.cells #[.int .i64 k, .int .i64 D, .int .i64 A, .int .i64 B, .int .i64 N, .bool false] 23))))
  rw [hF] at HC
  obtain ⟨hs, hl⟩ := row_three k h1 h2
  obtain ⟨c0, c1, c2⟩ := ht k (by omega)
  rw [hs] at c2
  have HB := Lib.hid (show insBytes k D A B N false = opT k :: [D * 16 + A, B] from insBytes_three k h1 h2 D A B N)
  generalize opT k = op at *
  generalize longT k = lop at *
  have hG : 1 < w.heap.size := lt_of_cell c0
  clear hs ht hF hl
  unfold insV at HC ⊢
  go_enter Tryd.func8, Tryd.ntmps8
  go_wp2_with fail
  refine HC.out.mono ?_
  rintro e w1 ⟨rfl, hk1⟩
  have hz := lt_top hk1
  have hb0 : w1.cell? ⟨w.heap.size, 0, none⟩ = some (.int .i64 k) := hk1.cell (by simp)
  have hb1 : w1.cell? ⟨w.heap.size, 1, none⟩ = some (.int .i64 D) := hk1.cell (by simp)
  have hb2 : w1.cell? ⟨w.heap.size, 2, none⟩ = some (.int .i64 A) := hk1.cell (by simp)
  have hb3 : w1.cell? ⟨w.heap.size, 3, none⟩ = some (.int .i64 B) := hk1.cell (by simp)
  have hb4 : w1.cell? ⟨w.heap.size, 4, none⟩ = some (.int .i64 N) := hk1.cell (by simp)
  have hb5 : w1.cell? ⟨w.heap.size, 5, none⟩ = some (.bool false) := hk1.cell (by simp)
  have d0 : w1.cell? ⟨1, k * 3, none⟩ = some (.int .u8 op) := (((Keeps.refl w).alloc _).trans hk1).cell c0
  have d1 : w1.cell? ⟨1, k * 3 + 1, none⟩ = some (.int .u8 lop) := (((Keeps.refl w).alloc _).trans hk1).cell c1
  have d2 : w1.cell? ⟨1, k * 3 + 2, none⟩ = some (.int .i64 4) := (((Keeps.refl w).alloc _).trans hk1).cell c2
  have hkw : Keeps w w1 := ((Keeps.refl w).alloc _).trans hk1
  clear c0 c1 c2 HC hk1
  obtain ⟨W3, hW3, hk3, hbL, hbO, hs3⟩ := three_blocks w1 (.cells #[.int .u8 op, .int .u8 lop, .int .i64 4] 39) (.cells #[.int .u8 (N % 256)] 5) (.cells #[.int .u8 op] 5)
  have HW := Lib.hid hW3
  clear hW3
  go_upto_region 16 with fail
  rw [← HW.out]
  have hg1 : w1.heap.size ≤ w1.heap.size + 1 + 1 := by omega
  have hg2 : w1.heap.size + 1 < w1.heap.size + 1 + 1 := by omega
  generalize w1.heap.size + 1 + 1 = g at hbO hs3 hg1 hg2 ⊢
  generalize w1.heap.size + 1 = gl at hbL hg2 ⊢
  have HO : Own W3 g 5 1 cu (.slice (some ⟨g, 0, none⟩) 1 1) [op] := Own.of_block (l := [op]) cu_len (Nat.le_refl _) hbO (by simp [maxLen])
  have HL : Blk W3 gl (.cells (([lowB N] : List Int).flatMap cu).toArray 5) := hbL
  have HK := Lib.hid hkw
  have hb3s := hk3.size
  have p1 := hk3.cell hb1
  have p2 := hk3.cell hb2
  have p3 := hk3.cell hb3
  have p4 := hk3.cell hb4
  have hin : w.heap.size < W3.heap.size := by omega
  clear hb0 hb5 d0 d1 d2 hkw hz hG hbL
  go_region_held3 (fun w' => w'.cell? ⟨w.heap.size, 1, none⟩ = some (.int .i64 D) ∧ w'.cell? ⟨w.heap.size, 2, none⟩ = some (.int .i64 A) ∧ w'.cell? ⟨w.heap.size, 3, none⟩ = some (.int .i64 B))
    (exact ⟨Keeps.cell (by repeat (with_reducible (first | assumption | exact Keeps.refl _ | refine Keeps.alloc ?_ _ | refine Keeps.drew ?_ | refine Keeps.drewN ?_ _ | refine Keeps.trans' ?_ (by assumption) (by assumption)))) hb1, Keeps.cell (by repeat (with_reducible (first | assumption | exact Keeps.refl _ | refine Keeps.alloc ?_ _ | refine Keeps.drew ?_ | refine Keeps.drewN ?_ _ | refine Keeps.trans' ?_ (by assumption) (by assumption)))) hb2, Keeps.cell (by repeat (with_reducible (first | assumption | exact Keeps.refl _ | refine Keeps.alloc ?_ _ | refine Keeps.drew ?_ | refine Keeps.drewN ?_ _ | refine Keeps.trans' ?_ (by assumption) (by assumption)))) hb3⟩)
    ((first
      | (go_at_call 17; refine (nibbles_any _ _ _ r1 r2 r3 r4).mono ?_; rintro e w' ⟨rfl, rfl⟩)
      | (refine step_pushes (by rfl) (.tmp 62) (.tmp 71) 28 (by rfl) Tryd.underlying28 info_u8 (by rfl) (by decide) (base := g) (l := [op]) (by rfl) (by exact HO.keep (by repeat (with_reducible (first | assumption | exact Keeps.refl _ | refine Keeps.alloc ?_ _ | refine Keeps.drew ?_ | refine Keeps.drewN ?_ _ | refine Keeps.trans' ?_ (by assumption) (by assumption))))) [D * 16 + A, B % 256] _ _ (by rfl) (by exact Blk.top' _ _ (by first | rfl | simp)) cu_len cu_one (by simp) (by simp [maxLen]) (by first | omega | (simp only [sz_alloc]; omega) | (simp only [sz_drew]; omega) | (simp only [sz_alloc, sz_drew]; omega) | (simp only [sz_alloc, sz_drewN]; omega)) ?_; intro v' w' hown hbel hgr hfr; have hle : g ≤ w'.heap.size := Nat.le_trans (by first | omega | (simp only [sz_alloc]; omega) | (simp only [sz_drew]; omega) | (simp only [sz_alloc, sz_drew]; omega) | (simp only [sz_alloc, sz_drewN]; omega)) hbel.size)))
  go_wp2
  go_ret2
  rw [show B % 256 = B by omega] at hown
  refine ⟨v', rfl, ?_, HK.out.trans (by repeat (with_reducible (first | assumption | exact Keeps.refl _ | refine Keeps.alloc ?_ _ | refine Keeps.drew ?_ | refine Keeps.drewN ?_ _ | refine Keeps.trans' ?_ (by assumption) (by assumption))))⟩
  have hown' : Own w' g 5 1 cu v' (op :: [D * 16 + A, B]) := hown
  rw [HB.out]
  exact own_octs hown'
theorem enc_pairB (k : Nat) (h1 : 14 ≤ k) (h2 : k ≤ 14) (D A B N : Int) (w : World) (ht : Tab w) (hF : insFault k D A B N false = 0) :
    Calls Tryd.prog 8 #[insV k D A B N false] w (GivesE (fun v w' => Octs w' v (insBytes k D A B N false)) 0 w) := by
  obtain ⟨-, -, ⟨r1, r2, r3, r4, r5, r6⟩, n1, n2, -⟩ := insFault_zero hF
  have HC := Lib.hid (check_any k D A B N false _ (ht.keep ((Keeps.refl w).alloc (.cells #[.int .i64 k, .int .i64 D, .int .i64 A, .int .i64 B, .int .i64 N, .bool false] 23))))
  rw [hF] at HC
  obtain ⟨hs, hl⟩ := row_pairB k h1 h2
  obtain ⟨c0, c1, c2⟩ := ht k (by omega)
  rw [hs] at c2
  have HB := Lib.hid (show insBytes k D A B N false = opT k :: [D * 16 + A, lowB N] from insBytes_pairB k h1 h2 D A B N)
  generalize opT k = op at *
  generalize longT k = lop at *
  have hG : 1 < w.heap.size := lt_of_cell c0
  clear hs ht hF hl
  unfold insV at HC ⊢
  go_enter Tryd.func8, Tryd.ntmps8
  go_wp2_with fail
  refine HC.out.mono ?_
  rintro e w1 ⟨rfl, hk1⟩
  have hz := lt_top hk1
  have hb0 : w1.cell? ⟨w.heap.size, 0, none⟩ = some (.int .i64 k) := hk1.cell (by simp)
  have hb1 : w1.cell? ⟨w.heap.size, 1, none⟩ = some (.int .i64 D) := hk1.cell (by simp)
  have hb2 : w1.cell? ⟨w.heap.size, 2, none⟩ = some (.int .i64 A) := hk1.cell (by simp)
  have hb3 : w1.cell? ⟨w.heap.size, 3, none⟩ = some (.int .i64 B) := hk1.cell (by simp)
  have hb4 : w1.cell? ⟨w.heap.size, 4, none⟩ = some (.int .i64 N) := hk1.cell (by simp)
  have hb5 : w1.cell? ⟨w.heap.size, 5, none⟩ = some (.bool false) := hk1.cell (by simp)
  have d0 : w1.cell? ⟨1, k * 3, none⟩ = some (.int .u8 op) := (((Keeps.refl w).alloc _).trans hk1).cell c0
  have d1 : w1.cell? ⟨1, k * 3 + 1, none⟩ = some (.int .u8 lop) := (((Keeps.refl w).alloc _).trans hk1).cell c1
  have d2 : w1.cell? ⟨1, k * 3 + 2, none⟩ = some (.int .i64 3) := (((Keeps.refl w).alloc _).trans hk1).cell c2
  have hkw : Keeps w w1 := ((Keeps.refl w).alloc _).trans hk1
  clear c0 c1 c2 HC hk1
  obtain ⟨W3, hW3, hk3, hbL, hbO, hs3⟩ := three_blocks w1 (.cells #[.int .u8 op, .int .u8 lop, .int .i64 3] 39) (.cells #[.int .u8 (N % 256)] 5) (.cells #[.int .u8 op] 5)
  have HW := Lib.hid hW3
  clear hW3
  go_upto_region 14 with fail
  rw [← HW.out]
  have hg1 : w1.heap.size ≤ w1.heap.size + 1 + 1 := by omega
  have hg2 : w1.heap.size + 1 < w1.heap.size + 1 + 1 := by omega
  generalize w1.heap.size + 1 + 1 = g at hbO hs3 hg1 hg2 ⊢
  generalize w1.heap.size + 1 = gl at hbL hg2 ⊢
  have HO : Own W3 g 5 1 cu (.slice (some ⟨g, 0, none⟩) 1 1) [op] := Own.of_block (l := [op]) cu_len (Nat.le_refl _) hbO (by simp [maxLen])
  have HL : Blk W3 gl (.cells (([lowB N] : List Int).flatMap cu).toArray 5) := hbL
  have HK := Lib.hid hkw
  have hb3s := hk3.size
  have p1 := hk3.cell hb1
  have p2 := hk3.cell hb2
  have p3 := hk3.cell hb3
  have p4 := hk3.cell hb4
  have hin : w.heap.size < W3.heap.size := by omega
  clear hb0 hb5 d0 d1 d2 hkw hz hG hbL
  go_region_held3 (fun w' => w'.cell? ⟨w.heap.size, 1, none⟩ = some (.int .i64 D) ∧ w'.cell? ⟨w.heap.size, 2, none⟩ = some (.int .i64 A) ∧ w'.cell? ⟨w.heap.size, 4, none⟩ = some (.int .i64 N))
    (exact ⟨Keeps.cell (by repeat (with_reducible (first | assumption | exact Keeps.refl _ | refine Keeps.alloc ?_ _ | refine Keeps.drew ?_ | refine Keeps.drewN ?_ _ | refine Keeps.trans' ?_ (by assumption) (by assumption)))) hb1, Keeps.cell (by repeat (with_reducible (first | assumption | exact Keeps.refl _ | refine Keeps.alloc ?_ _ | refine Keeps.drew ?_ | refine Keeps.drewN ?_ _ | refine Keeps.trans' ?_ (by assumption) (by assumption)))) hb2, Keeps.cell (by repeat (with_reducible (first | assumption | exact Keeps.refl _ | refine Keeps.alloc ?_ _ | refine Keeps.drew ?_ | refine Keeps.drewN ?_ _ | refine Keeps.trans' ?_ (by assumption) (by assumption)))) hb4⟩)
    ((first
      | (go_at_call 17; refine (nibbles_any _ _ _ r1 r2 r3 r4).mono ?_; rintro e w' ⟨rfl, rfl⟩)
      | (refine step_pushes (by rfl) (.tmp 49) (.tmp 58) 28 (by rfl) Tryd.underlying28 info_u8 (by rfl) (by decide) (base := g) (l := [op]) (by rfl) (by exact HO.keep (by repeat (with_reducible (first | assumption | exact Keeps.refl _ | refine Keeps.alloc ?_ _ | refine Keeps.drew ?_ | refine Keeps.drewN ?_ _ | refine Keeps.trans' ?_ (by assumption) (by assumption))))) [D * 16 + A, N % 256] _ _ (by rfl) (by exact Blk.top' _ _ (by first | rfl | simp)) cu_len cu_one (by simp) (by simp [maxLen]) (by first | omega | (simp only [sz_alloc]; omega) | (simp only [sz_drew]; omega) | (simp only [sz_alloc, sz_drew]; omega) | (simp only [sz_alloc, sz_drewN]; omega)) ?_; intro v' w' hown hbel hgr hfr; have hle : g ≤ w'.heap.size := Nat.le_trans (by first | omega | (simp only [sz_alloc]; omega) | (simp only [sz_drew]; omega) | (simp only [sz_alloc, sz_drew]; omega) | (simp only [sz_alloc, sz_drewN]; omega)) hbel.size)))
  go_wp2
  go_ret2
  refine ⟨v', rfl, ?_, HK.out.trans (by repeat (with_reducible (first | assumption | exact Keeps.refl _ | refine Keeps.alloc ?_ _ | refine Keeps.drew ?_ | refine Keeps.drewN ?_ _ | refine Keeps.trans' ?_ (by assumption) (by assumption))))⟩
  have hown' : Own w' g 5 1 cu v' (op :: [D * 16 + A, lowB N]) := hown
  rw [HB.out]
  exact own_octs hown'
theorem enc_store (k : Nat) (h1 : 15 ≤ k) (h2 : k ≤ 15) (D A B N : Int) (w : World) (ht : Tab w) (hF : insFault k D A B N false = 0) :
    Calls Tryd.prog 8 #[insV k D A B N false] w (GivesE (fun v w' => Octs w' v (insBytes k D A B N false)) 0 w) := by
  obtain ⟨-, -, ⟨r1, r2, r3, r4, r5, r6⟩, n1, n2, -⟩ := insFault_zero hF
  have HC := Lib.hid (check_any k D A B N false _ (ht.keep ((Keeps.refl w).alloc (.cells #[.int .i64 k, .int .i64 D, .int .i64 A, .int .i64 B, .int .i64 N, .bool false] 23))))
  rw [hF] at HC
  obtain ⟨hs, hl⟩ := row_store k h1 h2
  obtain ⟨c0, c1, c2⟩ := ht k (by omega)
  rw [hs] at c2
  have HB := Lib.hid (show insBytes k D A B N false = opT k :: [B * 16 + A, lowB N] from insBytes_store k h1 h2 D A B N)
  generalize opT k = op at *
  generalize longT k = lop at *
  have hG : 1 < w.heap.size := lt_of_cell c0
  clear hs ht hF hl
  unfold insV at HC ⊢
  go_enter Tryd.func8, Tryd.ntmps8
  go_wp2_with fail
  refine HC.out.mono ?_
  rintro e w1 ⟨rfl, hk1⟩
  have hz := lt_top hk1
  have hb0 : w1.cell? ⟨w.heap.size, 0, none⟩ = some (.int .i64 k) := hk1.cell (by simp)
  have hb1 : w1.cell? ⟨w.heap.size, 1, none⟩ = some (.int .i64 D) := hk1.cell (by simp)
  have hb2 : w1.cell? ⟨w.heap.size, 2, none⟩ = some (.int .i64 A) := hk1.cell (by simp)
  have hb3 : w1.cell? ⟨w.heap.size, 3, none⟩ = some (.int .i64 B) := hk1.cell (by simp)
  have hb4 : w1.cell? ⟨w.heap.size, 4, none⟩ = some (.int .i64 N) := hk1.cell (by simp)
  have hb5 : w1.cell? ⟨w.heap.size, 5, none⟩ = some (.bool false) := hk1.cell (by simp)
  have d0 : w1.cell? ⟨1, k * 3, none⟩ = some (.int .u8 op) := (((Keeps.refl w).alloc _).trans hk1).cell c0
  have d1 : w1.cell? ⟨1, k * 3 + 1, none⟩ = some (.int .u8 lop) := (((Keeps.refl w).alloc _).trans hk1).cell c1
  have d2 : w1.cell? ⟨1, k * 3 + 2, none⟩ = some (.int .i64 5) := (((Keeps.refl w).alloc _).trans hk1).cell c2
  have hkw : Keeps w w1 := ((Keeps.refl w).alloc _).trans hk1
  clear c0 c1 c2 HC hk1
  obtain ⟨W3, hW3, hk3, hbL, hbO, hs3⟩ := three_blocks w1 (.cells #[.int .u8 op, .int .u8 lop, .int .i64 5] 39) (.cells #[.int .u8 (N % 256)] 5) (.cells #[.int .u8 op] 5)
  have HW := Lib.hid hW3
  clear hW3
  go_upto_region 18 with fail
  rw [← HW.out]
  have hg1 : w1.heap.size ≤ w1.heap.size + 1 + 1 := by omega
  have hg2 : w1.heap.size + 1 < w1.heap.size + 1 + 1 := by omega
  generalize w1.heap.size + 1 + 1 = g at hbO hs3 hg1 hg2 ⊢
  generalize w1.heap.size + 1 = gl at hbL hg2 ⊢
  have HO : Own W3 g 5 1 cu (.slice (some ⟨g, 0, none⟩) 1 1) [op] := Own.of_block (l := [op]) cu_len (Nat.le_refl _) hbO (by simp [maxLen])
  have HL : Blk W3 gl (.cells (([lowB N] : List Int).flatMap cu).toArray 5) := hbL
  have HK := Lib.hid hkw
  have hb3s := hk3.size
  have p1 := hk3.cell hb1
  have p2 := hk3.cell hb2
  have p3 := hk3.cell hb3
  have p4 := hk3.cell hb4
  have hin : w.heap.size < W3.heap.size := by omega
  clear hb0 hb5 d0 d1 d2 hkw hz hG hbL
  go_region_held3 (fun w' => w'.cell? ⟨w.heap.size, 3, none⟩ = some (.int .i64 B) ∧ w'.cell? ⟨w.heap.size, 2, none⟩ = some (.int .i64 A) ∧ w'.cell? ⟨w.heap.size, 4, none⟩ = some (.int .i64 N))
    (exact ⟨Keeps.cell (by repeat (with_reducible (first | assumption | exact Keeps.refl _ | refine Keeps.alloc ?_ _ | refine Keeps.drew ?_ | refine Keeps.drewN ?_ _ | refine Keeps.trans' ?_ (by assumption) (by assumption)))) hb3, Keeps.cell (by repeat (with_reducible (first | assumption | exact Keeps.refl _ | refine Keeps.alloc ?_ _ | refine Keeps.drew ?_ | refine Keeps.drewN ?_ _ | refine Keeps.trans' ?_ (by assumption) (by assumption)))) hb2, Keeps.cell (by repeat (with_reducible (first | assumption | exact Keeps.refl _ | refine Keeps.alloc ?_ _ | refine Keeps.drew ?_ | refine Keeps.drewN ?_ _ | refine Keeps.trans' ?_ (by assumption) (by assumption)))) hb4⟩)
    ((first
      | (go_at_call 17; refine (nibbles_any _ _ _ r5 r6 r3 r4).mono ?_; rintro e w' ⟨rfl, rfl⟩)
      | (refine step_pushes (by rfl) (.tmp 75) (.tmp 84) 28 (by rfl) Tryd.underlying28 info_u8 (by rfl) (by decide) (base := g) (l := [op]) (by rfl) (by exact HO.keep (by repeat (with_reducible (first | assumption | exact Keeps.refl _ | refine Keeps.alloc ?_ _ | refine Keeps.drew ?_ | refine Keeps.drewN ?_ _ | refine Keeps.trans' ?_ (by assumption) (by assumption))))) [B * 16 + A, N % 256] _ _ (by rfl) (by exact Blk.top' _ _ (by first | rfl | simp)) cu_len cu_one (by simp) (by simp [maxLen]) (by first | omega | (simp only [sz_alloc]; omega) | (simp only [sz_drew]; omega) | (simp only [sz_alloc, sz_drew]; omega) | (simp only [sz_alloc, sz_drewN]; omega)) ?_; intro v' w' hown hbel hgr hfr; have hle : g ≤ w'.heap.size := Nat.le_trans (by first | omega | (simp only [sz_alloc]; omega) | (simp only [sz_drew]; omega) | (simp only [sz_alloc, sz_drew]; omega) | (simp only [sz_alloc, sz_drewN]; omega)) hbel.size)))
  go_wp2
  go_ret2
  refine ⟨v', rfl, ?_, HK.out.trans (by repeat (with_reducible (first | assumption | exact Keeps.refl _ | refine Keeps.alloc ?_ _ | refine Keeps.drew ?_ | refine Keeps.drewN ?_ _ | refine Keeps.trans' ?_ (by assumption) (by assumption))))⟩
  have hown' : Own w' g 5 1 cu v' (op :: [B * 16 + A, lowB N]) := hown
  rw [HB.out]
  exact own_octs hown'
end Go.Proofs.YtckofmijaiahbaaDoor
