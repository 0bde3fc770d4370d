/-
  isa.Size and the document's SizeOf: how many bytes an instruction has.
-/
import Derived.Test.YtckofmijaiahbaaDoorIsa1
namespace Go.Proofs.YtckofmijaiahbaaDoor
open Go.RowKit BH
set_option maxHeartbeats 1000000
set_option maxRecDepth 100000

/-- the package-level table isa.sizes holds them -/
def Siz (w : World) : Prop := ∀ s, s < 12 → w.cell? ⟨0, s, none⟩ = some (.int .i64 (sizeT s))
theorem Siz.keep {w w' : World} (h : Siz w) (hk : Keeps w w') : Siz w' := fun s hs => hk.cell (h s hs)

def shapeN (k : Nat) : Nat := [0, 1, 1, 1, 1, 2, 3, 4, 4, 4, 4, 4, 4, 4, 3, 5, 6, 7, 8, 8, 8, 8, 9, 10, 11].getD k 0
theorem shapeN_eq (k : Nat) (h : k ≤ 24) : shapeT k = shapeN k ∧ shapeN k < 12 := by
  have : ∀ k, k < 25 → shapeT k = shapeN k ∧ shapeN k < 12 := by decide
  exact this k (by omega)
theorem sizeT_bd (s : Nat) (h : s < 12) : 0 ≤ sizeT s ∧ sizeT s ≤ 4 := by
  have : ∀ s, s < 12 → 0 ≤ sizeT s ∧ sizeT s ≤ 4 := by decide
  exact this s h
/-- how many bytes an instruction of the kind k has -/
def insSize (k : Nat) (Lg : Bool) : Int := sizeT (shapeN k) + if Lg then 1 else 0
theorem insFault_kind {K D A B N : Int} {Lg : Bool} (h : insFault K D A B N Lg = 0) : 1 ≤ K ∧ K ≤ 24 := by
  by_cases hb : K < 1 ∨ 24 < K
  · rw [insFault_bad hb] at h; cases h
  · omega

theorem size_bad (K D A B N : Int) (Lg : Bool) (w : World) (ht : Tab w) (h : insFault K D A B N Lg ≠ 0) :
    Calls Tryd.prog 6 #[insV K D A B N Lg] w fun e w' => e = .returned (.tuple #[.int .i64 0, .int .i64 (insFault K D A B N Lg)]) ∧ Keeps w w' := by
  have HC := check_any K D A B N Lg _ (ht.keep ((Keeps.refl w).alloc (.cells #[.int .i64 K, .int .i64 D, .int .i64 A, .int .i64 B, .int .i64 N, .bool Lg] 23)))
  generalize insFault K D A B N Lg = F at h HC
  have hF : (F == 0) = false := by simpa using h
  have hF' : (F != 0) = true := by simpa using h
  clear h ht
  unfold insV at HC ⊢
  go_enter Tryd.func6, Tryd.ntmps6
  go_wp2_with fail
  refine HC.mono ?_
  rintro e w1 ⟨rfl, hk1⟩
  go_wp2
  go_ret2
  exact ⟨rfl, ((Keeps.refl _).alloc _).trans hk1⟩
theorem size_ok (K D A B N : Int) (Lg : Bool) (w : World) (ht : Tab w) (hs : Siz w) (h : insFault K D A B N Lg = 0) :
    Calls Tryd.prog 6 #[insV K D A B N Lg] w fun e w' => e = .returned (.tuple #[.int .i64 (insSize K.toNat Lg), .int .i64 0]) ∧ Keeps w w' := by
  obtain ⟨b1, b2⟩ := insFault_kind h
  obtain ⟨k, rfl⟩ : ∃ k : Nat, K = k := ⟨K.toNat, by omega⟩
  obtain ⟨e1, e2⟩ := shapeN_eq k (by omega)
  have HC := check_any k D A B N Lg _ (ht.keep ((Keeps.refl w).alloc (.cells #[.int .i64 k, .int .i64 D, .int .i64 A, .int .i64 B, .int .i64 N, .bool Lg] 23)))
  rw [h] at HC
  obtain ⟨-, -, c2⟩ := ht k (by omega)
  rw [e1] at c2
  have z0 := hs (shapeN k) e2
  obtain ⟨z1, z2⟩ := sizeT_bd (shapeN k) e2
  have HI := Lib.hid (show insSize (k : Int).toNat Lg = sizeT (shapeN k) + if Lg then 1 else 0 by rw [Int.toNat_natCast]; rfl)
  generalize sizeT (shapeN k) = z at z0 z1 z2 HI
  generalize shapeN k = s at c2 z0 e2
  have hG : 1 < w.heap.size := lt_of_cell c2
  have hG0 : 0 < w.heap.size := lt_of_cell z0
  clear ht hs h e1
  unfold insV at HC ⊢
  go_enter Tryd.func6, Tryd.ntmps6
  go_wp2_with fail
  refine HC.mono ?_
  rintro e w1 ⟨rfl, hk1⟩
  have hb0 : w1.cell? ⟨w.heap.size, 0, none⟩ = some (.int .i64 k) := hk1.cell (by simp)
  have hb5 : w1.cell? ⟨w.heap.size, 5, none⟩ = some (.bool Lg) := hk1.cell (by simp)
  have d2 : w1.cell? ⟨1, k * 3 + 2, none⟩ = some (.int .i64 s) := (((Keeps.refl w).alloc _).trans hk1).cell c2
  have d0 : w1.cell? ⟨0, s, none⟩ = some (.int .i64 z) := (((Keeps.refl w).alloc _).trans hk1).cell z0
  clear c2 z0
  cases Lg
  all_goals
    go_wp2
    go_ret2
    exact ⟨by rw [HI.out]; simp, ((Keeps.refl _).alloc _).trans hk1⟩
/-- what isa.Size answers -/
def sizeAns (K D A B N : Int) (Lg : Bool) : Int := if insFault K D A B N Lg = 0 then insSize K.toNat Lg else 0
theorem size_any (K D A B N : Int) (Lg : Bool) (w : World) (ht : Tab w) (hs : Siz w) :
    Calls Tryd.prog 6 #[insV K D A B N Lg] w fun e w' => e = .returned (.tuple #[.int .i64 (sizeAns K D A B N Lg), .int .i64 (insFault K D A B N Lg)]) ∧ Keeps w w' := by
  unfold sizeAns
  by_cases h : insFault K D A B N Lg = 0
  · rw [if_pos h, h]; exact size_ok K D A B N Lg w ht hs h
  · rw [if_neg h]; exact size_bad K D A B N Lg w ht h

/-- the document's sizeOf -/
theorem refSize_any (k : Nat) (h1 : 1 ≤ k) (h2 : k ≤ 24) (D A B N : Int) (Lg : Bool) (w : World) :
    Calls Tryd.prog 15 #[insV k D A B N Lg] w fun e w' => e = .returned (.int .i64 (insSize k Lg)) ∧ Keeps w w' := by
  have hk : (k ≤ 4 ∧ sizeT (shapeN k) = 1) ∨ (k = 5 ∧ sizeT (shapeN k) = 4) ∨ ((k = 16 ∨ k = 17 ∨ k = 22) ∧ sizeT (shapeN k) = 2) ∨ ((k ≠ 5 ∧ k ≠ 16 ∧ k ≠ 17 ∧ k ≠ 22 ∧ 4 < k) ∧ sizeT (shapeN k) = 3) := by
    have h24 : k = 1 ∨ k = 2 ∨ k = 3 ∨ k = 4 ∨ k = 5 ∨ k = 6 ∨ k = 7 ∨ k = 8 ∨ k = 9 ∨ k = 10 ∨ k = 11 ∨ k = 12 ∨ k = 13 ∨ k = 14 ∨ k = 15 ∨ k = 16 ∨ k = 17 ∨ k = 18 ∨ k = 19 ∨ k = 20 ∨ k = 21 ∨ k = 22 ∨ k = 23 ∨ k = 24 := by omega
    rcases h24 with rfl | rfl | rfl | rfl | rfl | rfl | rfl | rfl | rfl | rfl | rfl | rfl | rfl | rfl | rfl | rfl | rfl | rfl | rfl | rfl | rfl | rfl | rfl | rfl <;> simp [sizeT, shapeN]
  have HK := Lib.hid hk
  clear hk
  unfold insV
  cases Lg
  all_goals
    rcases HK.out with ⟨g, hz⟩ | ⟨g, hz⟩ | ⟨g, hz⟩ | ⟨g, hz⟩
    all_goals
      have HZ := Lib.hid hz
      clear hz
      go_enter Tryd.func15, Tryd.ntmps15
      go_wp2
      all_goals first
        | (go_ret
           exact ⟨by unfold insSize; rw [HZ.out]; rfl, (Keeps.refl _).alloc _⟩)
        | (exfalso; simp only [beq_iff_eq, beq_eq_false_iff_ne, ne_eq] at *; omega)
theorem refSizeOf_any (K D A B N : Int) (Lg : Bool) (w : World) :
    Calls Tryd.prog 7 #[insV K D A B N Lg] w fun e w' => e = .returned (.tuple #[.int .i64 (sizeAns K D A B N Lg), .int .i64 (insFault K D A B N Lg)]) ∧ Keeps w w' := by
  unfold sizeAns
  have HC := instrFault_any K D A B N Lg (w.alloc (.cells #[.int .i64 K, .int .i64 D, .int .i64 A, .int .i64 B, .int .i64 N, .bool Lg] 23))
  by_cases h : insFault K D A B N Lg = 0
  · rw [if_pos h]
    rw [h] at HC ⊢
    obtain ⟨b1, b2⟩ := insFault_kind h
    obtain ⟨k, rfl⟩ : ∃ k : Nat, K = k := ⟨K.toNat, by omega⟩
    have HS := refSize_any k (by omega) (by omega) D A B N Lg
    rw [Int.toNat_natCast]
    generalize insSize k Lg = z at HS ⊢
    have HS' := Lib.hid HS
    clear h HS
    unfold insV at HC HS' ⊢
    go_enter Tryd.func7, Tryd.ntmps7
    go_wp2_with fail
    refine HC.mono ?_
    rintro e w1 ⟨rfl, hk1⟩
    have hb0 : w1.cell? ⟨w.heap.size, 0, none⟩ = some (.int .i64 k) := hk1.cell (by simp)
    have hb1 : w1.cell? ⟨w.heap.size, 1, none⟩ = some (.int .i64 D) := hk1.cell (by simp)
    have hb2 : w1.cell? ⟨w.heap.size, 2, none⟩ = some (.int .i64 A) := hk1.cell (by simp)
    have hb3 : w1.cell? ⟨w.heap.size, 3, none⟩ = some (.int .i64 B) := hk1.cell (by simp)
    have hb4 : w1.cell? ⟨w.heap.size, 4, none⟩ = some (.int .i64 N) := hk1.cell (by simp)
    have hb5 : w1.cell? ⟨w.heap.size, 5, none⟩ = some (.bool Lg) := hk1.cell (by simp)
    go_wp2_with fail
    refine (HS'.out _).mono ?_
    rintro e w2 ⟨rfl, hk2⟩
    go_wp2
    go_ret2
    exact ⟨rfl, (((Keeps.refl _).alloc _).trans hk1).trans hk2⟩
  · rw [if_neg h]
    generalize insFault K D A B N Lg = F at h HC
    have hF : (F == 0) = false := by simpa using h
    have hF' : (F != 0) = true := by simpa using h
    clear h
    unfold insV at HC ⊢
    go_enter Tryd.func7, Tryd.ntmps7
    go_wp2_with fail
    refine HC.mono ?_
    rintro e w1 ⟨rfl, hk1⟩
    go_wp2
    go_ret2
    exact ⟨rfl, ((Keeps.refl _).alloc _).trans hk1⟩
end Go.Proofs.YtckofmijaiahbaaDoor
