/-
  isa.Size and the document's SizeOf: how many bytes an instruction has.
-/
import Derived.Test.YtpgifkhgefbnfaaDoorIsa1
namespace Go.Proofs.YtpgifkhgefbnfaaDoor
open Go.RowKit BH
set_option maxHeartbeats 1000000
set_option maxRecDepth 100000

/-- the package-level table isa.sizes holds them -/
def Siz (w : World) : Prop := ∀ s, s < 12 → w.cell? ⟨1, s, none⟩ = some (.int .i64 (sizeT s))
theorem Siz.keep {w w' : World} (h : Siz w) (hk : Keeps w w') : Siz w' := fun s hs => hk.cell (h s hs)

def shapeN (k : Nat) : Nat := [0, 1, 1, 1, 1, 2, 3, 4, 4, 4, 4, 4, 4, 4, 3, 5, 6, 7, 8, 8, 8, 8, 9, 10, 11].getD k 0
theorem shapeN_eq (k : Nat) (h : k ≤ 24) : shapeT k = shapeN k ∧ shapeN k < 12 := by
  have : ∀ k, k < 25 → shapeT k = shapeN k ∧ shapeN k < 12 := by decide
  exact this k (by omega)
theorem sizeT_bd (s : Nat) (h : s < 12) : 0 ≤ sizeT s ∧ sizeT s ≤ 4 := by
  have : ∀ s, s < 12 → 0 ≤ sizeT s ∧ sizeT s ≤ 4 := by decide
  exact this s h
/-- how many bytes an instruction of the kind k has -/
def insSize (k : Nat) (Lg : Bool) : Int := sizeT (shapeN k) + if Lg then 1 else 0
theorem insFault_kind {K D A B N : Int} {Lg : Bool} (h : insFault K D A B N Lg = 0) : 1 ≤ K ∧ K ≤ 24 := by
  by_cases hb : K < 1 ∨ 24 < K
  · rw [insFault_bad hb] at h; cases h
  · omega

/-- the document's sizeOf -/
theorem refSize_any (k : Nat) (h1 : 1 ≤ k) (h2 : k ≤ 24) (D A B N : Int) (Lg : Bool) (w : World) :
    Calls Tryd.prog 23 #[insV k D A B N Lg] w fun e w' => e = .returned (.int .i64 (insSize k Lg)) ∧ Keeps w w' := by
  have hk : (k ≤ 4 ∧ sizeT (shapeN k) = 1) ∨ (k = 5 ∧ sizeT (shapeN k) = 4) ∨ ((k = 16 ∨ k = 17 ∨ k = 22) ∧ sizeT (shapeN k) = 2) ∨ ((k ≠ 5 ∧ k ≠ 16 ∧ k ≠ 17 ∧ k ≠ 22 ∧ 4 < k) ∧ sizeT (shapeN k) = 3) := by
    have h24 : k = 1 ∨ k = 2 ∨ k = 3 ∨ k = 4 ∨ k = 5 ∨ k = 6 ∨ k = 7 ∨ k = 8 ∨ k = 9 ∨ k = 10 ∨ k = 11 ∨ k = 12 ∨ k = 13 ∨ k = 14 ∨ k = 15 ∨ k = 16 ∨ k = 17 ∨ k = 18 ∨ k = 19 ∨ k = 20 ∨ k = 21 ∨ k = 22 ∨ k = 23 ∨ k = 24 := by omega
    rcases h24 with rfl | rfl | rfl | rfl | rfl | rfl | rfl | rfl | rfl | rfl | rfl | rfl | rfl | rfl | rfl | rfl | rfl | rfl | rfl | rfl | rfl | rfl | rfl | rfl <;> simp [sizeT, shapeN]
  have HK := Lib.hid hk
  clear hk
  unfold insV
  cases Lg
  all_goals
    rcases HK.out with ⟨g, hz⟩ | ⟨g, hz⟩ | ⟨g, hz⟩ | ⟨g, hz⟩
    all_goals
      have HZ := Lib.hid hz
      clear hz
      go_enter Tryd.func23, Tryd.ntmps23
      go_wp2
      all_goals first
        | (go_ret
           exact ⟨by unfold insSize; rw [HZ.out]; rfl, (Keeps.refl _).alloc _⟩)
        | (exfalso; simp only [beq_iff_eq, beq_eq_false_iff_ne, ne_eq] at *; omega)
end Go.Proofs.YtpgifkhgefbnfaaDoor
