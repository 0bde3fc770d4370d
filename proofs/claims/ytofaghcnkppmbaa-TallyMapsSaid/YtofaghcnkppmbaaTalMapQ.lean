/-
  Where an edge's count goes in the document's list. No program is named here.
-/
import Derived.Test.YtofaghcnkppmbaaTalMapP
import Derived.Test.YtofaghcnkppmbaaShf
namespace Go.Proofs.Ytofaghcnkppmbaa
open BH
set_option maxRecDepth 100000
/-- the first place whose key is not less -/
def posD (p : Int × Int) : List Ed → Nat
  | [] => 0
  | e :: r => if kLt (keyE e) p = true then posD p r + 1 else 0
theorem posD_le (p : Int × Int) : ∀ D, posD p D ≤ D.length
  | [] => Nat.le_refl _
  | e :: r => by
    have := posD_le p r
    unfold posD
    split <;> simp only [List.length_cons] <;> omega
theorem posD_is (p : Int × Int) : ∀ (D : List Ed) (q : Nat), q ≤ D.length → (∀ i, i < q → kLt (keyE (nth D i)) p = true) → (q < D.length → kLt (keyE (nth D q)) p = false) → posD p D = q
  | [], q, h, _, _ => by simp at h; rw [h]; rfl
  | e :: r, 0, _, _, h2 => by
    have h := h2 (by simp)
    unfold posD
    have e0 : nth (e :: r) 0 = e := rfl
    rw [e0] at h
    rw [h]
    rfl
  | e :: r, q + 1, h, h1, h2 => by
    have e0 : nth (e :: r) 0 = e := rfl
    have h0 := h1 0 (by omega)
    rw [e0] at h0
    unfold posD
    rw [h0, if_pos rfl]
    congr 1
    exact posD_is p r q (by simp at h; omega) (fun i hi => h1 (i + 1) (by omega)) (fun hq => h2 (by simp; omega))
theorem addD_pos (p : Int × Int) (c : Int) : ∀ D : List Ed, addD p c D = if posD p D < D.length ∧ keyE (nth D (posD p D)) = p then D.set (posD p D) ⟨p.1, p.2, capS ((nth D (posD p D)).Count + c)⟩ else putW D ⟨p.1, p.2, c⟩ (posD p D)
  | [] => by simp [addD, posD, putW]
  | e :: r => by
    unfold addD posD
    by_cases h : kLt (keyE e) p = true
    · rw [if_pos h, if_pos h, addD_pos p c r]
      have e1 : nth (e :: r) (posD p r + 1) = nth r (posD p r) := rfl
      rw [e1]
      by_cases hc : posD p r < r.length ∧ keyE (nth r (posD p r)) = p
      · rw [if_pos hc, if_pos ⟨by simp; omega, hc.2⟩]
        rfl
      · rw [if_neg hc, if_neg (fun q => hc ⟨by have := q.1; simp at this; omega, q.2⟩)]
        rfl
    · rw [if_neg h, if_neg h]
      have e0 : nth (e :: r) 0 = e := rfl
      rw [e0]
      by_cases hk : keyE e = p
      · rw [if_pos hk, if_pos ⟨by simp, hk⟩]
        rfl
      · rw [if_neg hk, if_neg (fun q => hk q.2)]
        rfl
theorem addD_len (p : Int × Int) (c : Int) (D : List Ed) : (addD p c D).length ≤ D.length + 1 := by
  rw [addD_pos]
  have := posD_le p D
  split
  · rw [List.length_set]; omega
  · rw [putW_len _ _ _ this]; omega
theorem fold_len (f : Fl) (nx : Int → List Int) : ∀ (l : List Ed) (D : List Ed), (l.foldl (stepD f nx) D).length ≤ D.length + l.length
  | [], D => by simp
  | e :: r, D => by
    rw [List.foldl_cons]
    have h1 := fold_len f nx r (stepD f nx D e)
    have h2 : (stepD f nx D e).length ≤ D.length + 1 := by
      unfold stepD
      split
      · exact addD_len _ _ _
      · omega
    simp only [List.length_cons]
    omega
end Go.Proofs.Ytofaghcnkppmbaa
