/-
  slices.IndexFunc and slices.ContainsFunc at the program's element types: what they answer for whatever function value answers as a plain test.
-/
import Derived.Test.YtofaghcnkppmbaaOwn
import Derived.Test.YtofaghcnkppmbaaTypes
import Derived.Lib.Hide
import Derived.Shelf.Abstract
namespace Go.Proofs.Ytofaghcnkppmbaa
open Go.RowKit BH
set_option maxHeartbeats 1000000
set_option maxRecDepth 100000

/-- the function value g (with what it has captured) answers the test p of element i, and leaves all that was there as it was -/
def PredIn (P : Program) (g : Nat) (lb : Array Value) (n : Nat) (el : Nat → Value) (p : Nat → Bool) (w : World) : Prop :=
  ∀ (W : World) (i : Nat), i < n → Keeps w W → Calls P g (#[el i] ++ lb) W fun e w' => e = .returned (.bool (p i)) ∧ Keeps W w'
theorem PredIn.later {P : Program} {g : Nat} {lb : Array Value} {n : Nat} {el : Nat → Value} {p : Nat → Bool} {w w1 : World} (h : PredIn P g lb n el p w) (hk : Keeps w w1) : PredIn P g lb n el p w1 :=
  fun W i hi hW => h W i hi (hk.trans hW)
/-- is the test met below n? -/
def anyN (p : Nat → Bool) : Nat → Bool
  | 0 => false
  | n + 1 => anyN p n || p n
/-- the first place from i on (n places) where it is met; -1 -/
def idxN (p : Nat → Bool) : Nat → Nat → Int
  | 0, _ => -1
  | n + 1, i => if p i then i else idxN p n (i + 1)
theorem anyN_no {p : Nat → Bool} : ∀ {n : Nat}, (∀ j, j < n → p j = false) → anyN p n = false
  | 0, _ => rfl
  | n + 1, h => by rw [anyN, anyN_no (fun j hj => h j (by omega)), h n (by omega)]; rfl
theorem anyN_yes {p : Nat → Bool} : ∀ {n k : Nat}, k < n → p k = true → anyN p n = true
  | 0, k, h, _ => absurd h (Nat.not_lt_zero _)
  | n + 1, k, h, hp => by
    by_cases e : k = n
    · subst e; simp [anyN, hp]
    · simp [anyN, anyN_yes (n := n) (k := k) (by omega) hp]
theorem anyN_false {p : Nat → Bool} {n : Nat} (h : anyN p n = false) : ∀ j, j < n → p j = false := fun j hj => by
  cases e : p j with
  | false => rfl
  | true => rw [anyN_yes hj e] at h; cases h
theorem anyN_true {p : Nat → Bool} : ∀ {n : Nat}, anyN p n = true → ∃ k, k < n ∧ p k = true
  | 0, h => by cases h
  | n + 1, h => by
    simp only [anyN, Bool.or_eq_true] at h
    rcases h with h | h
    · obtain ⟨k, hk, hp⟩ := anyN_true h; exact ⟨k, by omega, hp⟩
    · exact ⟨n, by omega, h⟩
theorem idxN_hit {p : Nat → Bool} : ∀ {n i k : Nat}, i ≤ k → k < i + n → p k = true → (∀ j, i ≤ j → j < k → p j = false) → idxN p n i = k
  | 0, i, k, h1, h2, _, _ => absurd h2 (by omega)
  | n + 1, i, k, h1, h2, hp, hn => by
    unfold idxN
    by_cases e : i = k
    · subst e; rw [if_pos hp]
    · rw [hn i (Nat.le_refl _) (by omega), if_neg (by simp)]
      exact idxN_hit (by omega) (by omega) hp (fun j h3 h4 => hn j (by omega) h4)
theorem idxN_miss {p : Nat → Bool} : ∀ {n i : Nat}, (∀ j, i ≤ j → j < i + n → p j = false) → idxN p n i = -1
  | 0, _, _ => rfl
  | n + 1, i, hn => by
    unfold idxN
    rw [hn i (Nat.le_refl _) (by omega), if_neg (by simp)]
    exact idxN_miss (fun j h3 h4 => hn j (by omega) (by omega))
theorem idxN_any (p : Nat → Bool) (n : Nat) : decide (0 ≤ idxN p n 0) = anyN p n := by
  cases e : anyN p n with
  | false =>
    rw [idxN_miss (fun j _ h => anyN_false e j (by omega))]; rfl
  | true =>
    obtain ⟨k0, hk0, hp0⟩ := anyN_true e
    obtain ⟨k, hk, hp, hn⟩ : ∃ k, k < n ∧ p k = true ∧ ∀ j, j < k → p j = false := by
      clear e
      induction k0 using Nat.strongRecOn with
      | ind m ih =>
        by_cases h : ∃ j, j < m ∧ p j = true
        · obtain ⟨j, hj, hpj⟩ := h; exact ih j hj (by omega) hpj
        · exact ⟨m, hk0, hp0, fun j hj => by
            cases e : p j with
            | false => rfl
            | true => exact absurd ⟨j, hj, e⟩ h⟩
    rw [idxN_hit (i := 0) (n := n) (k := k) (by omega) (by omega) hp (fun j _ h => hn j h)]
    simp
theorem anyN_congr {p q : Nat → Bool} : ∀ {n : Nat}, (∀ j, j < n → p j = q j) → anyN p n = anyN q n
  | 0, _ => rfl
  | n + 1, h => by rw [anyN, anyN_congr (fun j hj => h j (by omega)), h n (by omega)]; rfl

end Go.Proofs.Ytofaghcnkppmbaa
