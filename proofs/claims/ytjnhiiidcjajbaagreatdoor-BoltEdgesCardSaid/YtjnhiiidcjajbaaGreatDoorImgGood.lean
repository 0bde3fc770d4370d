/-
  What an image without a fault is; and the bytes that it has, as plain functions.
-/
import Derived.Test.YtjnhiiidcjajbaaGreatDoorImgSpec
namespace Go.Proofs.YtjnhiiidcjajbaaGreatDoor
open Go.RowKit BH

theorem scan_zero {g : Nat → Int} {e : Int} : ∀ {n i : Nat}, scan g e n i = 0 → (∀ j, i ≤ j → j < i + n → g j = 0) ∧ e = 0
  | 0, _, h => ⟨fun j h1 h2 => absurd h2 (by omega), h⟩
  | n + 1, i, h => by
    unfold scan at h
    by_cases h0 : g i = 0
    · rw [if_pos h0] at h
      obtain ⟨h1, h2⟩ := scan_zero h
      refine ⟨fun j hj1 hj2 => ?_, h2⟩
      by_cases e : j = i
      · rw [e]; exact h0
      · exact h1 j (by omega) (by omega)
    · rw [if_neg h0] at h; exact absurd h h0
structure ImgGood (m : Img) : Prop where
  text : m.Text.length ≤ 8000
  funcs : m.Funcs.length ≤ 40
  func : ∀ i, i < m.Funcs.length → nameOk (fname m i) = true ∧ anyN (sameName m i) i = false ∧ (nth m.Funcs i).Start = sumF m i ∧ 1 ≤ (nth m.Funcs i).Size ∧ (nth m.Funcs i).Size ≤ (m.Text.length : Int) - sumF m i
  sum : sumF m m.Funcs.length = (m.Text.length : Int)
  entry : 0 ≤ m.Entry ∧ m.Entry < (m.Funcs.length : Int)
  tabs : m.Tables.length ≤ 20
  tab : ∀ i, i < m.Tables.length → (nth m.Tables i).length ≤ 20 ∧ ∀ j, j < (nth m.Tables i).length → 0 ≤ nth (nth m.Tables i) j ∧ nth (nth m.Tables i) j < (m.Text.length : Int)
  data : m.Data.length ≤ 64
  dat : ∀ j, j < m.Data.length → -1099511627776 ≤ nth m.Data j ∧ nth m.Data j ≤ 1099511627776
  lines : m.Lines.length ≤ 4000
  line : ∀ i, i < m.Lines.length → 0 ≤ (nth m.Lines i).N ∧ (nth m.Lines i).N ≤ 10000 ∧ lastAt m.Lines i < (nth m.Lines i).At ∧ (nth m.Lines i).At < (m.Text.length : Int)
theorem imgGood (m : Img) (h : imgFault m = 0) : ImgGood m := by
  have t1 : ¬ 8000 < m.Text.length := by
    intro hc; unfold imgFault at h; rw [if_pos hc] at h; cases h
  have t2 : ¬ 40 < m.Funcs.length := by
    intro hc; unfold imgFault funcsFault at h
    rw [if_neg t1, if_pos hc] at h
    simp at h
  rw [imgFault_scan m t1 t2] at h
  obtain ⟨hf, he⟩ := scan_zero h
  unfold endFault at he
  have hs : sumF m m.Funcs.length = (m.Text.length : Int) := by
    by_cases hc : sumF m m.Funcs.length ≠ (m.Text.length : Int)
    · rw [if_pos hc] at he; cases he
    · exact Classical.not_not.1 hc
  rw [if_neg (by rw [hs]; simp)] at he
  unfold entryFault at he
  have e1 : ¬ (m.Entry < 0 ∨ (m.Funcs.length : Int) ≤ m.Entry) := by intro hc; rw [if_pos hc] at he; cases he
  rw [if_neg e1] at he
  have e2 : ¬ (20 < m.Tables.length ∨ 64 < m.Data.length) := by intro hc; rw [if_pos hc] at he; cases he
  rw [if_neg e2] at he
  unfold tabsFault at he
  obtain ⟨ht, hd⟩ := scan_zero he
  unfold dataFault at hd
  have d1 : anyN (dataOut m.Data) m.Data.length = false := by
    cases hc : anyN (dataOut m.Data) m.Data.length with
    | false => rfl
    | true => rw [if_pos hc] at hd; cases hd
  rw [if_neg (by rw [d1]; simp)] at hd
  unfold linesFault at hd
  have l1 : ¬ 4000 < m.Lines.length := by intro hc; rw [if_pos hc] at hd; cases hd
  rw [if_neg l1] at hd
  obtain ⟨hl, -⟩ := scan_zero hd
  refine ⟨by omega, by omega, fun i hi => ?_, hs, by omega, by omega, fun i hi => ?_, by omega, fun j hj => ?_, by omega, fun i hi => ?_⟩
  · have h0 := hf i (Nat.zero_le _) (by omega)
    rcases funBad_cases m i with ⟨-, h1⟩ | ⟨h1, ⟨-, h2⟩ | ⟨h2, ⟨-, h3⟩ | ⟨h3, -⟩⟩⟩
    · rw [h0] at h1; cases h1
    · rw [h0] at h2; cases h2
    · rw [h0] at h3; cases h3
    · exact ⟨h1, h2, h3⟩
  · have h0 := ht i (Nat.zero_le _) (by omega)
    rcases tabBad_cases m i with ⟨-, h1⟩ | ⟨h1, ⟨-, h2⟩ | ⟨h2, -⟩⟩
    · rw [h0] at h1; cases h1
    · rw [h0] at h2; cases h2
    · refine ⟨h1, fun j hj => ?_⟩
      have := anyN_false h2 j hj
      simp [outside] at this
      omega
  · have := anyN_false d1 j hj
    simp [dataOut] at this
    omega
  · exact lineBad_zero (hl i (Nat.zero_le _) (by omega))
theorem lastAt_ge {m : Img} (hg : ImgGood m) : ∀ i, i ≤ m.Lines.length → -1 ≤ lastAt m.Lines i
  | 0, _ => by simp [lastAt]
  | i + 1, hi => by
    have h1 := lastAt_ge hg i (by omega)
    have h2 := (hg.line i (by omega)).2.2.1
    simp only [lastAt]
    omega

/-- a number in k bytes, the highest one first -/
def bigB (n : Int) : Nat → List Int
  | 0 => []
  | k + 1 => n / 2 ^ (8 * k) % 256 :: bigB n k
theorem bigB_len (n : Int) : ∀ k, (bigB n k).length = k
  | 0 => rfl
  | k + 1 => by simp [bigB, bigB_len n k]
theorem bigB_bd (n : Int) : ∀ k, ∀ x ∈ bigB n k, 0 ≤ x ∧ x < 256
  | 0, x, hx => by cases hx
  | k + 1, x, hx => by
    rcases List.mem_cons.1 hx with rfl | hx
    · omega
    · exact bigB_bd n k x hx
def octL (l : List UInt8) : List Int := l.map fun x => (x.toNat : Int)
theorem octL_len (l : List UInt8) : (octL l).length = l.length := by simp [octL]
theorem octL_bd (l : List UInt8) : ∀ x ∈ octL l, 0 ≤ x ∧ x < 256 := by
  intro x hx
  obtain ⟨b, -, rfl⟩ := List.mem_map.1 hx
  have := b.toNat_lt
  omega
def funB (f : Fu) : List Int := bigB (f.Name.data.toList.length : Nat) 1 ++ octL f.Name.data.toList ++ bigB f.Size 2
def tabB (t : List Int) : List Int := bigB (t.length : Nat) 1 ++ t.flatMap fun n => bigB n 2
def lineB (l : Ln) : List Int := bigB l.At 2 ++ bigB l.N 2
/-- the bytes of an image -/
def imgB (m : Img) : List Int :=
  [98, 104, 49, 10] ++ bigB (m.Text.length : Nat) 2 ++ octL m.Text ++ bigB (m.Funcs.length : Nat) 1 ++ m.Funcs.flatMap funB ++ bigB m.Entry 1 ++ bigB (m.Tables.length : Nat) 1 ++ m.Tables.flatMap tabB ++
    bigB (m.Data.length : Nat) 1 ++ (m.Data.flatMap fun n => bigB n 8) ++ bigB (m.Lines.length : Nat) 2 ++ m.Lines.flatMap lineB
theorem imgB_bd (m : Img) : ∀ x ∈ imgB m, 0 ≤ x ∧ x < 256 := by
  intro x hx
  simp only [imgB, List.mem_append, List.mem_flatMap, funB, tabB, lineB] at hx
  have hb : ∀ {n k}, x ∈ bigB n k → 0 ≤ x ∧ x < 256 := fun h => bigB_bd _ _ x h
  have ho : ∀ {l}, x ∈ octL l → 0 ≤ x ∧ x < 256 := fun h => octL_bd _ x h
  rcases hx with ((((((((((h | h) | h) | h) | ⟨f, -, (h | h) | h⟩) | h) | h) | ⟨t, -, h | ⟨n, -, h⟩⟩) | h) | ⟨n, -, h⟩) | h) | ⟨l, -, h | h⟩
  · simp at h; omega
  all_goals first | exact hb h | exact ho h
/-- how long: never more than memory holds -/
theorem flatMap_take_succ {α : Type} [Inhabited α] (f : α → List Int) (l : List α) (k : Nat) (h : k < l.length) : (l.take (k + 1)).flatMap f = (l.take k).flatMap f ++ f (nth l k) := by
  rw [take_succ_nth l k h, List.flatMap_append]
  simp
end Go.Proofs.YtjnhiiidcjajbaaGreatDoor
