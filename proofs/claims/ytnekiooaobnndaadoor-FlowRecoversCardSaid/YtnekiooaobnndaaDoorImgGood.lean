/-
 A row of elements of some cells each: an element, or a cell of one, is written; elements are shifted and one is put in. No program is named here.
 What an image without a fault is; and the bytes that it has, as plain functions.
-/
import Derived.Test.YtnekiooaobnndaaDoorImgOpen
import Derived.Test.YtnekiooaobnndaaDoorIsaLaid
import Derived.Test.YtnekiooaobnndaaDoorMapEnt
section
set_option linter.all false
namespace Go.Proofs.YtnekiooaobnndaaDoor.BH
open Go.RowKit Go.Sort
set_option maxRecDepth 100000
theorem nth_setw {α : Type} [Inhabited α] (l : List α) (i j : Nat) (x : α) (hj : j < l.length) : nth (l.set i x) j = if i = j then x else nth l j := by
 rw [nth_eq _ _ (by rw [List.length_set]; exact hj), List.getElem_set]
 split
 ·rfl
 ·rw [nth_eq _ _ hj]
section
variable {α : Type} [Inhabited α] {w : World} {base : Nat} {e : TypeId} {k : Nat} {f : α → List Value} {v : Value} {l : List α}
/-- one cell of an element of an own row is written -/
theorem own_setc (hf : ∀ x, (f x).length = k) (H : Own w base e k f v l) {i : Nat} (hi : i < l.length) {c : Nat} (hcl : c < k) :
  ∃ g cap, v = .slice (some ⟨g, 0, none⟩) l.length cap ∧ base ≤ g ∧ l.length ≤ cap ∧ cap ≤ maxLen ∧ g < w.heap.size ∧ (∀ j q u, j < l.length → q < k → (f (nth l j))[q]? = some u → w.cell? ⟨g, j * k + q, none⟩ = some u) ∧ (∀ j, w.frozen? ⟨g, j, none⟩ = false) ∧
   ∀ y u, f y = (f (nth l i)).set c u → Own (w.setCell ⟨g, i * k + c, none⟩ u) base e k f v (l.set i y) := by
 obtain ⟨h1, h2⟩ := H
 rcases h2 with ⟨rfl, h0⟩ | ⟨g, cap, cur, rfl, hb, hg, hn, hc, hs, ht⟩
 ·omega
 ·have hlen : (cur.toList.take (l.length * k)).length = l.length * k := by rw [ht, flatMap_len hf]
  have hle : l.length * k ≤ cur.size := by
   rw [hs]
   exact Nat.mul_le_mul_right k hn
  have idx : ∀ j q, j < l.length → q < k → j * k + q < l.length * k := fun j q hj hq => by
   have := Nat.mul_le_mul_right k (show j + 1 ≤ l.length from hj)
   rw [Nat.add_mul, Nat.one_mul] at this
   omega
  have hat : ∀ j q, j < l.length → q < k → cur[j * k + q]? = (f (nth l j))[q]? := fun j q hj hq => by
   have h3 : (cur.toList.take (l.length * k))[j * k + q]? = (l.flatMap f)[j * k + q]? := by rw [ht]
   rw [List.getElem?_take_of_lt (idx j q hj hq), flatMap_at hf l j q hj hq] at h3
   rw [← Array.getElem?_toList]
   exact h3
  refine ⟨g, cap, rfl, hb, hn, hc, lt_of_block hg, fun j q u hj hq hu => Blk.cell hg (by rw [hat j q hj hq]; exact hu), fun j => Blk.thawed hg j, fun y u hy => ⟨?_, Or.inr ⟨g, cap, cur.setIfInBounds (i * k + c) u, ?_, hb, Blk.set hg (i * k + c) u, ?_, hc, ?_, ?_⟩⟩⟩
  ·rw [flatMap_len hf, List.length_set]
  ·rw [List.length_set]
  ·rw [List.length_set]; exact hn
  ·rw [Array.size_setIfInBounds]; exact hs
  ·rw [List.length_set]
   apply List.ext_getElem?
   intro t
   rcases Nat.lt_or_ge t (l.length * k) with q | q
   ·have k0 : 0 < k := by omega
    have hj : t / k < l.length := Nat.div_lt_of_lt_mul (by rw [Nat.mul_comm]; exact q)
    have hr : t % k < k := Nat.mod_lt _ k0
    have ht2 : t / k * k + t % k = t := Nat.div_add_mod' t k
    have e1 := flatMap_at hf (l.set i y) (t / k) (t % k) (by rw [List.length_set]; exact hj) hr
    rw [ht2, nth_setw _ _ _ _ hj] at e1
    rw [List.getElem?_take_of_lt q, e1, Array.getElem?_toList, Array.getElem?_setIfInBounds]
    by_cases z : i = t / k
    ·subst z
     rw [if_pos rfl, hy, List.getElem?_set, hf]
     by_cases z2 : c = t % k
     ·rw [if_pos (by rw [z2]; exact ht2), if_pos z2, if_pos (by omega), if_pos hcl]
     ·rw [if_neg (by omega), if_neg z2, ← hat (t / k) (t % k) hj hr, ht2]
    ·have hne : ¬ i * k + c = t := fun z2 => z (by
      have a1 : i ≤ t / k := (Nat.le_div_iff_mul_le k0).2 (by omega)
      have a2 : t / k < i + 1 := Nat.div_lt_of_lt_mul (by rw [Nat.mul_comm, Nat.add_mul, Nat.one_mul]; omega)
      omega)
     rw [if_neg hne, if_neg z, ← hat (t / k) (t % k) hj hr, ht2]
   ·rw [List.getElem?_eq_none (by rw [List.length_take]; omega), List.getElem?_eq_none (by rw [flatMap_len hf, List.length_set]; exact q)]
end
end Go.Proofs.YtnekiooaobnndaaDoor.BH
end
section
namespace Go.Proofs.YtnekiooaobnndaaDoor
open Go.RowKit BH

theorem scan_zero {g : Nat → Int} {e : Int} : ∀ {n i : Nat}, scan g e n i = 0 → (∀ j, i ≤ j → j < i + n → g j = 0) ∧ e = 0
 | 0, _, h => ⟨fun j h1 h2 => absurd h2 (by omega), h⟩
 | n + 1, i, h => by
  unfold scan at h
  by_cases h0 : g i = 0
  ·rw [if_pos h0] at h
   obtain ⟨h1, h2⟩ := scan_zero h
   refine ⟨fun j hj1 hj2 => ?_, h2⟩
   by_cases e : j = i
   ·rw [e]; exact h0
   ·exact h1 j (by omega) (by omega)
  ·rw [if_neg h0] at h; exact absurd h h0
structure ImgGood (m : Img) : Prop where
 text : m.Text.length ≤ 8000
 funcs : m.Funcs.length ≤ 40
 func : ∀ i, i < m.Funcs.length → nameOk (fname m i) = true ∧ anyN (sameName m i) i = false ∧ (nth m.Funcs i).Start = sumF m i ∧ 1 ≤ (nth m.Funcs i).Size ∧ (nth m.Funcs i).Size ≤ (m.Text.length : Int) - sumF m i
 sum : sumF m m.Funcs.length = (m.Text.length : Int)
 entry : 0 ≤ m.Entry ∧ m.Entry < (m.Funcs.length : Int)
 tabs : m.Tables.length ≤ 20
 tab : ∀ i, i < m.Tables.length → (nth m.Tables i).length ≤ 20 ∧ ∀ j, j < (nth m.Tables i).length → 0 ≤ nth (nth m.Tables i) j ∧ nth (nth m.Tables i) j < (m.Text.length : Int)
 data : m.Data.length ≤ 64
 dat : ∀ j, j < m.Data.length → -1099511627776 ≤ nth m.Data j ∧ nth m.Data j ≤ 1099511627776
 lines : m.Lines.length ≤ 4000
 line : ∀ i, i < m.Lines.length → 0 ≤ (nth m.Lines i).N ∧ (nth m.Lines i).N ≤ 10000 ∧ lastAt m.Lines i < (nth m.Lines i).At ∧ (nth m.Lines i).At < (m.Text.length : Int)
theorem imgGood (m : Img) (h : imgFault m = 0) : ImgGood m := by
 have t1 : ¬ 8000 < m.Text.length := by
  intro hc; unfold imgFault at h; rw [if_pos hc] at h; cases h
 have t2 : ¬ 40 < m.Funcs.length := by
  intro hc; unfold imgFault funcsFault at h
  rw [if_neg t1, if_pos hc] at h
  simp at h
 rw [imgFault_scan m t1 t2] at h
 obtain ⟨hf, he⟩ := scan_zero h
 unfold endFault at he
 have hs : sumF m m.Funcs.length = (m.Text.length : Int) := by
  by_cases hc : sumF m m.Funcs.length ≠ (m.Text.length : Int)
  ·rw [if_pos hc] at he; cases he
  ·exact Classical.not_not.1 hc
 rw [if_neg (by rw [hs]; simp)] at he
 unfold entryFault at he
 have e1 : ¬ (m.Entry < 0 ∨ (m.Funcs.length : Int) ≤ m.Entry) := by intro hc; rw [if_pos hc] at he; cases he
 rw [if_neg e1] at he
 have e2 : ¬ (20 < m.Tables.length ∨ 64 < m.Data.length) := by intro hc; rw [if_pos hc] at he; cases he
 rw [if_neg e2] at he
 unfold tabsFault at he
 obtain ⟨ht, hd⟩ := scan_zero he
 unfold dataFault at hd
 have d1 : anyN (dataOut m.Data) m.Data.length = false := by
  cases hc : anyN (dataOut m.Data) m.Data.length with
  | false => rfl
  | true => rw [if_pos hc] at hd; cases hd
 rw [if_neg (by rw [d1]; simp)] at hd
 unfold linesFault at hd
 have l1 : ¬ 4000 < m.Lines.length := by intro hc; rw [if_pos hc] at hd; cases hd
 rw [if_neg l1] at hd
 obtain ⟨hl, -⟩ := scan_zero hd
 refine ⟨by omega, by omega, fun i hi => ?_, hs, by omega, by omega, fun i hi => ?_, by omega, fun j hj => ?_, by omega, fun i hi => ?_⟩
 ·have h0 := hf i (Nat.zero_le _) (by omega)
  rcases funBad_cases m i with ⟨-, h1⟩ | ⟨h1, ⟨-, h2⟩ | ⟨h2, ⟨-, h3⟩ | ⟨h3, -⟩⟩⟩
  ·rw [h0] at h1; cases h1
  ·rw [h0] at h2; cases h2
  ·rw [h0] at h3; cases h3
  ·exact ⟨h1, h2, h3⟩
 ·have h0 := ht i (Nat.zero_le _) (by omega)
  rcases tabBad_cases m i with ⟨-, h1⟩ | ⟨h1, ⟨-, h2⟩ | ⟨h2, -⟩⟩
  ·rw [h0] at h1; cases h1
  ·rw [h0] at h2; cases h2
  ·refine ⟨h1, fun j hj => ?_⟩
   have := anyN_false h2 j hj
   simp [outside] at this
   omega
 ·have := anyN_false d1 j hj
  simp [dataOut] at this
  omega
 ·exact lineBad_zero (hl i (Nat.zero_le _) (by omega))
end Go.Proofs.YtnekiooaobnndaaDoor
end
