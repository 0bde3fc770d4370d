/-
  A row of elements of some cells each: an element, or a cell of one, is written; elements are shifted and one is put in. No program is named here.
-/
import Derived.Test.YtjnhiiidcjajbaaGreatDoorRowSort
import Derived.Test.YtjnhiiidcjajbaaGreatDoorFoot
namespace Go.Proofs.YtjnhiiidcjajbaaGreatDoor.BH
open Go.RowKit Go.Sort
set_option maxRecDepth 100000
theorem nth_setw {α : Type} [Inhabited α] (l : List α) (i j : Nat) (x : α) (hj : j < l.length) : nth (l.set i x) j = if i = j then x else nth l j := by
  rw [nth_eq _ _ (by rw [List.length_set]; exact hj), List.getElem_set]
  split
  · rfl
  · rw [nth_eq _ _ hj]
def putW {α : Type} (l : List α) (x : α) (a : Nat) : List α := l.take a ++ x :: l.drop a
theorem putW_len {α : Type} (l : List α) (x : α) (a : Nat) (h : a ≤ l.length) : (putW l x a).length = l.length + 1 := by
  unfold putW
  rw [List.length_append, List.length_cons, List.length_take, List.length_drop]
  omega
/-- the places behind j have been shifted -/
def shg {α : Type} [Inhabited α] (ms : List α) (z : α) (j : Nat) : List α := ms.take j ++ (if j < ms.length then nth ms j else z) :: ms.drop j
theorem shg_len {α : Type} [Inhabited α] (ms : List α) (z : α) (j : Nat) (h : j ≤ ms.length) : (shg ms z j).length = ms.length + 1 := by
  unfold shg
  rw [List.length_append, List.length_cons, List.length_take, List.length_drop]
  omega
theorem shg_top {α : Type} [Inhabited α] (ms : List α) (z : α) : shg ms z ms.length = ms ++ [z] := by unfold shg; simp
theorem shg_step {α : Type} [Inhabited α] (ms : List α) (z : α) {j : Nat} (h0 : 0 < j) (h : j ≤ ms.length) : nth (shg ms z j) (j - 1) = nth ms (j - 1) ∧ (shg ms z j).set j (nth ms (j - 1)) = shg ms z (j - 1) := by
  obtain ⟨k, rfl⟩ : ∃ k, j = k + 1 := ⟨j - 1, by omega⟩
  rw [Nat.add_sub_cancel]
  have hk : k < ms.length := by omega
  have ht : (ms.take (k + 1)).length = k + 1 := by rw [List.length_take]; omega
  constructor
  · unfold shg
    rw [nth_eq _ _ (by rw [List.length_append, ht]; omega), List.getElem_append_left (by rw [ht]; omega), List.getElem_take, ← nth_eq]
  · unfold shg
    rw [List.set_append_right _ _ (by rw [ht]; omega), ht, Nat.sub_self, List.set_cons_zero, if_pos hk, take_succ_nth _ _ hk, List.append_assoc, drop_nth ms k hk]
    rfl
theorem shg_put {α : Type} [Inhabited α] (ms : List α) (z x : α) {a : Nat} (h : a ≤ ms.length) : (shg ms z a).set a x = putW ms x a := by
  unfold shg putW
  have ht : (ms.take a).length = a := by rw [List.length_take]; omega
  rw [List.set_append_right _ _ (by rw [ht]; omega), ht, Nat.sub_self, List.set_cons_zero]
section
variable {α : Type} [Inhabited α] {w : World} {base : Nat} {e : TypeId} {k : Nat} {f : α → List Value} {v : Value} {l : List α}
/-- an element of an own row is written -/
theorem own_setw (hf : ∀ x, (f x).length = k) (H : Own w base e k f v l) {i : Nat} (hi : i < l.length) :
    ∃ g cap, v = .slice (some ⟨g, 0, none⟩) l.length cap ∧ base ≤ g ∧ l.length ≤ cap ∧ cap ≤ maxLen ∧ g < w.heap.size ∧ (∀ j q u, j < l.length → q < k → (f (nth l j))[q]? = some u → w.cell? ⟨g, j * k + q, none⟩ = some u) ∧ (∀ j, w.frozen? ⟨g, j, none⟩ = false) ∧
      ∀ y, Own (w.setCells g (i * k) (f y)) base e k f v (l.set i y) := by
  obtain ⟨h1, h2⟩ := H
  rcases h2 with ⟨rfl, h0⟩ | ⟨g, cap, cur, rfl, hb, hg, hn, hc, hs, ht⟩
  · omega
  · have hlen : (cur.toList.take (l.length * k)).length = l.length * k := by rw [ht, flatMap_len hf]
    have hle : l.length * k ≤ cur.size := by
      rw [hs]
      exact Nat.mul_le_mul_right k hn
    have idx : ∀ j q, j < l.length → q < k → j * k + q < l.length * k := fun j q hj hq => by
      have := Nat.mul_le_mul_right k (show j + 1 ≤ l.length from hj)
      rw [Nat.add_mul, Nat.one_mul] at this
      omega
    have hat : ∀ j q, j < l.length → q < k → cur[j * k + q]? = (f (nth l j))[q]? := fun j q hj hq => by
      have h3 : (cur.toList.take (l.length * k))[j * k + q]? = (l.flatMap f)[j * k + q]? := by rw [ht]
      rw [List.getElem?_take_of_lt (idx j q hj hq), flatMap_at hf l j q hj hq] at h3
      rw [← Array.getElem?_toList]
      exact h3
    refine ⟨g, cap, rfl, hb, hn, hc, lt_of_block hg, fun j q u hj hq hu => Blk.cell hg (by rw [hat j q hj hq]; exact hu), fun j => Blk.thawed hg j, fun y => ⟨?_, Or.inr ⟨g, cap, setMany cur (i * k) (f y), ?_, hb, Blk.setCells (f y) (i * k) hg, ?_, hc, ?_, ?_⟩⟩⟩
    · rw [flatMap_len hf, List.length_set]
    · rw [List.length_set]
    · rw [List.length_set]; exact hn
    · rw [size_setMany]; exact hs
    · rw [List.length_set]
      apply List.ext_getElem?
      intro t
      rcases Nat.lt_or_ge t (l.length * k) with q | q
      · have k0 : 0 < k := by
          rcases Nat.eq_zero_or_pos k with z | z
          · subst z; simp at q
          · exact z
        have hj : t / k < l.length := Nat.div_lt_of_lt_mul (by rw [Nat.mul_comm]; exact q)
        have hr : t % k < k := Nat.mod_lt _ k0
        have ht2 : t / k * k + t % k = t := Nat.div_add_mod' t k
        have e1 := flatMap_at hf (l.set i y) (t / k) (t % k) (by rw [List.length_set]; exact hj) hr
        rw [ht2, nth_setw _ _ _ _ hj] at e1
        rw [List.getElem?_take_of_lt q, e1, Array.getElem?_toList]
        have hsz : t < (setMany cur (i * k) (f y)).size := by rw [size_setMany]; omega
        rw [Array.getElem?_eq_getElem hsz, ← getElem!_pos (setMany cur (i * k) (f y)) t hsz, get_setMany _ _ _ _ (by omega), hf]
        by_cases c : i = t / k
        · subst c
          have hin : t / k * k ≤ t ∧ t < t / k * k + k := ⟨by omega, by omega⟩
          rw [if_pos hin, if_pos rfl, show t - t / k * k = t % k by omega, getElem!_pos (f y) (t % k) (by rw [hf]; exact hr), List.getElem?_eq_getElem (by rw [hf]; exact hr)]
        · have hout : ¬ (i * k ≤ t ∧ t < i * k + k) := fun z => c (by
            have a1 : i ≤ t / k := (Nat.le_div_iff_mul_le k0).2 z.1
            have a2 : t / k < i + 1 := Nat.div_lt_of_lt_mul (by rw [Nat.mul_comm, Nat.add_mul, Nat.one_mul]; exact z.2)
            omega)
          rw [if_neg hout, if_neg c, ← hat (t / k) (t % k) hj hr, ht2, getElem!_pos cur t (by omega), Array.getElem?_eq_getElem (by omega)]
      · rw [List.getElem?_eq_none (by rw [List.length_take]; omega), List.getElem?_eq_none (by rw [flatMap_len hf, List.length_set]; exact q)]
/-- one cell of an element of an own row is written -/
theorem own_setc (hf : ∀ x, (f x).length = k) (H : Own w base e k f v l) {i : Nat} (hi : i < l.length) {c : Nat} (hcl : c < k) :
    ∃ g cap, v = .slice (some ⟨g, 0, none⟩) l.length cap ∧ base ≤ g ∧ l.length ≤ cap ∧ cap ≤ maxLen ∧ g < w.heap.size ∧ (∀ j q u, j < l.length → q < k → (f (nth l j))[q]? = some u → w.cell? ⟨g, j * k + q, none⟩ = some u) ∧ (∀ j, w.frozen? ⟨g, j, none⟩ = false) ∧
      ∀ y u, f y = (f (nth l i)).set c u → Own (w.setCell ⟨g, i * k + c, none⟩ u) base e k f v (l.set i y) := by
  obtain ⟨h1, h2⟩ := H
  rcases h2 with ⟨rfl, h0⟩ | ⟨g, cap, cur, rfl, hb, hg, hn, hc, hs, ht⟩
  · omega
  · have hlen : (cur.toList.take (l.length * k)).length = l.length * k := by rw [ht, flatMap_len hf]
    have hle : l.length * k ≤ cur.size := by
      rw [hs]
      exact Nat.mul_le_mul_right k hn
    have idx : ∀ j q, j < l.length → q < k → j * k + q < l.length * k := fun j q hj hq => by
      have := Nat.mul_le_mul_right k (show j + 1 ≤ l.length from hj)
      rw [Nat.add_mul, Nat.one_mul] at this
      omega
    have hat : ∀ j q, j < l.length → q < k → cur[j * k + q]? = (f (nth l j))[q]? := fun j q hj hq => by
      have h3 : (cur.toList.take (l.length * k))[j * k + q]? = (l.flatMap f)[j * k + q]? := by rw [ht]
      rw [List.getElem?_take_of_lt (idx j q hj hq), flatMap_at hf l j q hj hq] at h3
      rw [← Array.getElem?_toList]
      exact h3
    refine ⟨g, cap, rfl, hb, hn, hc, lt_of_block hg, fun j q u hj hq hu => Blk.cell hg (by rw [hat j q hj hq]; exact hu), fun j => Blk.thawed hg j, fun y u hy => ⟨?_, Or.inr ⟨g, cap, cur.setIfInBounds (i * k + c) u, ?_, hb, Blk.set hg (i * k + c) u, ?_, hc, ?_, ?_⟩⟩⟩
    · rw [flatMap_len hf, List.length_set]
    · rw [List.length_set]
    · rw [List.length_set]; exact hn
    · rw [Array.size_setIfInBounds]; exact hs
    · rw [List.length_set]
      apply List.ext_getElem?
      intro t
      rcases Nat.lt_or_ge t (l.length * k) with q | q
      · have k0 : 0 < k := by omega
        have hj : t / k < l.length := Nat.div_lt_of_lt_mul (by rw [Nat.mul_comm]; exact q)
        have hr : t % k < k := Nat.mod_lt _ k0
        have ht2 : t / k * k + t % k = t := Nat.div_add_mod' t k
        have e1 := flatMap_at hf (l.set i y) (t / k) (t % k) (by rw [List.length_set]; exact hj) hr
        rw [ht2, nth_setw _ _ _ _ hj] at e1
        rw [List.getElem?_take_of_lt q, e1, Array.getElem?_toList, Array.getElem?_setIfInBounds]
        by_cases z : i = t / k
        · subst z
          rw [if_pos rfl, hy, List.getElem?_set, hf]
          by_cases z2 : c = t % k
          · rw [if_pos (by rw [z2]; exact ht2), if_pos z2, if_pos (by omega), if_pos hcl]
          · rw [if_neg (by omega), if_neg z2, ← hat (t / k) (t % k) hj hr, ht2]
        · have hne : ¬ i * k + c = t := fun z2 => z (by
            have a1 : i ≤ t / k := (Nat.le_div_iff_mul_le k0).2 (by omega)
            have a2 : t / k < i + 1 := Nat.div_lt_of_lt_mul (by rw [Nat.mul_comm, Nat.add_mul, Nat.one_mul]; omega)
            omega)
          rw [if_neg hne, if_neg z, ← hat (t / k) (t % k) hj hr, ht2]
      · rw [List.getElem?_eq_none (by rw [List.length_take]; omega), List.getElem?_eq_none (by rw [flatMap_len hf, List.length_set]; exact q)]
end
end Go.Proofs.YtjnhiiidcjajbaaGreatDoor.BH
