/-
  Part C of the document's OrderOf in plain terms: insertions, kept as places; a cell row of k cells that is written.
-/
import Derived.Test.YtofaghcnkppmbaaOrdRefM
namespace Go.Proofs.Ytofaghcnkppmbaa
open Go.RowKit BH Go.Sort
set_option maxHeartbeats 10000000
set_option maxRecDepth 100000
/-- places put in one by one from behind, by what stands there -/
def insI (bt : Nat → Nat → Bool) (p : Nat → Bool) : Nat → List Nat
  | 0 => []
  | k + 1 => if p k = true then putAt (insI bt p k) k (atR (bt k) (insI bt p k) (insI bt p k).length) else insI bt p k
theorem putAt_mem {α : Type} {l : List α} {x y : α} {a : Nat} (h : y ∈ putAt l x a) : y ∈ l ∨ y = x := by
  unfold putAt at h
  rcases List.mem_append.1 h with q | q
  · exact Or.inl (List.mem_of_mem_take q)
  · rcases List.mem_cons.1 q with q | q
    · exact Or.inr q
    · exact Or.inl (List.mem_of_mem_drop q)
theorem insI_lt {bt : Nat → Nat → Bool} {p : Nat → Bool} : ∀ k, ∀ a ∈ insI bt p k, a < k
  | 0, a, h => by cases h
  | k + 1, a, h => by
    unfold insI at h
    split at h
    · rcases putAt_mem h with q | q
      · have := insI_lt k a q; omega
      · omega
    · have := insI_lt k a h; omega
theorem insI_len {bt : Nat → Nat → Bool} {p : Nat → Bool} : ∀ k, (insI bt p k).length ≤ k
  | 0 => Nat.le_refl _
  | k + 1 => by
    have ih := insI_len (bt := bt) (p := p) k
    unfold insI
    split
    · rw [putAt_len _ _ _ (atR_le _ _ _)]; omega
    · omega
theorem putAt_map {α β : Type} (g : α → β) (l : List α) (x : α) (a : Nat) : (putAt l x a).map g = putAt (l.map g) (g x) a := by
  unfold putAt
  rw [List.map_append, List.map_cons, List.map_take, List.map_drop]
theorem nth_map {α β : Type} [Inhabited α] [Inhabited β] (g : α → β) (l : List α) {j : Nat} (h : j < l.length) : nth (l.map g) j = g (nth l j) := by
  rw [nth_eq _ _ (by rw [List.length_map]; exact h), List.getElem_map, ← nth_eq]
theorem atR_map {α β : Type} [Inhabited α] [Inhabited β] (g : α → β) (bt : β → Bool) (M : List α) : ∀ j, j ≤ M.length → atR (fun y => bt (g y)) M j = atR bt (M.map g) j
  | 0, _ => rfl
  | j + 1, hj => by
    unfold atR
    rw [nth_map g M (by omega), atR_map g bt M j (by omega)]
theorem insI_map {α : Type} [Inhabited α] (bt : α → α → Bool) (p : α → Bool) (L : List α) : ∀ k, k ≤ L.length → (insI (fun a b => bt (nth L a) (nth L b)) (fun a => p (nth L a)) k).map (nth L) = insD bt p L k
  | 0, _ => rfl
  | k + 1, hk => by
    have ih := insI_map bt p L k (by omega)
    unfold insI insD
    by_cases h : p (nth L k) = true
    · rw [if_pos h, if_pos h, putAt_map, ih, ← ih, List.length_map]
      rw [atR_map (nth L) (bt (nth L k)) _ _ (Nat.le_refl _)]
    · rw [if_neg h, if_neg h]; exact ih
section
variable {α : Type} [Inhabited α] {w : World} {base : Nat} {e : TypeId} {k : Nat} {f : α → List Value} {v : Value} {l : List α}
/-- an element of an own row is written -/
theorem own_setk (hf : ∀ x, (f x).length = k) (H : Own w base e k f v l) {i : Nat} (hi : i < l.length) :
    ∃ g cap, v = .slice (some ⟨g, 0, none⟩) l.length cap ∧ base ≤ g ∧ l.length ≤ cap ∧ cap ≤ maxLen ∧ g < w.heap.size ∧ (∀ j q u, j < l.length → q < k → (f (nth l j))[q]? = some u → w.cell? ⟨g, j * k + q, none⟩ = some u) ∧ (∀ j, w.frozen? ⟨g, j, none⟩ = false) ∧
      ∀ y, Own (w.setCells g (i * k) (f y)) base e k f v (l.set i y) := by
  obtain ⟨h1, h2⟩ := H
  rcases h2 with ⟨rfl, h0⟩ | ⟨g, cap, cur, rfl, hb, hg, hn, hc, hs, ht⟩
  · omega
  · have hlen : (cur.toList.take (l.length * k)).length = l.length * k := by rw [ht, flatMap_len hf]
    have hle : l.length * k ≤ cur.size := by
      rw [hs]
      exact Nat.mul_le_mul_right k hn
    have idx : ∀ j q, j < l.length → q < k → j * k + q < l.length * k := fun j q hj hq => by
      have := Nat.mul_le_mul_right k (show j + 1 ≤ l.length from hj)
      rw [Nat.add_mul, Nat.one_mul] at this
      omega
    have hat : ∀ j q, j < l.length → q < k → cur[j * k + q]? = (f (nth l j))[q]? := fun j q hj hq => by
      have h3 : (cur.toList.take (l.length * k))[j * k + q]? = (l.flatMap f)[j * k + q]? := by rw [ht]
      rw [List.getElem?_take_of_lt (idx j q hj hq), flatMap_at hf l j q hj hq] at h3
      rw [← Array.getElem?_toList]
      exact h3
    refine ⟨g, cap, rfl, hb, hn, hc, lt_of_block hg, fun j q u hj hq hu => Blk.cell hg (by rw [hat j q hj hq]; exact hu), fun j => Blk.thawed hg j, fun y => ⟨?_, Or.inr ⟨g, cap, setMany cur (i * k) (f y), ?_, hb, Blk.setCells (f y) (i * k) hg, ?_, hc, ?_, ?_⟩⟩⟩
    · rw [flatMap_len hf, List.length_set]
    · rw [List.length_set]
    · rw [List.length_set]; exact hn
    · rw [size_setMany]; exact hs
    · rw [List.length_set]
      apply List.ext_getElem?
      intro t
      rcases Nat.lt_or_ge t (l.length * k) with q | q
      · have k0 : 0 < k := by
          rcases Nat.eq_zero_or_pos k with z | z
          · subst z; simp at q
          · exact z
        have hj : t / k < l.length := Nat.div_lt_of_lt_mul (by rw [Nat.mul_comm]; exact q)
        have hr : t % k < k := Nat.mod_lt _ k0
        have ht2 : t / k * k + t % k = t := Nat.div_add_mod' t k
        have e1 := flatMap_at hf (l.set i y) (t / k) (t % k) (by rw [List.length_set]; exact hj) hr
        rw [ht2, nth_set' _ _ _ _ hj] at e1
        rw [List.getElem?_take_of_lt q, e1, Array.getElem?_toList]
        have hsz : t < (setMany cur (i * k) (f y)).size := by rw [size_setMany]; omega
        rw [Array.getElem?_eq_getElem hsz, ← getElem!_pos (setMany cur (i * k) (f y)) t hsz, get_setMany _ _ _ _ (by omega), hf]
        by_cases c : i = t / k
        · subst c
          have hin : t / k * k ≤ t ∧ t < t / k * k + k := ⟨by omega, by omega⟩
          rw [if_pos hin, if_pos rfl, show t - t / k * k = t % k by omega, getElem!_pos (f y) (t % k) (by rw [hf]; exact hr), List.getElem?_eq_getElem (by rw [hf]; exact hr)]
        · have hout : ¬ (i * k ≤ t ∧ t < i * k + k) := fun z => c (by
            have a1 : i ≤ t / k := (Nat.le_div_iff_mul_le k0).2 z.1
            have a2 : t / k < i + 1 := Nat.div_lt_of_lt_mul (by rw [Nat.mul_comm, Nat.add_mul, Nat.one_mul]; exact z.2)
            omega)
          rw [if_neg hout, if_neg c, ← hat (t / k) (t % k) hj hr, ht2, getElem!_pos cur t (by omega), Array.getElem?_eq_getElem (by omega)]
      · rw [List.getElem?_eq_none (by rw [List.length_take]; omega), List.getElem?_eq_none (by rw [flatMap_len hf, List.length_set]; exact q)]
end
end Go.Proofs.Ytofaghcnkppmbaa
