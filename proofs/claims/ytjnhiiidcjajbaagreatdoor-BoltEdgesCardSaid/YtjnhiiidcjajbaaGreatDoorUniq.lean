/-
  The numbers of a list, each once, ascending: by the sort and its equal neighbours struck, and by the document's way (again and again the least that is greater than the last). Plain lists, no program.
-/
import Derived.Test.YtjnhiiidcjajbaaGreatDoorCore
import Derived.Lib.SlicesCompact
namespace Go.Proofs.YtjnhiiidcjajbaaGreatDoor.BH

/-- ascending, each once, the numbers of l -/
def IsUniq (l s : List Int) : Prop := s.Pairwise (· < ·) ∧ ∀ x, x ∈ s ↔ x ∈ l
theorem IsUniq.nodup {l s : List Int} (h : IsUniq l s) : s.Nodup := h.1.imp (fun h => by omega)
theorem IsUniq.length {l s : List Int} (h : IsUniq l s) : s.length ≤ l.length := h.nodup.length_le_of_subset fun x hx => (h.2 x).1 hx

def uniq (l : List Int) : List Int := Lib.compact (l.mergeSort fun x y => decide (x ≤ y))
theorem compact_inv (zs : List Int) (hs : zs.Pairwise (· ≤ ·)) : ∀ m, m ≤ zs.length →
    (Lib.compactUpTo zs.toArray m).Pairwise (· < ·) ∧ (∀ x, x ∈ Lib.compactUpTo zs.toArray m ↔ x ∈ zs.take m) ∧ ∀ x, x ∈ Lib.compactUpTo zs.toArray m → 0 < m → x ≤ nth zs (m - 1)
  | 0, _ => by simp [Lib.compactUpTo]
  | m + 1, hm => by
    obtain ⟨h1, h2, h3⟩ := compact_inv zs hs m (by omega)
    have hd : zs.toArray[m]! = nth zs m := by simp [nth, List.getD_eq_getElem?_getD, show m < zs.length by omega]
    have hd1 : zs.toArray[m - 1]! = nth zs (m - 1) := by simp [nth, List.getD_eq_getElem?_getD, show m - 1 < zs.length by omega]
    have hle : 0 < m → nth zs (m - 1) ≤ nth zs m := fun h0 => by
      rw [nth_eq _ _ (by omega), nth_eq _ _ (by omega)]
      exact List.pairwise_iff_getElem.1 hs (m - 1) m (by omega) (by omega) (by omega)
    rw [Lib.compactUpTo_succ, take_succ_nth zs m (by omega)]
    by_cases hk : Lib.keeps zs.toArray m = true
    · rw [if_pos hk, hd]
      have hlt : 0 < m → nth zs (m - 1) < nth zs m := fun h0 => by
        have := hle h0
        simp only [Lib.keeps, decide_eq_true_eq, hd, hd1] at hk
        rcases hk with hk | hk <;> omega
      refine ⟨?_, fun x => by simp only [List.mem_append, h2], fun x hx _ => ?_⟩
      · rw [List.pairwise_append]
        refine ⟨h1, by simp, fun a ha b hb => ?_⟩
        rcases Nat.eq_zero_or_pos m with h0 | h0
        · subst h0; simp [Lib.compactUpTo] at ha
        · have := h3 a ha h0
          have := hlt h0
          simp only [List.mem_singleton] at hb
          subst hb
          omega
      · simp only [Nat.add_sub_cancel]
        rcases List.mem_append.1 hx with hx | hx
        · rcases Nat.eq_zero_or_pos m with h0 | h0
          · subst h0; simp [Lib.compactUpTo] at hx
          · have := h3 x hx h0
            have := hlt h0
            omega
        · simp only [List.mem_singleton] at hx; omega
    · rw [if_neg hk, List.append_nil]
      have h0 : 0 < m := by
        rcases Nat.eq_zero_or_pos m with h0 | h0
        · subst h0; simp [Lib.keeps] at hk
        · exact h0
      have heq : nth zs m = nth zs (m - 1) := by
        simp only [Lib.keeps, decide_eq_true_eq, hd, hd1] at hk
        by_cases e : nth zs m = nth zs (m - 1)
        · exact e
        · exact absurd (Or.inr e) hk
      refine ⟨h1, fun x => ?_, fun x hx _ => ?_⟩
      · rw [h2, List.mem_append, List.mem_singleton]
        refine ⟨Or.inl, fun h => ?_⟩
        rcases h with h | rfl
        · exact h
        · rw [heq, nth_eq _ _ (by omega)]
          exact List.mem_take_iff_getElem.2 ⟨m - 1, by omega, rfl⟩
      · simp only [Nat.add_sub_cancel]
        rw [heq]; exact h3 x hx h0
theorem uniq_is (l : List Int) : IsUniq l (uniq l) := by
  have hs : (l.mergeSort fun x y => decide (x ≤ y)).Pairwise (· ≤ ·) :=
    (List.pairwise_mergeSort (fun a b c h1 h2 => by simp at *; omega) (fun a b => by simp; omega) l).imp (fun h => by simpa using h)
  obtain ⟨h1, h2, -⟩ := compact_inv _ hs _ (Nat.le_refl _)
  refine ⟨h1, fun x => ?_⟩
  unfold uniq Lib.compact
  rw [h2, List.take_length]
  exact (List.mergeSort_perm l _).mem_iff

/-- is it greater than the last? -/
def gtLo : Option Int → Int → Bool
  | none, _ => true
  | some y, x => decide (y < x)
/-- the place of the least that is greater than the last, among the first k -/
def sel (lo : Option Int) (l : List Int) : Nat → Int
  | 0 => -1
  | k + 1 => if gtLo lo (nth l k) && (decide (sel lo l k < 0) || decide (nth l k < nth l (sel lo l k).toNat)) then k else sel lo l k
theorem sel_is (lo : Option Int) (l : List Int) : ∀ k, (sel lo l k = -1 ∧ ∀ i, i < k → gtLo lo (nth l i) = false) ∨
    ∃ b : Nat, sel lo l k = b ∧ b < k ∧ gtLo lo (nth l b) = true ∧ ∀ i, i < k → gtLo lo (nth l i) = true → nth l b ≤ nth l i
  | 0 => Or.inl ⟨rfl, fun i hi => absurd hi (Nat.not_lt_zero _)⟩
  | k + 1 => by
    rcases sel_is lo l k with ⟨h1, h2⟩ | ⟨b, h1, h2, h3, h4⟩
    · cases hg : gtLo lo (nth l k) with
      | true =>
        right
        refine ⟨k, ?_, Nat.lt_succ_self _, hg, fun i hi h => ?_⟩
        · simp [sel, hg, h1]
        · rcases Nat.lt_succ_iff_lt_or_eq.1 hi with hi | rfl
          · rw [h2 i hi] at h; cases h
          · exact Int.le_refl _
      | false =>
        left
        refine ⟨by simp [sel, hg, h1], fun i hi => ?_⟩
        rcases Nat.lt_succ_iff_lt_or_eq.1 hi with hi | rfl
        · exact h2 i hi
        · exact hg
    · cases hg : gtLo lo (nth l k) with
      | true =>
        by_cases hlt : nth l k < nth l b
        · right
          refine ⟨k, ?_, Nat.lt_succ_self _, hg, fun i hi h => ?_⟩
          · simp [sel, hg, h1, hlt]
          · rcases Nat.lt_succ_iff_lt_or_eq.1 hi with hi | rfl
            · have := h4 i hi h; omega
            · exact Int.le_refl _
        · right
          refine ⟨b, ?_, by omega, h3, fun i hi h => ?_⟩
          · simp only [sel, hg, h1, Int.toNat_natCast, Bool.true_and]
            rw [if_neg]
            simp
            omega
          · rcases Nat.lt_succ_iff_lt_or_eq.1 hi with hi | rfl
            · exact h4 i hi h
            · omega
      | false =>
        right
        refine ⟨b, by simp [sel, hg, h1], by omega, h3, fun i hi h => ?_⟩
        rcases Nat.lt_succ_iff_lt_or_eq.1 hi with hi | rfl
        · exact h4 i hi h
        · rw [hg] at h; cases h

/-- the last of the first r -/
def lastOf (s : List Int) (r : Nat) : Option Int := if r = 0 then none else some (nth s (r - 1))
theorem gtLo_at {l s : List Int} (h : IsUniq l s) {r : Nat} (hr : r ≤ s.length) {j : Nat} (hj : j < s.length) : gtLo (lastOf s r) (nth s j) = decide (r ≤ j) := by
  unfold lastOf
  by_cases h0 : r = 0
  · subst h0; simp [gtLo]
  · rw [if_neg h0]
    simp only [gtLo]
    have hp := List.pairwise_iff_getElem.1 h.1
    rw [nth_eq _ _ (show r - 1 < s.length by omega), nth_eq _ _ hj]
    by_cases hrj : r ≤ j
    · have := hp (r - 1) j (by omega) hj (by omega)
      simp [hrj, this]
    · rw [decide_eq_false hrj]
      rcases Nat.lt_or_ge j (r - 1) with h1 | h1
      · have := hp j (r - 1) hj (by omega) h1
        simp; omega
      · have : j = r - 1 := by omega
        subst this; simp
theorem mem_at {s : List Int} {x : Int} (h : x ∈ s) : ∃ j, j < s.length ∧ nth s j = x := by
  obtain ⟨j, hj, he⟩ := List.getElem_of_mem h
  exact ⟨j, hj, by rw [nth_eq _ _ hj]; exact he⟩
theorem nth_mem {α : Type} [Inhabited α] {s : List α} {j : Nat} (h : j < s.length) : nth s j ∈ s := by rw [nth_eq _ _ h]; exact List.getElem_mem h
/-- none is greater than the last: they are all there -/
theorem sel_none {l s : List Int} (h : IsUniq l s) {r : Nat} (hr : r ≤ s.length) (hs : sel (lastOf s r) l l.length < 0) : r = s.length := by
  rcases sel_is (lastOf s r) l l.length with ⟨-, h2⟩ | ⟨b, h1, -⟩
  · rcases Nat.lt_or_ge r s.length with hlt | hge
    · obtain ⟨i, hi, he⟩ := mem_at ((h.2 _).1 (nth_mem hlt))
      have := h2 i hi
      rw [he, gtLo_at h hr hlt] at this
      simp at this
    · omega
  · omega
/-- one is: it is the next -/
theorem sel_next {l s : List Int} (h : IsUniq l s) {r : Nat} (hr : r ≤ s.length) (hs : ¬ sel (lastOf s r) l l.length < 0) : ∃ b : Nat, sel (lastOf s r) l l.length = b ∧ b < l.length ∧ r < s.length ∧ nth l b = nth s r := by
  rcases sel_is (lastOf s r) l l.length with ⟨h1, -⟩ | ⟨b, h1, h2, h3, h4⟩
  · rw [h1] at hs; exact absurd (by decide) hs
  · refine ⟨b, h1, h2, ?_⟩
    obtain ⟨j, hj, he⟩ := mem_at ((h.2 _).2 (nth_mem h2))
    rw [← he, gtLo_at h hr hj] at h3
    have hrj : r ≤ j := by simpa using h3
    have hlt : r < s.length := by omega
    obtain ⟨i, hi, hei⟩ := mem_at ((h.2 _).1 (nth_mem hlt))
    have hle := h4 i hi (by rw [hei, gtLo_at h hr hlt]; simp)
    rw [hei, ← he] at hle
    refine ⟨hlt, ?_⟩
    rcases Nat.lt_or_ge r j with h5 | h5
    · have := List.pairwise_iff_getElem.1 h.1 r j hlt hj h5
      rw [nth_eq _ _ hj, nth_eq _ _ hlt] at hle
      omega
    · obtain rfl : r = j := by omega
      exact he.symm
end Go.Proofs.YtjnhiiidcjajbaaGreatDoor.BH
