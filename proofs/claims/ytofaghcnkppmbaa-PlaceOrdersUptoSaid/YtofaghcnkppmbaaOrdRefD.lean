/-
  Part C of the document's OrderOf in plain terms, second half: bounds, and the answer read out of memory.
-/
import Derived.Test.YtofaghcnkppmbaaOrdRefC
namespace Go.Proofs.Ytofaghcnkppmbaa
open Go.RowKit BH Go.Sort
set_option maxHeartbeats 10000000
set_option maxRecDepth 100000
theorem putAt_perm {α : Type} (l : List α) (x : α) (a : Nat) : (putAt l x a).Perm (x :: l) := by
  unfold putAt
  have h := List.perm_middle (a := x) (l₁ := l.take a) (l₂ := l.drop a)
  rwa [List.take_append_drop] at h
theorem insD_perm {α : Type} [Inhabited α] (bt : α → α → Bool) (p : α → Bool) (L : List α) : ∀ k, k ≤ L.length → (insD bt p L k).Perm ((L.take k).filter p)
  | 0, _ => by simp [insD]
  | k + 1, hk => by
    have ih := insD_perm bt p L k (by omega)
    unfold insD
    rw [take_succ_nth _ _ (by omega), List.filter_append]
    by_cases h : p (nth L k) = true
    · have e1 : [nth L k].filter p = [nth L k] := by simp [h]
      rw [if_pos h, e1]
      exact (putAt_perm _ _ _).trans ((ih.cons _).trans (List.perm_append_singleton _ _).symm)
    · have e1 : [nth L k].filter p = [] := by simpa using h
      rw [if_neg h, e1, List.append_nil]
      exact ih
theorem flat_sub {α : Type} {l k : List (List α)} (h : l.Sublist k) : l.flatten.Sublist k.flatten := by
  induction h with
  | slnil => exact List.Sublist.refl _
  | cons a _ ih => exact ih.trans (by rw [List.flatten_cons]; exact List.sublist_append_right _ _)
  | cons_cons a _ ih => rw [List.flatten_cons, List.flatten_cons]; exact List.Sublist.append (List.Sublist.refl _) ih
theorem flat_perm {α : Type} {l k : List (List α)} (h : l.Perm k) : l.flatten.Perm k.flatten := h.flatten
/-- the chains of the document, at the end -/
theorem docL_flat (f : Fl) (l : List Ed) (hok : ∀ e, e ∈ l → EdOk f.Blocks.length e) : (docL f l l.length).2.flatten.Nodup ∧ (docL f l l.length).2.flatten.length ≤ f.Blocks.length := by
  rw [docL_end f l hok]
  have hinv := chL_inv f (l.mergeSort (leOf cntLt)) (fun x hx => hok x (List.mem_mergeSort.1 hx))
  have hfl := cinv_flat hinv
  have hs : (live (chL f (l.mergeSort (leOf cntLt))).ls).flatten.Sublist (chL f (l.mergeSort (leOf cntLt))).ls.flatten := by
    unfold live
    exact flat_sub List.filter_sublist
  exact ⟨hs.nodup hfl.1, Nat.le_trans hs.length_le hfl.2.2⟩
theorem mine_flat {f : Fl} {l : List Ed} {L : List (List Int)} (h : L.flatten.Nodup ∧ L.flatten.length ≤ f.Blocks.length) (i : Nat) : (mineDoc f l L i).flatten.Nodup ∧ (mineDoc f l L i).flatten.length ≤ f.Blocks.length := by
  have hp := insD_perm (mineBt (nth f.Firsts i) (heatR l)) (fun c => decide (fnc f (hdC c).toNat = i)) L L.length (Nat.le_refl _)
  rw [List.take_length] at hp
  have hf := flat_perm hp
  have hs : (L.filter fun c => decide (fnc f (hdC c).toNat = i)).flatten.Sublist L.flatten := flat_sub List.filter_sublist
  unfold mineDoc
  exact ⟨hf.nodup_iff.2 (hs.nodup h.1), by rw [hf.length_eq]; exact Nat.le_trans hs.length_le h.2⟩
theorem row_flat {α : Type} {L : List (List α)} {c : List α} (h : L.flatten.Nodup) (hc : c ∈ L) : c.Nodup := (List.sublist_flatten_of_mem hc).nodup h
theorem heat_fine {n : Nat} {l : List Ed} (hok : ∀ e, e ∈ l → EdOk n e) (hl : l.length ≤ 1073741824) {B : List Int} (hB : B.Nodup) : 0 ≤ heatR l B ∧ heatR l B ≤ 4611686018427387904 := by
  have h1 := heatR_nonneg B l fun e he => (hok e he).2.2.1
  have h2 := heatR_le B hB l hok
  have h3 : (1073741824 : Int) * (l.length : Int) ≤ 1073741824 * 1073741824 := by omega
  exact ⟨h1, by omega⟩
theorem partsAt_idx {w : World} {B : Nat} {e : TypeId} {v : Value} {idx : List Nat} {raw : Nat → Pv} {PL : List Pa} (o : Own w B e 2 cPt v (idx.map raw)) (h : ∀ j, j ∈ idx → (raw j).F = (nth PL j).Func ∧ Ints w (slP (raw j)) (nth PL j).Blocks) : PartsAt w v (idx.map (nth PL)) := by
  refine ⟨fun j => slP (nth (idx.map raw) j), ?_, ?_⟩
  · have ha := o.arr (fun _ => rfl)
    rw [List.length_map] at ha
    rw [List.length_map]
    refine ha.congr fun i j hi hj => ?_
    have hn1 := nth_map raw idx hi
    have hn2 := nth_map (nth PL) idx hi
    have f3 := (h _ (nth_in hi)).1
    rcases j with _ | _ | j
    · rw [if_pos rfl, hn2, ← f3]
      try dsimp only
      try rw [hn1]
      rfl
    · rw [if_neg (by omega)]; rfl
    · omega
  · intro i hi
    have hi' : i < idx.length := by simpa using hi
    dsimp only
    rw [nth_map raw idx hi', nth_map (nth PL) idx hi']
    exact (h _ (nth_in hi')).2
/-- an own row does not hang on what a function says elsewhere -/
theorem map_turn {α : Type} {idx : List Nat} {i : Nat} {g h : Nat → α} (hi : ∀ a, a ∈ idx → a < i) (he : ∀ j, j < i → g j = h j) : idx.map g = idx.map h := List.map_congr_left fun a ha => he a (hi a ha)
theorem sle_form (tv : Nat → Value) (n : Nat) (h : ∀ j, j < n → ∃ s : Sle, tv j = s.v) : ∃ row : Nat → Sle, ∀ j, j < n → tv j = (row j).v := by
  have h1 : ∀ j, ∃ s : Sle, j < n → tv j = s.v := fun j => by
    by_cases q : j < n
    · obtain ⟨s, hs⟩ := h j q
      exact ⟨s, fun _ => hs⟩
    · exact ⟨⟨none, 0, 0⟩, fun z => absurd z q⟩
  obtain ⟨row, hr⟩ := Classical.skolem.1 h1
  exact ⟨row, hr⟩
theorem arr_only {w w' : World} {S : Nat → Prop} (ho : Only S w w') {v : Value} {n k : Nat} {c : Nat → Nat → Value} (h : Arr w v n k c) (hk : 0 < k) (hne : ∀ b, v.ownBlock = some b → ¬ S b) : Arr w' v n k c :=
  ((h.foot hk).move ho.size fun b hb => ho.block b ((h.foot hk).1 b hb) (hne b hb.2)).here
theorem cPt_one (x : Pv) : ∀ u ∈ cPt x, u.oneCell' = true := by intro u hu; simp [cPt] at hu; rcases hu with rfl | rfl <;> rfl
theorem flat_take {α : Type} (g : Nat → List α) (M : List Nat) (k : Nat) : ((M.take k).map g).flatten.length ≤ (M.map g).flatten.length := (flat_sub ((List.take_sublist k M).map g)).length_le
theorem flat_succ {α : Type} (g : Nat → List α) (M : List Nat) {k : Nat} (hk : k < M.length) : ((M.take (k + 1)).map g).flatten = ((M.take k).map g).flatten ++ g (nth M k) := by
  rw [take_succ_nth _ _ hk, List.map_append, List.flatten_append]
  simp
end Go.Proofs.Ytofaghcnkppmbaa
