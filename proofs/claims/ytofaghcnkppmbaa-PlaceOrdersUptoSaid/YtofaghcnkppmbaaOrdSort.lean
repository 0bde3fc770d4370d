/-
  The stable sort by its mark: a permutation of the elements with their places, in the order that looks at the places where the other says nothing.
-/
import Derived.Test.YtofaghcnkppmbaaStab
import Derived.Test.YtofaghcnkppmbaaCore
namespace Go.Proofs.Ytofaghcnkppmbaa
open Go.Sort
variable {α : Type}
theorem sort_unique {lt : α → α → Bool} (S : SWO lt) (l : List α) (T : List (α × Nat)) (hp : T.Perm l.zipIdx) (hs : T.Pairwise (fun x y => List.zipIdxLE (leOf lt) x y = true)) : T.map Prod.fst = l.mergeSort (leOf lt) := by
  have htr : ∀ a b c : α, leOf lt a b → leOf lt b c → leOf lt a c := fun a b c h1 h2 => by
    simp only [leOf, Bool.not_eq_true'] at h1 h2 ⊢
    exact S.ntrans c b a h2 h1
  have hto : ∀ a b : α, leOf lt a b || leOf lt b a := fun a b => by
    unfold leOf
    cases h : lt b a with
    | false => simp
    | true => simp [S.asymmA h]
  have key : T = l.zipIdx.mergeSort (List.zipIdxLE (leOf lt)) := by
    refine List.Perm.eq_of_pairwise (le := fun x y => List.zipIdxLE (leOf lt) x y = true) ?_ hs (List.pairwise_mergeSort (List.zipIdxLE_trans htr) (List.zipIdxLE_total hto) _) (hp.trans (List.mergeSort_perm _ _).symm)
    intro a b ha hb h1 h2
    have ha' : a ∈ l.zipIdx := hp.mem_iff.1 ha
    have hb' : b ∈ l.zipIdx := List.mem_mergeSort.1 hb
    unfold List.zipIdxLE at h1 h2
    have e : a.2 = b.2 := by
      cases p : leOf lt a.1 b.1 <;> cases q : leOf lt b.1 a.1 <;> simp_all
      omega
    obtain ⟨x, i⟩ := a
    obtain ⟨y, j⟩ := b
    have m1 := List.mem_zipIdx ha'
    have m2 := List.mem_zipIdx hb'
    simp only at e m1 m2
    subst e
    have : x = y := m1.2.2.trans m2.2.2.symm
    rw [this]
  rw [key]
  exact List.mergeSort_zipIdx
/-- an insertion behind all that it does not beat: ordS l is what the document's insertions make -/
def insS (lt : α → α → Bool) (x : α) : List α → List α
  | [] => [x]
  | y :: r => if lt x y then x :: y :: r else y :: insS lt x r
def insP (lt : α → α → Bool) (x : α) (n : Nat) : List (α × Nat) → List (α × Nat)
  | [] => [(x, n)]
  | y :: r => if lt x y.1 then (x, n) :: y :: r else y :: insP lt x n r
theorem insP_map (lt : α → α → Bool) (x : α) (n : Nat) : ∀ T : List (α × Nat), (insP lt x n T).map Prod.fst = insS lt x (T.map Prod.fst)
  | [] => rfl
  | y :: r => by
    unfold insP
    rw [List.map_cons, insS]
    split
    · rfl
    · rw [List.map_cons, insP_map lt x n r]
theorem insP_perm (lt : α → α → Bool) (x : α) (n : Nat) : ∀ T : List (α × Nat), (insP lt x n T).Perm ((x, n) :: T)
  | [] => List.Perm.refl _
  | y :: r => by
    unfold insP
    split
    · exact List.Perm.refl _
    · exact ((insP_perm lt x n r).cons y).trans (List.Perm.swap _ _ _)
theorem insP_pair {lt : α → α → Bool} (S : SWO lt) (x : α) (n : Nat) : ∀ T : List (α × Nat), (∀ z, z ∈ T → z.2 < n) → T.Pairwise (fun x y => List.zipIdxLE (leOf lt) x y = true) → (insP lt x n T).Pairwise (fun x y => List.zipIdxLE (leOf lt) x y = true)
  | [], _, _ => List.pairwise_singleton _ _
  | y :: r, hn, hp => by
    have hp' := List.pairwise_cons.1 hp
    unfold insP
    by_cases h : lt x y.1 = true
    · rw [if_pos h]
      refine List.pairwise_cons.2 ⟨fun z hz => ?_, hp⟩
      have hxz : lt x z.1 = true := by
        rcases List.mem_cons.1 hz with e | hz
        · rw [e]; exact h
        · have h1 := hp'.1 z hz
          unfold List.zipIdxLE leOf at h1
          cases hzy : lt z.1 y.1 with
          | true => rw [hzy] at h1; simp at h1
          | false =>
            cases hc : lt x z.1 with
            | true => rfl
            | false =>
              have := S.ntrans x z.1 y.1 hc hzy
              rw [this] at h
              cases h
      unfold List.zipIdxLE leOf
      simp [hxz, S.asymmA hxz]
    · have h' : lt x y.1 = false := by simpa using h
      rw [if_neg h]
      refine List.pairwise_cons.2 ⟨fun z hz => ?_, insP_pair S x n r (fun z hz => hn z (List.mem_cons_of_mem _ hz)) hp'.2⟩
      rcases List.mem_cons.1 ((insP_perm lt x n r).mem_iff.1 hz) with e | hz
      · subst e
        unfold List.zipIdxLE leOf
        have := hn y (List.mem_cons_self ..)
        simp [h']
        omega
      · exact hp'.1 z hz
/-- one element more: the stable sort puts it behind all that it does not beat -/
theorem sort_snoc {lt : α → α → Bool} (S : SWO lt) (l : List α) (x : α) : (l ++ [x]).mergeSort (leOf lt) = insS lt x (l.mergeSort (leOf lt)) := by
  have htr : ∀ a b c : α, leOf lt a b → leOf lt b c → leOf lt a c := fun a b c h1 h2 => by
    simp only [leOf, Bool.not_eq_true'] at h1 h2 ⊢
    exact S.ntrans c b a h2 h1
  have hto : ∀ a b : α, leOf lt a b || leOf lt b a := fun a b => by
    unfold leOf
    cases h : lt b a with
    | false => simp
    | true => simp [S.asymmA h]
  have hT := List.pairwise_mergeSort (List.zipIdxLE_trans htr) (List.zipIdxLE_total hto) l.zipIdx
  have hP := List.mergeSort_perm l.zipIdx (List.zipIdxLE (leOf lt))
  have hlt : ∀ z, z ∈ l.zipIdx.mergeSort (List.zipIdxLE (leOf lt)) → z.2 < l.length := fun z hz => by
    obtain ⟨a, b⟩ := z
    have := List.mem_zipIdx (List.mem_mergeSort.1 hz)
    simpa using this.2.1
  have h2 := sort_unique S (l ++ [x]) (insP lt x l.length (l.zipIdx.mergeSort (List.zipIdxLE (leOf lt)))) (by
    refine (insP_perm lt x l.length _).trans ?_
    rw [List.zipIdx_append]
    refine ((hP.cons _).trans ?_)
    exact (List.perm_append_comm (l₁ := [(x, l.length)]) (l₂ := l.zipIdx)).trans (by simp)) (insP_pair S x l.length _ hlt hT)
  rw [← h2, insP_map, List.mergeSort_zipIdx]
section
open BH
variable [Inhabited α]
/-- the place i goes ahead of the place j -/
def ahead2 (lt : α → α → Bool) (l : List α) (i j : Nat) : Prop := List.zipIdxLE (leOf lt) (nth l i, i) (nth l j, j) = true
/-- places that were picked, one by one, each ahead of all that are left -/
structure Picks (lt : α → α → Bool) (l : List α) (ps : List Nat) : Prop where
  nodup : ps.Nodup
  bnd : ∀ p, p ∈ ps → p < l.length
  pair : ps.Pairwise (ahead2 lt l)
  left : ∀ p, p ∈ ps → ∀ j, j < l.length → j ∉ ps → ahead2 lt l p j
theorem Picks.nil (lt : α → α → Bool) (l : List α) : Picks lt l [] := ⟨List.nodup_nil, (by intro p h; cases h), List.Pairwise.nil, (by intro p h; cases h)⟩
theorem Picks.step {lt : α → α → Bool} {l : List α} {ps : List Nat} (h : Picks lt l ps) {b : Nat} (hb : b < l.length) (hn : b ∉ ps) (hm : ∀ j, j < l.length → j ∉ ps → j ≠ b → ahead2 lt l b j) : Picks lt l (ps ++ [b]) := by
  refine ⟨?_, ?_, ?_, ?_⟩
  · rw [List.nodup_append]
    exact ⟨h.nodup, by simp, fun a ha c hc e => by simp only [List.mem_singleton] at hc; subst hc; subst e; exact hn ha⟩
  · intro p hp
    rcases List.mem_append.1 hp with hp | hp
    · exact h.bnd p hp
    · simp only [List.mem_singleton] at hp; subst hp; exact hb
  · rw [List.pairwise_append]
    exact ⟨h.pair, List.pairwise_singleton _ _, fun a ha c hc => by simp only [List.mem_singleton] at hc; subst hc; exact h.left a ha _ hb hn⟩
  · intro p hp j hj hjn
    have hj1 : j ∉ ps := fun e => hjn (List.mem_append_left _ e)
    have hj2 : j ≠ b := fun e => hjn (by subst e; simp)
    rcases List.mem_append.1 hp with hp | hp
    · exact h.left p hp j hj hj1
    · simp only [List.mem_singleton] at hp; subst hp; exact hm j hj hj1 hj2
theorem Picks.done {lt : α → α → Bool} (S : SWO lt) {l : List α} {ps : List Nat} (h : Picks lt l ps) (hl : ps.length = l.length) : ps.map (nth l) = l.mergeSort (leOf lt) := by
  have hperm : ps.Perm (List.range l.length) := by
    refine (List.perm_ext_iff_of_nodup h.nodup List.nodup_range).2 fun j => ⟨fun hj => List.mem_range.2 (h.bnd j hj), fun hj => ?_⟩
    by_cases hc : j ∈ ps
    · exact hc
    · exfalso
      have := List.Nodup.length_le_of_subset (List.nodup_cons.2 ⟨hc, h.nodup⟩) (l₂ := List.range l.length) (fun x hx => by
        rcases List.mem_cons.1 hx with e | hx
        · rw [e]; exact hj
        · exact List.mem_range.2 (h.bnd x hx))
      rw [List.length_cons, List.length_range] at this
      omega
  have h1 := sort_unique S l (ps.map fun i => (nth l i, i)) (by
    refine (hperm.map _).trans (List.Perm.of_eq ?_)
    apply List.ext_getElem
    · simp
    · intro i h1 h2
      simp only [List.length_map, List.length_range] at h1
      simp [nth_eq l i h1]) (by
    rw [List.pairwise_map]
    exact h.pair)
  rw [← h1, List.map_map]
  rfl
end
end Go.Proofs.Ytofaghcnkppmbaa
