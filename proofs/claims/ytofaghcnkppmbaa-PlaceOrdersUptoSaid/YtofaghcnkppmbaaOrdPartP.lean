/-
  Insertions from behind, as the document sorts: they make the stable sort.
-/
import Derived.Test.YtofaghcnkppmbaaOrdSort
import Derived.Test.YtofaghcnkppmbaaOrdJoinP
namespace Go.Proofs.Ytofaghcnkppmbaa.BH
open Go.Sort
section
variable {α : Type} [Inhabited α]
/-- how far to the front a new element goes that beats what bt says, from the place k on -/
def atR (bt : α → Bool) (l : List α) : Nat → Nat
  | 0 => 0
  | k + 1 => if bt (nth l k) = true then atR bt l k else k + 1
theorem atR_le (bt : α → Bool) (l : List α) : ∀ k, atR bt l k ≤ k
  | 0 => Nat.le_refl _
  | k + 1 => by
    unfold atR
    split
    · exact Nat.le_trans (atR_le bt l k) (Nat.le_succ _)
    · exact Nat.le_refl _
theorem atR_yes (bt : α → Bool) (l : List α) : ∀ k j, atR bt l k ≤ j → j < k → bt (nth l j) = true
  | 0, _, _, h => absurd h (Nat.not_lt_zero _)
  | k + 1, j, h1, h2 => by
    unfold atR at h1
    split at h1
    · rename_i hb
      rcases Nat.lt_or_ge j k with q | q
      · exact atR_yes bt l k j h1 q
      · obtain rfl : j = k := by omega
        exact hb
    · omega
theorem atR_no (bt : α → Bool) (l : List α) : ∀ k, 0 < atR bt l k → bt (nth l (atR bt l k - 1)) = false
  | 0, h => absurd h (Nat.not_lt_zero _)
  | k + 1, h => by
    unfold atR at h ⊢
    split at h
    · rename_i hb
      rw [if_pos hb]
      exact atR_no bt l k h
    · rename_i hb
      rw [if_neg hb]
      simpa using hb
/-- an element put in at a place -/
def putAt (l : List α) (x : α) (a : Nat) : List α := l.take a ++ x :: l.drop a
omit [Inhabited α] in
theorem putAt_len (l : List α) (x : α) (a : Nat) (h : a ≤ l.length) : (putAt l x a).length = l.length + 1 := by
  unfold putAt
  rw [List.length_append, List.length_cons, List.length_take, List.length_drop]
  omega
theorem putAt_ins {lt : α → α → Bool} (x : α) : ∀ (l : List α) (a : Nat), a ≤ l.length → (∀ j, j < a → lt x (nth l j) = false) → (a < l.length → lt x (nth l a) = true) → putAt l x a = insS lt x l
  | [], a, ha, _, _ => by
    obtain rfl : a = 0 := by simpa using ha
    rfl
  | y :: r, 0, _, _, h2 => by
    have : lt x y = true := h2 (by simp)
    unfold putAt insS
    rw [if_pos this]
    rfl
  | y :: r, a + 1, ha, h1, h2 => by
    have h0 : lt x y = false := h1 0 (Nat.succ_pos _)
    have ih := putAt_ins x r a (by simpa using ha) (fun j hj => h1 (j + 1) (by omega)) (fun hq => h2 (by simpa using hq))
    unfold insS
    rw [if_neg (by rw [h0]; exact Bool.false_ne_true), ← ih]
    rfl
/-- an insertion from behind into what is sorted -/
theorem ins_sorted {lt : α → α → Bool} (S : SWO lt) (bt : α → Bool) (x : α) (l : List α) (hs : l.Pairwise (fun x y => leOf lt x y = true)) (hb : ∀ y, y ∈ l → bt y = lt x y) : putAt l x (atR bt l l.length) = insS lt x l := by
  have hle := atR_le bt l l.length
  refine putAt_ins x l _ hle (fun j hj => ?_) (fun hlt => ?_)
  · have hn := atR_no bt l l.length (by omega)
    rw [hb _ (nth_in (by omega))] at hn
    rcases Nat.lt_or_ge j (atR bt l l.length - 1) with q | q
    · have hp := List.pairwise_iff_getElem.1 hs j (atR bt l l.length - 1) (by omega) (by omega) q
      rw [← nth_eq, ← nth_eq] at hp
      simp only [leOf, Bool.not_eq_true'] at hp
      exact S.ntrans _ _ _ hn hp
    · rwa [show j = atR bt l l.length - 1 by omega]
  · have := atR_yes bt l l.length _ (Nat.le_refl _) hlt
    rwa [hb _ (nth_in hlt)] at this
/-- elements that p lets in, put in one by one from behind -/
def insD (bt : α → α → Bool) (p : α → Bool) (L : List α) : Nat → List α
  | 0 => []
  | k + 1 => if p (nth L k) = true then putAt (insD bt p L k) (nth L k) (atR (bt (nth L k)) (insD bt p L k) (insD bt p L k).length) else insD bt p L k
theorem insD_is {lt : α → α → Bool} (S : SWO lt) (bt : α → α → Bool) (p : α → Bool) (L : List α) (hb : ∀ i j, i < j → j < L.length → bt (nth L j) (nth L i) = lt (nth L j) (nth L i)) : ∀ k, k ≤ L.length → insD bt p L k = ((L.take k).filter p).mergeSort (leOf lt)
  | 0, _ => by simp [insD]
  | k + 1, hk => by
    have ih := insD_is S bt p L hb k (by omega)
    unfold insD
    rw [ih, take_succ_nth _ _ (by omega), List.filter_append]
    by_cases h : p (nth L k) = true
    · rw [if_pos h]
      have e1 : [nth L k].filter p = [nth L k] := by simp [h]
      rw [e1, sort_snoc S]
      have htr : ∀ a b c : α, leOf lt a b → leOf lt b c → leOf lt a c := fun a b c h1 h2 => by
        simp only [leOf, Bool.not_eq_true'] at h1 h2 ⊢
        exact S.ntrans c b a h2 h1
      have hto : ∀ a b : α, leOf lt a b || leOf lt b a := fun a b => by
        unfold leOf
        cases h : lt b a with
        | false => simp
        | true => simp [S.asymmA h]
      refine ins_sorted S _ _ _ (List.pairwise_mergeSort htr hto _) fun y hy => ?_
      have h1 := List.mem_filter.1 (List.mem_mergeSort.1 hy)
      obtain ⟨i, hi, e⟩ := List.mem_iff_getElem.1 h1.1
      have hi' : i < k := by
        have := List.length_take (i := k) (l := L)
        omega
      have e2 : y = nth L i := by
        rw [← e, nth_eq _ _ (by omega), List.getElem_take]
      rw [e2]
      exact hb i k hi' (by omega)
    · rw [if_neg h]
      have e1 : [nth L k].filter p = [] := by simpa using h
      rw [e1, List.append_nil]
end
/-- chains of a function: the one with its first block ahead, then the hottest -/
def mineLt (first : Int) (heat : List Int → Int) (x y : List Int) : Bool := if hdC x = first then !decide (hdC y = first) else if hdC y = first then false else decide (heat y < heat x)
theorem mineLt_swo (first : Int) (heat : List Int → Int) : SWO (mineLt first heat) := by
  unfold mineLt
  refine ⟨fun x => ?_, fun x y z h1 h2 => ?_, fun x y z h1 h2 => ?_⟩
  · by_cases h : hdC x = first <;> simp [h]
  · by_cases a : hdC x = first <;> by_cases b : hdC y = first <;> by_cases c : hdC z = first <;> simp_all <;> omega
  · by_cases a : hdC x = first <;> by_cases b : hdC y = first <;> by_cases c : hdC z = first <;> simp_all <;> omega
/-- as the document says it -/
def mineBt (first : Int) (heat : List Int → Int) (x y : List Int) : Bool := decide (hdC x = first) || (!decide (hdC y = first) && decide (heat y < heat x))
theorem mineBt_is {first : Int} {heat : List Int → Int} {x y : List Int} (h : hdC x = hdC y → x = y) (hne : ¬ x = y) : mineBt first heat x y = mineLt first heat x y := by
  unfold mineBt mineLt
  by_cases a : hdC x = first <;> by_cases b : hdC y = first <;> simp [a, b]
  exact absurd (h (a.trans b.symm)) hne
/-- a function's blocks, as they are laid -/
structure Pa where
  Func : Int
  Blocks : List Int
  deriving Inhabited
def paLt (heat : List Int → Int) (x y : Pa) : Bool := decide (heat y.Blocks < heat x.Blocks)
theorem paLt_swo (heat : List Int → Int) : SWO (paLt heat) := by
  refine ⟨fun x => by simp [paLt], fun x y z h1 h2 => ?_, fun x y z h1 h2 => ?_⟩
  · simp only [paLt, decide_eq_true_eq] at *; omega
  · simp only [paLt, decide_eq_false_iff_not] at *; omega
end Go.Proofs.Ytofaghcnkppmbaa.BH
