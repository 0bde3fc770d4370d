/-
  tally.Map and the document's MappedOf in plain terms: sums by pairs of places, and a sorted list of edges; they tell the same.
-/
import Derived.Test.YtjnhiiidcjajbaaGreatDoorFlowCore
namespace Go.Proofs.YtjnhiiidcjajbaaGreatDoor
open BH
set_option maxRecDepth 100000
def lastI (l : List Int) : Int := nth l (l.length - 1)
/-- the last of the first k blocks that ends at x; -1: none -/
def fromI (f : Fl) (x : Int) : Nat → Int
  | 0 => -1
  | k + 1 => if (nth f.Blocks k).At ≠ [] ∧ lastI (nth f.Blocks k).At = x then (k : Int) else fromI f x k
def toI (f : Fl) (x : Int) : Nat → Int
  | 0 => -1
  | k + 1 => if (nth f.Blocks k).Start = x then (k : Int) else toI f x k
theorem fromI_bd (f : Fl) (x : Int) : ∀ k, fromI f x k = -1 ∨ (0 ≤ fromI f x k ∧ fromI f x k < k)
  | 0 => Or.inl rfl
  | k + 1 => by
    unfold fromI
    split
    · exact Or.inr ⟨by omega, by omega⟩
    · rcases fromI_bd f x k with h | h
      · exact Or.inl h
      · exact Or.inr ⟨h.1, by omega⟩
theorem toI_bd (f : Fl) (x : Int) : ∀ k, toI f x k = -1 ∨ (0 ≤ toI f x k ∧ toI f x k < k)
  | 0 => Or.inl rfl
  | k + 1 => by
    unfold toI
    split
    · exact Or.inr ⟨by omega, by omega⟩
    · rcases toI_bd f x k with h | h
      · exact Or.inl h
      · exact Or.inr ⟨h.1, by omega⟩
def optI (z : Int) : Option Int := if z < 0 then none else some z
/-- the sums -/
abbrev SumM : Type := Int × Int → Option Int
def capS (n : Int) : Int := min n 1073741824
def putS (m : SumM) (p : Int × Int) (c : Int) : SumM := fun z => if z = p then some (capS ((m p).getD 0 + c)) else m z
/-- does an edge go where it may: its places -/
def goes (f : Fl) (nx : Int → List Int) (e : Ed) : Prop := 0 ≤ fromI f e.From f.Blocks.length ∧ 0 ≤ toI f e.To f.Blocks.length ∧ toI f e.To f.Blocks.length ∈ nx (fromI f e.From f.Blocks.length)
instance (f : Fl) (nx : Int → List Int) (e : Ed) : Decidable (goes f nx e) := by unfold goes; exact inferInstance
def placeE (f : Fl) (e : Ed) : Int × Int := (fromI f e.From f.Blocks.length, toI f e.To f.Blocks.length)
def stepM (f : Fl) (nx : Int → List Int) (m : SumM) (e : Ed) : SumM := if goes f nx e then putS m (placeE f e) e.Count else m
/-- keys in their order -/
def kLt (p q : Int × Int) : Bool := decide (p.1 < q.1) || (decide (p.1 = q.1) && decide (p.2 < q.2))
theorem kLt_irrefl (p : Int × Int) : kLt p p = false := by simp [kLt]
theorem kLt_trans {p q r : Int × Int} (h1 : kLt p q = true) (h2 : kLt q r = true) : kLt p r = true := by simp [kLt] at *; omega
theorem kLt_total {p q : Int × Int} (h : p ≠ q) : kLt p q = true ∨ kLt q p = true := by
  by_cases h1 : p.1 = q.1
  · by_cases h2 : p.2 = q.2
    · exact absurd (Prod.ext h1 h2) h
    · simp [kLt]; omega
  · simp [kLt]; omega
theorem kLt_asymm {p q : Int × Int} (h : kLt p q = true) : kLt q p = false := by simp [kLt] at *; omega
def keyE (e : Ed) : Int × Int := (e.From, e.To)
/-- where an edge goes in -/
def insAt (D : List Ed) (p : Int × Int) : Nat → Nat
  | 0 => D.length
  | d + 1 => if kLt (keyE (nth D (D.length - (d + 1)))) p = true then insAt D p d else D.length - (d + 1)
/-- an edge's count put into the document's list -/
def addD (p : Int × Int) (c : Int) : List Ed → List Ed
  | [] => [⟨p.1, p.2, c⟩]
  | e :: r => if kLt (keyE e) p = true then e :: addD p c r else if keyE e = p then ⟨p.1, p.2, capS (e.Count + c)⟩ :: r else ⟨p.1, p.2, c⟩ :: e :: r
def stepD (f : Fl) (nx : Int → List Int) (D : List Ed) (e : Ed) : List Ed := if goes f nx e ∧ e.Count ≠ 0 then addD (placeE f e) e.Count D else D
def SortedE (D : List Ed) : Prop := D.Pairwise fun x y => kLt (keyE x) (keyE y) = true
/-- they tell the same -/
structure Alike (m : SumM) (D : List Ed) : Prop where
  srt : SortedE D
  mem : ∀ p n, (⟨p.1, p.2, n⟩ : Ed) ∈ D ↔ (m p = some n ∧ 0 < n)
  val : ∀ p n, m p = some n → 0 ≤ n ∧ n ≤ 1073741824
theorem Alike.nil : Alike (fun _ => none) [] := ⟨List.Pairwise.nil, fun p n => by simp, fun p n h => by cases h⟩
theorem keyE_mk (p : Int × Int) (n : Int) : keyE ⟨p.1, p.2, n⟩ = p := rfl
theorem mem_addD {p : Int × Int} {c : Int} : ∀ {D : List Ed}, SortedE D → ∀ x : Ed, x ∈ addD p c D ↔ ((keyE x ≠ p ∧ x ∈ D) ∨ (keyE x = p ∧ x.Count = (match D.find? (fun y => decide (keyE y = p)) with | some y => capS (y.Count + c) | none => c)))
  | [], _, x => by
    simp only [addD, List.mem_singleton, List.find?_nil, List.not_mem_nil, and_false, false_or]
    constructor
    · rintro rfl; exact ⟨rfl, rfl⟩
    · rintro ⟨h1, h2⟩
      obtain ⟨a, b, n⟩ := x
      cases h1
      cases h2
      rfl
  | e :: r, hs, x => by
    obtain ⟨h1, h2⟩ := List.pairwise_cons.1 hs
    unfold addD
    by_cases hlt : kLt (keyE e) p = true
    · have hne : keyE e ≠ p := fun q => by rw [q, kLt_irrefl] at hlt; cases hlt
      rw [if_pos hlt, List.mem_cons, mem_addD h2 x, List.find?_cons_of_neg (by simpa using hne)]
      constructor
      · rintro (rfl | ⟨q1, q2⟩ | q)
        · exact Or.inl ⟨hne, List.mem_cons_self ..⟩
        · exact Or.inl ⟨q1, List.mem_cons_of_mem _ q2⟩
        · exact Or.inr q
      · rintro (⟨q1, q2⟩ | q)
        · rcases List.mem_cons.1 q2 with rfl | q2
          · exact Or.inl rfl
          · exact Or.inr (Or.inl ⟨q1, q2⟩)
        · exact Or.inr (Or.inr q)
    · rw [if_neg hlt]
      have hr : ∀ y ∈ r, keyE e = p → keyE y ≠ p := fun y hy q z => by
        have := h1 y hy
        rw [q, z, kLt_irrefl] at this
        cases this
      by_cases heq : keyE e = p
      · rw [if_pos heq, List.find?_cons_of_pos (by simpa using heq), List.mem_cons]
        constructor
        · rintro (rfl | q)
          · exact Or.inr ⟨rfl, rfl⟩
          · exact Or.inl ⟨hr x q heq, List.mem_cons_of_mem _ q⟩
        · rintro (⟨q1, q2⟩ | ⟨q1, q2⟩)
          · rcases List.mem_cons.1 q2 with rfl | q2
            · exact absurd heq q1
            · exact Or.inr q2
          · refine Or.inl ?_
            obtain ⟨a, b, n⟩ := x
            cases q1
            cases q2
            rfl
      · rw [if_neg heq]
        have hpe : kLt p (keyE e) = true := by
          rcases kLt_total heq with q | q
          · exact absurd q hlt
          · exact q
        have hall : ∀ y ∈ e :: r, keyE y ≠ p := fun y hy z => by
          rcases List.mem_cons.1 hy with rfl | hy
          · exact heq z
          · have := kLt_trans hpe (h1 y hy)
            rw [z, kLt_irrefl] at this
            cases this
        have hf : (e :: r).find? (fun y => decide (keyE y = p)) = none := by
          rw [List.find?_eq_none]
          intro y hy
          simpa using hall y hy
        rw [hf, List.mem_cons]
        constructor
        · rintro (rfl | q)
          · exact Or.inr ⟨rfl, rfl⟩
          · exact Or.inl ⟨hall x q, q⟩
        · rintro (⟨_, q2⟩ | ⟨q1, q2⟩)
          · exact Or.inr q2
          · refine Or.inl ?_
            obtain ⟨a, b, n⟩ := x
            cases q1
            cases q2
            rfl
theorem addD_keys {p : Int × Int} {c : Int} {D : List Ed} {x : Ed} (h : x ∈ addD p c D) : keyE x = p ∨ ∃ y ∈ D, keyE y = keyE x := by
  induction D with
  | nil => simp only [addD, List.mem_singleton] at h; subst h; exact Or.inl rfl
  | cons e r ih =>
    unfold addD at h
    split at h
    · rcases List.mem_cons.1 h with rfl | h
      · exact Or.inr ⟨_, List.mem_cons_self .., rfl⟩
      · rcases ih h with q | ⟨y, hy, q⟩
        · exact Or.inl q
        · exact Or.inr ⟨y, List.mem_cons_of_mem _ hy, q⟩
    · split at h
      · rcases List.mem_cons.1 h with rfl | h
        · exact Or.inl rfl
        · exact Or.inr ⟨x, List.mem_cons_of_mem _ h, rfl⟩
      · rcases List.mem_cons.1 h with rfl | h
        · exact Or.inl rfl
        · exact Or.inr ⟨x, h, rfl⟩
theorem addD_sorted {p : Int × Int} {c : Int} : ∀ {D : List Ed}, SortedE D → SortedE (addD p c D)
  | [], _ => by unfold addD; exact List.pairwise_singleton _ _
  | e :: r, hs => by
    obtain ⟨h1, h2⟩ := List.pairwise_cons.1 hs
    have ih := addD_sorted (p := p) (c := c) h2
    unfold addD
    split
    · rename_i hlt
      refine List.pairwise_cons.2 ⟨fun x hx => ?_, ih⟩
      rcases addD_keys hx with q | ⟨y, hy, q⟩
      · rw [q]; exact hlt
      · rw [← q]; exact h1 y hy
    · rename_i hlt
      split
      · rename_i heq
        exact List.pairwise_cons.2 ⟨fun x hx => by have := h1 x hx; rw [heq] at this; exact this, h2⟩
      · rename_i heq
        have hpe : kLt p (keyE e) = true := by
          rcases kLt_total heq with q | q
          · exact absurd q hlt
          · exact q
        refine List.pairwise_cons.2 ⟨fun x hx => ?_, hs⟩
        rcases List.mem_cons.1 hx with rfl | hx
        · exact hpe
        · exact kLt_trans hpe (h1 x hx)
theorem Alike.step {f : Fl} {nx : Int → List Int} {m : SumM} {D : List Ed} (h : Alike m D) {e : Ed} (h0 : 0 ≤ e.Count) (h1 : e.Count ≤ 1073741824) : Alike (stepM f nx m e) (stepD f nx D e) := by
  unfold stepM stepD
  by_cases hg : goes f nx e
  · rw [if_pos hg]
    obtain ⟨p, hp⟩ : ∃ p, p = placeE f e := ⟨_, rfl⟩
    rw [← hp]
    have hval : ∀ q n, putS m p e.Count q = some n → 0 ≤ n ∧ n ≤ 1073741824 := fun q n hq => by
      unfold putS at hq
      split at hq
      · injection hq with hq
        have hm : 0 ≤ (m p).getD 0 := by
          cases hmp : m p with
          | none => exact Int.le_refl _
          | some z => exact (h.val p z hmp).1
        unfold capS at hq
        omega
      · exact h.val q n hq
    by_cases hc : e.Count = 0
    · rw [if_neg (fun z => z.2 hc)]
      refine ⟨h.srt, fun q n => ?_, hval⟩
      rw [h.mem]
      unfold putS
      by_cases hq : q = p
      · subst hq
        rw [if_pos rfl, hc, Int.add_zero]
        cases hmp : m q with
        | none => simp [capS]; omega
        | some z =>
          have := h.val q z hmp
          simp [capS]
          omega
      · rw [if_neg hq]
    · rw [if_pos ⟨hg, hc⟩]
      refine ⟨addD_sorted h.srt, fun q n => ?_, hval⟩
      rw [mem_addD h.srt]
      unfold putS
      by_cases hq : q = p
      · subst hq
        rw [if_pos rfl, keyE_mk]
        have hfind : (match D.find? (fun y => decide (keyE y = q)) with | some y => capS (y.Count + e.Count) | none => e.Count) = capS ((m q).getD 0 + e.Count) := by
          cases hf : D.find? (fun y => decide (keyE y = q)) with
          | none =>
            have hno : ∀ y ∈ D, keyE y ≠ q := fun y hy z => by have := List.find?_eq_none.1 hf y hy; simp [z] at this
            cases hmq : m q with
            | none => simp [capS]; omega
            | some z =>
              have hz := h.val q z hmq
              have h00 : ¬ 0 < z := fun hpos => hno ⟨q.1, q.2, z⟩ ((h.mem q z).2 ⟨hmq, hpos⟩) rfl
              simp [capS]
              omega
          | some y =>
            have hy := List.mem_of_find?_eq_some hf
            have hk : keyE y = q := by simpa using List.find?_some hf
            have hy2 : (⟨q.1, q.2, y.Count⟩ : Ed) ∈ D := by
              have : (⟨q.1, q.2, y.Count⟩ : Ed) = y := by rw [← hk]; rfl
              rw [this]; exact hy
            have hm := ((h.mem q y.Count).1 hy2).1
            rw [hm]
            rfl
        rw [hfind]
        constructor
        · rintro (⟨z, -⟩ | ⟨-, z⟩)
          · exact absurd rfl z
          · have z' : n = capS ((m q).getD 0 + e.Count) := z
            refine ⟨by rw [z'], ?_⟩
            have hm : 0 ≤ (m q).getD 0 := by
              cases hmp : m q with
              | none => exact Int.le_refl _
              | some z => exact (h.val q z hmp).1
            rw [z']
            unfold capS
            omega
        · rintro ⟨z, -⟩
          injection z with z
          exact Or.inr ⟨rfl, z.symm⟩
      · rw [if_neg hq, ← h.mem, keyE_mk]
        constructor
        · rintro (⟨-, z⟩ | ⟨z, -⟩)
          · exact z
          · exact absurd z hq
        · exact fun z => Or.inl ⟨hq, z⟩
  · rw [if_neg hg, if_neg (fun z => hg z.1)]
    exact h
/-- keys that are told, in whatever order, sorted, with what is told: the document's list -/
theorem Alike.sorted {m : SumM} {D : List Ed} (h : Alike m D) {K : List (Int × Int)} (hn : K.Nodup) (hk : ∀ p, p ∈ K ↔ ∃ n, m p = some n ∧ 0 < n) : (K.mergeSort fun x y => !kLt y x).map (fun p => (⟨p.1, p.2, (m p).getD 0⟩ : Ed)) = D := by
  have hD : D = (D.map keyE).map (fun p => (⟨p.1, p.2, (m p).getD 0⟩ : Ed)) := by
    rw [List.map_map]
    conv => lhs; rw [← List.map_id D]
    apply List.map_congr_left
    intro e he
    have h1 := (h.mem (keyE e) e.Count).1 (show (⟨(keyE e).1, (keyE e).2, e.Count⟩ : Ed) ∈ D from he)
    show e = ⟨(keyE e).1, (keyE e).2, (m (keyE e)).getD 0⟩
    rw [h1.1]
    rfl
  have hnd : (D.map keyE).Nodup := by
    unfold List.Nodup
    rw [List.pairwise_map]
    exact h.srt.imp fun {a b} hab q => by rw [q, kLt_irrefl] at hab; cases hab
  have hp : K.Perm (D.map keyE) := by
    rw [List.perm_ext_iff_of_nodup hn hnd]
    intro p
    rw [hk, List.mem_map]
    constructor
    · rintro ⟨n, q⟩
      exact ⟨_, (h.mem p n).2 q, rfl⟩
    · rintro ⟨e, he, rfl⟩
      exact ⟨e.Count, (h.mem (keyE e) e.Count).1 he⟩
  have hs : K.mergeSort (fun x y => !kLt y x) = D.map keyE := by
    have p1 : (K.mergeSort fun x y => !kLt y x).Perm (D.map keyE) := (List.mergeSort_perm K _).trans hp
    have s1 : (K.mergeSort fun x y => !kLt y x).Pairwise fun x y => (!kLt y x) = true := by
      refine List.pairwise_mergeSort (fun a b c h1 h2 => ?_) (fun a b => ?_) K
      · simp [kLt] at *; omega
      · simp [kLt]; omega
    have s2 : (D.map keyE).Pairwise fun x y => (!kLt y x) = true := by
      rw [List.pairwise_map]
      exact h.srt.imp fun {a b} hab => by rw [kLt_asymm hab]; rfl
    refine p1.eq_of_pairwise (fun a b _ _ h1 h2 => ?_) s1 s2
    by_cases q : a = b
    · exact q
    · rcases kLt_total q with z | z
      · rw [z] at h2; cases h2
      · rw [z] at h1; cases h1
  rw [hs]
  exact hD.symm
end Go.Proofs.YtjnhiiidcjajbaaGreatDoor
