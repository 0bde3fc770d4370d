/-
  The stable sort of the library, in plain Lean: runs, rotation, merge by symmetric comparisons, passes; what comes out is core's mergeSort.
-/
import Derived.Sort.LotA
import Derived.Sort.LotD2
namespace Go.Proofs.Ytofaghcnkppmbaa
open Go.Sort
variable {α : Type} [Inhabited α]

/-- d' is d, read through a map of places -/
def Via (σ : Nat → Nat) (d d' : Array α) : Prop := d'.size = d.size ∧ ∀ x, d'[x]! = d[σ x]!

def swpR (d : Array α) (a b : Nat) : Nat → Array α
  | 0 => d
  | n + 1 => swp (swpR d a b n) (a + n) (b + n)
def swpRσ (a b n x : Nat) : Nat := if a ≤ x ∧ x < a + n then x - a + b else if b ≤ x ∧ x < b + n then x - b + a else x
def rotσ (a m b x : Nat) : Nat := if x < a then x else if x < a + (b - m) then x + (m - a) else if x < b then x - (b - m) else x

theorem swpR_size (d : Array α) (a b n : Nat) : (swpR d a b n).size = d.size := by
  induction n with
  | zero => rfl
  | succ n ih => rw [swpR, swp_size, ih]

theorem swpR_via (d : Array α) (a b n : Nat) (h : a + n ≤ b) (hb : b + n ≤ d.size) : Via (swpRσ a b n) d (swpR d a b n) := by
  refine ⟨swpR_size d a b n, ?_⟩
  induction n with
  | zero => intro x; unfold swpR swpRσ; simp [show ¬ (a ≤ x ∧ x < a) by omega, show ¬ (b ≤ x ∧ x < b) by omega]
  | succ n ih =>
    have ih := ih (by omega) (by omega)
    intro x
    rw [swpR, swp_get _ (by rw [swpR_size]; omega) (by rw [swpR_size]; omega), ih, ih, ih]
    have e1 : swpRσ a b n (a + n) = a + n := by unfold swpRσ; repeat' (first | omega | split)
    have e2 : swpRσ a b n (b + n) = b + n := by unfold swpRσ; repeat' (first | omega | split)
    rw [e1, e2]
    by_cases h1 : x = b + n
    · subst h1
      rw [if_pos rfl]
      refine congrArg (fun z => d[z]!) ?_
      unfold swpRσ
      repeat' (first | omega | split)
    · rw [if_neg h1]
      by_cases h2 : x = a + n
      · subst h2
        rw [if_pos rfl]
        refine congrArg (fun z => d[z]!) ?_
        unfold swpRσ
        repeat' (first | omega | split)
      · rw [if_neg h2]
        refine congrArg (fun z => d[z]!) ?_
        unfold swpRσ
        repeat' (first | omega | split)

theorem swpR_perm (d : Array α) (a b n lo hi : Nat) (h : a + n ≤ b) (h1 : lo ≤ a) (h2 : b + n ≤ hi) (hb : hi ≤ d.size) : PermIn lo hi d (swpR d a b n) := by
  induction n with
  | zero => exact permIn_refl d lo hi
  | succ n ih =>
    exact permIn_trans _ _ _ lo hi (ih (by omega) (by omega)) (swp_permIn _ _ _ _ _ (by omega) (by omega) (by omega) (by omega) (by rw [swpR_size]; omega))

theorem Via.trans {σ τ : Nat → Nat} {d d' d'' : Array α} (h : Via σ d d') (h' : Via τ d' d'') : Via (fun x => σ (τ x)) d d'' :=
  ⟨by rw [h'.1, h.1], fun x => by rw [h'.2, h.2]⟩
theorem Via.congr {σ τ : Nat → Nat} {d d' : Array α} (h : Via σ d d') (e : ∀ x, σ x = τ x) : Via τ d d' := ⟨h.1, fun x => by rw [h.2, e]⟩

/-- rotate's first way: the left chunk is the longer one -/
theorem rot_left {d d' : Array α} {m i j : Nat} (hi : i ≤ m) (hij : j < i) (hj : 0 < j) (hb : m + j ≤ d.size)
    (h : Via (rotσ (m - (i - j)) m (m + j)) (swpR d (m - i) m j) d') : Via (rotσ (m - i) m (m + j)) d d' := by
  refine ((swpR_via d (m - i) m j (by omega) hb).trans h).congr ?_
  intro x
  unfold rotσ swpRσ
  repeat' (first | omega | split)

theorem rot_right {d d' : Array α} {m i j : Nat} (hi : i ≤ m) (hij : i < j) (h0 : 0 < i) (hb : m + j ≤ d.size)
    (h : Via (rotσ (m - i) m (m + (j - i))) (swpR d (m - i) (m + j - i) i) d') : Via (rotσ (m - i) m (m + j)) d d' := by
  refine ((swpR_via d (m - i) (m + j - i) i (by omega) (by omega)).trans h).congr ?_
  intro x
  unfold rotσ swpRσ
  repeat' (first | omega | split)

theorem rot_even {d : Array α} {m i : Nat} (hi : i ≤ m) (hb : m + i ≤ d.size) : Via (rotσ (m - i) m (m + i)) d (swpR d (m - i) m i) := by
  refine (swpR_via d (m - i) m i (by omega) hb).congr ?_
  intro x
  unfold rotσ swpRσ
  repeat' (first | omega | split)

/-! ### two ascending runs, one behind the other -/
/-- what symMerge is asked: two runs; where an element of the right one is held against one of the left one, the code's order is the lexical one -/
structure Runs (lt' lt : α → α → Bool) (a m b : Nat) (d : Array α) : Prop where
  am : a < m
  mb : m < b
  bd : b ≤ d.size
  sl : SortedIn lt' a m d
  sr : SortedIn lt' m b d
  ag : ∀ i j, a ≤ i → i < m → m ≤ j → j < b → lt' d[j]! d[i]! = lt d[j]! d[i]!

def Merged (lt' : α → α → Bool) (a b : Nat) (d d' : Array α) : Prop := PermIn a b d d' ∧ SortedIn lt' a b d'

theorem sorted_join {lt' : α → α → Bool} {a m b : Nat} {d : Array α} (h1 : SortedIn lt' a m d) (h2 : SortedIn lt' m b d) (h : ∀ x y, a ≤ x → x < m → m ≤ y → y < b → lt' d[y]! d[x]! = false) : SortedIn lt' a b d := by
  intro i j hi hij hj
  by_cases c1 : j < m
  · exact h1 i j hi hij c1
  · by_cases c2 : m ≤ i
    · exact h2 i j c2 hij hj
    · exact h i j hi (by omega) (by omega) hj

def upR (d : Array α) (a : Nat) : Nat → Array α
  | 0 => d
  | n + 1 => swp (upR d a n) (a + n) (a + n + 1)
def downR (d : Array α) (m : Nat) : Nat → Array α
  | 0 => d
  | n + 1 => swp (downR d m n) (m - n) (m - n - 1)

theorem upR_size (d : Array α) (a n : Nat) : (upR d a n).size = d.size := by
  induction n with
  | zero => rfl
  | succ n ih => rw [upR, swp_size, ih]
theorem downR_size (d : Array α) (a n : Nat) : (downR d a n).size = d.size := by
  induction n with
  | zero => rfl
  | succ n ih => rw [downR, swp_size, ih]
theorem upR_via (d : Array α) (a n : Nat) (hb : a + n < d.size) : Via (rotσ a (a + 1) (a + 1 + n)) d (upR d a n) := by
  refine ⟨upR_size d a n, ?_⟩
  induction n with
  | zero =>
    intro x
    unfold upR
    refine congrArg (fun z => d[z]!) ?_
    unfold rotσ
    repeat' (first | omega | split)
  | succ n ih =>
    have ih := ih (by omega)
    intro x
    rw [upR, swp_get _ (by rw [upR_size]; omega) (by rw [upR_size]; omega), ih, ih, ih]
    split
    · refine congrArg (fun z => d[z]!) ?_
      unfold rotσ
      repeat' (first | omega | split)
    · split
      · refine congrArg (fun z => d[z]!) ?_
        unfold rotσ
        repeat' (first | omega | split)
      · refine congrArg (fun z => d[z]!) ?_
        unfold rotσ
        repeat' (first | omega | split)
theorem downR_via (d : Array α) (m n : Nat) (hn : n ≤ m) (hb : m < d.size) : Via (rotσ (m - n) m (m + 1)) d (downR d m n) := by
  refine ⟨downR_size d m n, ?_⟩
  induction n with
  | zero =>
    intro x
    unfold downR
    refine congrArg (fun z => d[z]!) ?_
    unfold rotσ
    repeat' (first | omega | split)
  | succ n ih =>
    have ih := ih (by omega)
    intro x
    rw [downR, swp_get _ (by rw [downR_size]; omega) (by rw [downR_size]; omega), ih, ih, ih]
    split
    · refine congrArg (fun z => d[z]!) ?_
      unfold rotσ
      repeat' (first | omega | split)
    · split
      · refine congrArg (fun z => d[z]!) ?_
        unfold rotσ
        repeat' (first | omega | split)
      · refine congrArg (fun z => d[z]!) ?_
        unfold rotσ
        repeat' (first | omega | split)
theorem upR_perm (d : Array α) (a n lo hi : Nat) (h1 : lo ≤ a) (h2 : a + n < hi) (hb : hi ≤ d.size) : PermIn lo hi d (upR d a n) := by
  induction n with
  | zero => exact permIn_refl d lo hi
  | succ n ih => exact permIn_trans _ _ _ lo hi (ih (by omega)) (swp_permIn _ _ _ _ _ (by omega) (by omega) (by omega) (by omega) (by rw [upR_size]; omega))
theorem downR_perm (d : Array α) (m n lo hi : Nat) (h1 : lo + n ≤ m) (h2 : m < hi) (hb : hi ≤ d.size) : PermIn lo hi d (downR d m n) := by
  induction n with
  | zero => exact permIn_refl d lo hi
  | succ n ih => exact permIn_trans _ _ _ lo hi (ih (by omega)) (swp_permIn _ _ _ _ _ (by omega) (by omega) (by omega) (by omega) (by rw [downR_size]; omega))

section
variable {lt' lt : α → α → Bool} {a m b : Nat} {d d' : Array α}

theorem Via.at {σ : Nat → Nat} (h : Via σ d d') (x y : Nat) (e : σ x = y) : d'[x]! = d[y]! := by rw [h.2, e]

/-- the left run has one element -/
theorem merged_left (S : SWO lt') (H : Runs lt' lt a m b d) (hm : m = a + 1) {i : Nat} (h1 : m ≤ i) (h2 : i ≤ b) (c1 : i = m ∨ lt d[i - 1]! d[a]! = true) (c2 : i = b ∨ lt d[i]! d[a]! = false)
    (hv : Via (rotσ a m i) d d') : SortedIn lt' a b d' := by
  subst hm
  have e1 : ∀ x, a ≤ x → x < i - 1 → d'[x]! = d[x + 1]! := fun x p q => hv.at x _ (by unfold rotσ; repeat' (first | omega | split))
  have e2 : d'[i - 1]! = d[a]! := hv.at _ _ (by unfold rotσ; repeat' (first | omega | split))
  have e3 : ∀ x, i ≤ x → x < b → d'[x]! = d[x]! := fun x p q => hv.at x _ (by unfold rotσ; repeat' (first | omega | split))
  have k1 : ∀ y, a + 1 ≤ y → y < i → lt' d[a]! d[y]! = false := fun y p q => by
    rcases c1 with c1 | c1
    · omega
    · have g := (H.ag a (i - 1) (Nat.le_refl _) (by omega) (by omega) (by omega)).trans c1
      by_cases hy : y = i - 1
      · subst hy; exact S.asymmA g
      · exact S.ntrans _ _ _ (S.asymmA g) (H.sr y (i - 1) (by omega) (by omega) (by omega))
  have k2 : ∀ y, i ≤ y → y < b → lt' d[y]! d[a]! = false := fun y p q => by
    rcases c2 with c2 | c2
    · omega
    · have g := (H.ag a i (Nat.le_refl _) (by omega) (by omega) (by omega)).trans c2
      by_cases hy : y = i
      · subst hy; exact g
      · exact S.ntrans _ _ _ (H.sr i y (by omega) (by omega) (by omega)) g
  intro x y hx hxy hy
  by_cases y1 : y < i - 1
  · rw [e1 x hx (by omega), e1 y (by omega) y1]; exact H.sr _ _ (by omega) (by omega) (by omega)
  · by_cases y2 : y = i - 1
    · subst y2; rw [e2, e1 x hx (by omega)]; exact k1 _ (by omega) (by omega)
    · rw [e3 y (by omega) hy]
      by_cases x1 : x < i - 1
      · rw [e1 x hx x1]; exact H.sr _ _ (by omega) (by omega) (by omega)
      · by_cases x2 : x = i - 1
        · subst x2; rw [e2]; exact k2 _ (by omega) hy
        · rw [e3 x (by omega) (by omega)]; exact H.sr _ _ (by omega) (by omega) (by omega)

/-- the right run has one element -/
theorem merged_right (S : SWO lt') (H : Runs lt' lt a m b d) (hm : b = m + 1) {i : Nat} (h1 : a ≤ i) (h2 : i ≤ m) (c1 : i = a ∨ lt d[m]! d[i - 1]! = false) (c2 : i = m ∨ lt d[m]! d[i]! = true)
    (hv : Via (rotσ i m b) d d') : SortedIn lt' a b d' := by
  subst hm
  have e1 : ∀ x, a ≤ x → x < i → d'[x]! = d[x]! := fun x p q => hv.at x _ (by unfold rotσ; repeat' (first | omega | split))
  have e2 : d'[i]! = d[m]! := hv.at _ _ (by unfold rotσ; repeat' (first | omega | split))
  have e3 : ∀ x, i < x → x < m + 1 → d'[x]! = d[x - 1]! := fun x p q => hv.at x _ (by unfold rotσ; repeat' (first | omega | split))
  have k1 : ∀ x, a ≤ x → x < i → lt' d[m]! d[x]! = false := fun x p q => by
    rcases c1 with c1 | c1
    · omega
    · have g := (H.ag (i - 1) m (by omega) (by omega) (by omega) (by omega)).trans c1
      by_cases hy : x = i - 1
      · subst hy; exact g
      · exact S.ntrans _ _ _ g (H.sl x (i - 1) (by omega) (by omega) (by omega))
  have k2 : ∀ x, i ≤ x → x < m → lt' d[x]! d[m]! = false := fun x p q => by
    rcases c2 with c2 | c2
    · omega
    · have g := (H.ag i m (by omega) (by omega) (by omega) (by omega)).trans c2
      by_cases hy : x = i
      · subst hy; exact S.asymmA g
      · exact S.ntrans _ _ _ (H.sl i x (by omega) (by omega) (by omega)) (S.asymmA g)
  intro x y hx hxy hy
  by_cases y1 : y < i
  · rw [e1 x hx (by omega), e1 y (by omega) y1]; exact H.sl _ _ (by omega) (by omega) (by omega)
  · by_cases y2 : y = i
    · subst y2; rw [e2, e1 x hx (by omega)]; exact k1 _ (by omega) (by omega)
    · rw [e3 y (by omega) hy]
      by_cases x1 : x < i
      · rw [e1 x hx x1]; exact H.sl _ _ (by omega) (by omega) (by omega)
      · by_cases x2 : x = i
        · subst x2; rw [e2]; exact k2 _ (by omega) (by omega)
        · rw [e3 x (by omega) (by omega)]; exact H.sl _ _ (by omega) (by omega) (by omega)

/-- what the rotation leaves: two pairs of runs, the left pair not above the right one -/
structure Cut (lt' lt : α → α → Bool) (a s mid e b : Nat) (d : Array α) : Prop where
  as : a ≤ s
  sm : s ≤ mid
  me : mid ≤ e
  eb : e ≤ b
  bd : b ≤ d.size
  s1 : SortedIn lt' a s d
  s2 : SortedIn lt' s mid d
  s3 : SortedIn lt' mid e d
  s4 : SortedIn lt' e b d
  g1 : ∀ i j, a ≤ i → i < s → s ≤ j → j < mid → lt' d[j]! d[i]! = lt d[j]! d[i]!
  g2 : ∀ i j, mid ≤ i → i < e → e ≤ j → j < b → lt' d[j]! d[i]! = lt d[j]! d[i]!
  lo : ∀ x y, a ≤ x → x < mid → mid ≤ y → y < b → lt' d[y]! d[x]! = false

theorem sym_cut (S : SWO lt') (H : Runs lt' lt a m b d) {s n mid lo hi : Nat} (hmid : mid = (a + b) / 2) (hn : n = mid + m) (hlo : lo = if m > mid then n - b else a) (hhi : hi = if m > mid then mid else m)
    (h1 : lo ≤ s) (h2 : s ≤ hi) (c1 : s = lo ∨ lt d[n - 1 - (s - 1)]! d[s - 1]! = false) (c2 : s = hi ∨ lt d[n - 1 - s]! d[s]! = true) (hv : Via (rotσ s m (n - s)) d d') :
    Cut lt' lt a s mid (n - s) b d' := by
  have := H.am
  have := H.mb
  have hb := H.bd
  have q1 : a ≤ s := by split at hlo <;> omega
  have q2 : s ≤ mid := by split at hhi <;> omega
  have q3 : s ≤ m := by split at hhi <;> omega
  have q4 : m ≤ n - s := by omega
  have q5 : n - s ≤ b := by split at hlo <;> omega
  have w1 : ∀ x, a ≤ x → x < s → d'[x]! = d[x]! := fun x p q => hv.at x _ (by unfold rotσ; repeat' (first | omega | split))
  have w2 : ∀ x, s ≤ x → x < mid → d'[x]! = d[x + (m - s)]! := fun x p q => hv.at x _ (by unfold rotσ; repeat' (first | omega | split))
  have w3 : ∀ x, mid ≤ x → x < n - s → d'[x]! = d[x - (n - s - m)]! := fun x p q => hv.at x _ (by unfold rotσ; repeat' (first | omega | split))
  have w4 : ∀ x, n - s ≤ x → x < b → d'[x]! = d[x]! := fun x p q => hv.at x _ (by unfold rotσ; repeat' (first | omega | split))
  -- the left run's head is not above the right run's tail
  have k1 : ∀ i j, a ≤ i → i < s → n - s ≤ j → j < b → lt' d[j]! d[i]! = false := fun i j p1 p2 p3 p4 => by
    rcases c1 with c1 | c1
    · exfalso; split at hlo <;> omega
    · have e : n - 1 - (s - 1) = n - s := by omega
      rw [e] at c1
      have g := (H.ag (s - 1) (n - s) (by omega) (by omega) (by omega) (by omega)).trans c1
      have g2 : lt' d[j]! d[s - 1]! = false := by
        by_cases hj : j = n - s
        · subst hj; exact g
        · exact S.ntrans _ _ _ (H.sr (n - s) j (by omega) (by omega) p4) g
      by_cases hi : i = s - 1
      · subst hi; exact g2
      · exact S.ntrans _ _ _ g2 (H.sl i (s - 1) p1 (by omega) (by omega))
  have k2 : ∀ i j, s ≤ i → i < m → m ≤ j → j < n - s → lt' d[i]! d[j]! = false := fun i j p1 p2 p3 p4 => by
    rcases c2 with c2 | c2
    · exfalso; split at hhi <;> omega
    · have g := (H.ag s (n - 1 - s) (by omega) (by omega) (by omega) (by omega)).trans c2
      have g2 : lt' d[s]! d[j]! = false := by
        by_cases hj : j = n - 1 - s
        · subst hj; exact S.asymmA g
        · exact S.ntrans _ _ _ (S.asymmA g) (H.sr j (n - 1 - s) (by omega) (by omega) (by omega))
      by_cases hi : i = s
      · subst hi; exact g2
      · exact S.ntrans _ _ _ (H.sl s i (by omega) (by omega) (by omega)) g2
  refine ⟨q1, q2, by omega, q5, by rw [hv.1]; exact hb, ?_, ?_, ?_, ?_, ?_, ?_, ?_⟩
  · intro i j p1 p2 p3
    rw [w1 i p1 (by omega), w1 j (by omega) p3]; exact H.sl i j p1 p2 (by omega)
  · intro i j p1 p2 p3
    rw [w2 i p1 (by omega), w2 j (by omega) p3]; exact H.sr _ _ (by omega) (by omega) (by omega)
  · intro i j p1 p2 p3
    rw [w3 i p1 (by omega), w3 j (by omega) p3]; exact H.sl _ _ (by omega) (by omega) (by omega)
  · intro i j p1 p2 p3
    rw [w4 i p1 (by omega), w4 j (by omega) p3]; exact H.sr _ _ (by omega) (by omega) (by omega)
  · intro i j p1 p2 p3 p4
    rw [w1 i p1 p2, w2 j p3 p4]; exact H.ag _ _ p1 (by omega) (by omega) (by omega)
  · intro i j p1 p2 p3 p4
    rw [w3 i p1 p2, w4 j p3 p4]; exact H.ag _ _ (by omega) (by omega) (by omega) (by omega)
  · intro x y p1 p2 p3 p4
    by_cases x1 : x < s
    · rw [w1 x p1 x1]
      by_cases y1 : y < n - s
      · rw [w3 y p3 y1]; exact H.sl _ _ p1 (by omega) (by omega)
      · rw [w4 y (by omega) p4]; exact k1 _ _ p1 x1 (by omega) p4
    · rw [w2 x (by omega) p2]
      by_cases y1 : y < n - s
      · rw [w3 y p3 y1]; exact k2 _ _ (by omega) (by omega) (by omega) (by omega)
      · rw [w4 y (by omega) p4]; exact H.sr _ _ (by omega) (by omega) p4

theorem Cut.left {s mid e : Nat} (C : Cut lt' lt a s mid e b d) (h1 : a < s) (h2 : s < mid) : Runs lt' lt a s mid d := ⟨h1, h2, by have := C.me; have := C.eb; have := C.bd; omega, C.s1, C.s2, C.g1⟩
theorem Cut.left_done {s mid e : Nat} (C : Cut lt' lt a s mid e b d) (h : ¬ (a < s ∧ s < mid)) : SortedIn lt' a mid d := by
  have := C.as
  have := C.sm
  by_cases h1 : a = s
  · have := C.s2; rw [← h1] at this; exact this
  · obtain rfl : s = mid := by omega
    exact C.s1
/-- behind the left merge -/
theorem Cut.right {s mid e : Nat} (C : Cut lt' lt a s mid e b d) (hp : PermIn a mid d d') (h1 : mid < e) (h2 : e < b) : Runs lt' lt mid e b d' := by
  have h : ∀ x, mid ≤ x → d'[x]! = d[x]! := fun x hx => hp.2.1 x (Or.inr hx)
  refine ⟨h1, h2, by rw [hp.1]; exact C.bd, fun i j p1 p2 p3 => ?_, fun i j p1 p2 p3 => ?_, fun i j p1 p2 p3 p4 => ?_⟩
  · rw [h i p1, h j (by omega)]; exact C.s3 i j p1 p2 p3
  · rw [h i (by omega), h j (by omega)]; exact C.s4 i j p1 p2 p3
  · rw [h i (by omega), h j (by omega)]; exact C.g2 i j p1 p2 p3 p4
theorem Cut.right_done {s mid e : Nat} (C : Cut lt' lt a s mid e b d) (hp : PermIn a mid d d') (h : ¬ (mid < e ∧ e < b)) : SortedIn lt' mid b d' := by
  have h0 : ∀ x, mid ≤ x → d'[x]! = d[x]! := fun x hx => hp.2.1 x (Or.inr hx)
  have := C.me
  have := C.eb
  intro i j p1 p2 p3
  rw [h0 i p1, h0 j (by omega)]
  by_cases h1 : mid = e
  · exact C.s4 i j (by omega) p2 p3
  · exact C.s3 i j p1 p2 (by omega)
theorem Cut.glue {s mid e : Nat} (C : Cut lt' lt a s mid e b d) {d1 d2 : Array α} (p1 : PermIn a mid d d1) (s1 : SortedIn lt' a mid d1) (p2 : PermIn mid b d1 d2) (s2 : SortedIn lt' mid b d2) : Merged lt' a b d d2 := by
  have c1 := C.as
  have c2 := C.sm
  have c3 := C.me
  have c4 := C.eb
  have c5 := C.bd
  refine ⟨permIn_trans _ _ _ a b (permIn_mono d d1 a mid a b (Nat.le_refl _) (by omega) c5 p1) (permIn_mono d1 d2 mid b a b (by omega) (Nat.le_refl _) (by rw [p1.1]; exact c5) p2), ?_⟩
  have low : ∀ x, x < mid → d2[x]! = d1[x]! := fun x hx => p2.2.1 x (Or.inl hx)
  refine sorted_join (m := mid) (fun i j q1 q2 q3 => ?_) s2 (fun x y q1 q2 q3 q4 => ?_)
  · rw [low i (by omega), low j q3]; exact s1 i j q1 q2 q3
  · rw [low x q2]
    refine permIn_all d1 d2 mid b (fun z => lt' z d1[x]! = false) (by rw [p1.1]; exact c5) p2 (fun y h1 h2 => ?_) y q3 q4
    rw [p1.2.1 y (Or.inr h1)]
    exact permIn_all d d1 a mid (fun z => lt' d[y]! z = false) (by omega) p1 (fun x h3 h4 => C.lo x y h3 h4 h1 h2) x q1 q2
end

/-! ### the stable order: equal ones by their ranks -/
def lexLt (lt : α → α → Bool) (rk : α → Nat) (x y : α) : Bool := lt x y || (!lt y x && decide (rk x < rk y))

omit [Inhabited α] in
theorem lexLt_swo {lt : α → α → Bool} (S : SWO lt) (rk : α → Nat) : SWO (lexLt lt rk) := by
  refine ⟨fun x => by simp [lexLt, S.irrefl], fun x y z h1 h2 => ?_, fun x y z h1 h2 => ?_⟩
  · have t1 := S.trans x y z
    have t2 := S.ntrans x y z
    have t3 := S.ntrans z y x
    have t4 := S.ntrans y x z
    have t5 := S.ntrans z x y
    have t6 := S.ntrans y z x
    have t7 := S.ntrans x z y
    have a1 := fun h : lt x y = true => S.asymmA h
    have a2 := fun h : lt y z = true => S.asymmA h
    have a3 := fun h : lt x z = true => S.asymmA h
    unfold lexLt at *
    cases xy : lt x y <;> cases yx : lt y x <;> cases yz : lt y z <;> cases zy : lt z y <;> cases xz : lt x z <;> cases zx : lt z x <;> simp_all
    all_goals omega
  · have t1 := S.trans x y z
    have t2 := S.ntrans x y z
    have t3 := S.ntrans z y x
    have t4 := S.ntrans y x z
    have t5 := S.ntrans z x y
    have t6 := S.ntrans y z x
    have t7 := S.ntrans x z y
    have a1 := fun h : lt x y = true => S.asymmA h
    have a2 := fun h : lt y z = true => S.asymmA h
    have a3 := fun h : lt x z = true => S.asymmA h
    unfold lexLt at *
    cases xy : lt x y <;> cases yx : lt y x <;> cases yz : lt y z <;> cases zy : lt z y <;> cases xz : lt x z <;> cases zx : lt z x <;> simp_all
    all_goals omega

section
variable {lt lt0 : α → α → Bool} {rk : α → Nat} {Q : α → Prop}

omit [Inhabited α] in
theorem lexLt_up {x y : α} (h : rk x < rk y) : lexLt lt0 rk y x = lt0 y x := by
  unfold lexLt
  simp [show ¬ rk y < rk x by omega]

/-- on what may stand in the row, at two places, the code's order is the clean one -/
def Agr (lt lt0 : α → α → Bool) (rk : α → Nat) (Q : α → Prop) : Prop := ∀ x y, Q x → Q y → rk x ≠ rk y → lt x y = lt0 x y

/-- ascending, and of the ranks of its places -/
def Seg (lt0 : α → α → Bool) (rk : α → Nat) (Q : α → Prop) (s e : Nat) (d : Array α) : Prop := SortedIn (lexLt lt0 rk) s e d ∧ ∀ i, s ≤ i → i < e → s ≤ rk d[i]! ∧ rk d[i]! < e ∧ Q d[i]!

theorem Seg.congr {s e : Nat} {d d' : Array α} (h : Seg lt0 rk Q s e d) (he : ∀ i, s ≤ i → i < e → d'[i]! = d[i]!) : Seg lt0 rk Q s e d' :=
  ⟨h.1.congr he, fun i p q => by rw [he i p q]; exact h.2 i p q⟩

theorem Seg.runs (A : Agr lt lt0 rk Q) {s m e : Nat} {d : Array α} (h1 : Seg lt0 rk Q s m d) (h2 : Seg lt0 rk Q m e d) (p : s < m) (q : m < e) (hb : e ≤ d.size) : Runs (lexLt lt0 rk) lt s m e d :=
  ⟨p, q, hb, h1.1, h2.1, fun i j a b c f => by
    have k1 := h1.2 i a b
    have k2 := h2.2 j c f
    rw [lexLt_up (by omega), A _ _ k2.2.2 k1.2.2 (by omega)]⟩

theorem Seg.merged {s m e : Nat} {d d' : Array α} (h1 : Seg lt0 rk Q s m d) (h2 : Seg lt0 rk Q m e d) (p : s < m) (q : m < e) (hb : e ≤ d.size) (h : Merged (lexLt lt0 rk) s e d d') : Seg lt0 rk Q s e d' := by
  refine ⟨h.2, permIn_all d d' s e (fun z => s ≤ rk z ∧ rk z < e ∧ Q z) hb h.1 (fun i a b => ?_)⟩
  by_cases c : i < m
  · have := h1.2 i a c
    exact ⟨this.1, by omega, this.2.2⟩
  · have := h2.2 i (by omega) b
    exact ⟨by omega, this.2⟩

/-! insertion -/
theorem insInner_lex (A : Agr lt lt0 rk Q) (a : Nat) : ∀ (j : Nat) (d : Array α), j < d.size → (∀ p, a ≤ p → p < j → rk d[p]! < rk d[j]!) → (∀ p, a ≤ p → p ≤ j → Q d[p]!) → insInner lt a j d = insInner (lexLt lt0 rk) a j d
  | 0, _, _, _, _ => rfl
  | j + 1, d, hj, h, hq => by
    unfold insInner
    by_cases hc : j + 1 > a
    · have hr := h j (by omega) (by omega)
      have e : lexLt lt0 rk d[j + 1]! d[j]! = lt d[j + 1]! d[j]! := by rw [lexLt_up hr, A _ _ (hq (j + 1) (by omega) (Nat.le_refl _)) (hq j (by omega) (by omega)) (by omega)]
      rw [e]
      by_cases hl : lt d[j + 1]! d[j]! = true
      · rw [if_pos (by simp [hc, hl]), if_pos (by simp [hc, hl])]
        refine insInner_lex A a j (swp d (j + 1) j) (by rw [swp_size]; omega) (fun p p1 p2 => ?_) (fun p p1 p2 => ?_)
        · rw [swp_get d hj (by omega), swp_get d hj (by omega), if_neg (by omega), if_neg (by omega), if_pos rfl]
          exact h p p1 (by omega)
        · rw [swp_get d hj (by omega)]
          split
          · exact hq _ (by omega) (Nat.le_refl _)
          · rw [if_neg (by omega)]
            exact hq p p1 (by omega)
      · rw [if_neg (by simp [hl]), if_neg (by simp [hl])]
    · rw [if_neg (by simp [hc]), if_neg (by simp [hc])]

theorem insOuter_lex (A : Agr lt lt0 rk Q) (S : SWO lt0) (a b : Nat) : ∀ (n i : Nat) (d : Array α), b - i = n → a < i → i ≤ b → b ≤ d.size → SortedIn (lexLt lt0 rk) a i d → (∀ p q, a ≤ p → p < q → i ≤ q → q < b → rk d[p]! < rk d[q]!) → (∀ p, a ≤ p → p < b → Q d[p]!) → insOuter lt a b i d = insOuter (lexLt lt0 rk) a b i d
  | 0, i, d, hn, _, hib, _, _, _, _ => by
    obtain rfl : i = b := by omega
    rw [insOuter, if_neg (by omega), insOuter, if_neg (by omega)]
  | n + 1, i, d, hn, hai, hib, hb, hs, hr, hq => by
    have hlt : i < b := by omega
    rw [insOuter.eq_def lt, if_pos hlt, insOuter.eq_def (lexLt lt0 rk), if_pos hlt, insInner_lex A a i d (by omega) (fun p p1 p2 => hr p i p1 p2 (Nat.le_refl _) hlt) (fun p p1 p2 => hq p p1 (by omega))]
    have h1 := insInner_spec (lexLt_swo S rk) swp_permIn permIn_refl permIn_trans a (i + 1) i (by omega) i d (by omega) (Nat.le_refl _) (by omega) ⟨fun p q hap hpq hqi _ hq => hs p q hap hpq (by omega), fun q h1 h2 => by omega⟩
    refine insOuter_lex A S a b n (i + 1) _ (by omega) (by omega) (by omega) (by rw [h1.1.1]; exact hb) h1.2 (fun p q p1 p2 p3 p4 => ?_) (fun p p1 p2 => ?_)
    · rw [h1.1.2.1 q (Or.inr p3)]
      by_cases c : p < i + 1
      · exact permIn_all d _ a (i + 1) (fun z => rk z < rk d[q]!) (by omega) h1.1 (fun x x1 x2 => hr x q x1 (by omega) (by omega) p4) p p1 c
      · rw [h1.1.2.1 p (Or.inr (by omega))]
        exact hr p q p1 p2 (by omega) p4
    · by_cases c : p < i + 1
      · exact permIn_all d _ a (i + 1) Q (by omega) h1.1 (fun x x1 x2 => hq x x1 (by omega)) p p1 c
      · rw [h1.1.2.1 p (Or.inr (by omega))]
        exact hq p p1 p2

theorem ins_seg (A : Agr lt lt0 rk Q) (S : SWO lt0) {d : Array α} {a b : Nat} (hab : a ≤ b) (hb : b ≤ d.size) (hr : ∀ i, a ≤ i → i < b → rk d[i]! = i ∧ Q d[i]!) : PermIn a b d (insertionSort lt d a b) ∧ Seg lt0 rk Q a b (insertionSort lt d a b) := by
  have e : insertionSort lt d a b = insertionSort (lexLt lt0 rk) d a b := by
    unfold insertionSort
    by_cases h : a = b
    · subst h
      rw [insOuter, if_neg (by omega), insOuter, if_neg (by omega)]
    · exact insOuter_lex A S a b _ (a + 1) d rfl (by omega) (by omega) hb (fun i j h1 h2 h3 => by omega) (fun p q p1 p2 p3 p4 => by rw [(hr p p1 (by omega)).1, (hr q (by omega) p4).1]; exact p2) (fun p p1 p2 => (hr p p1 p2).2)
  rw [e]
  have h := insertionSort_holds (lexLt_swo S rk) d a b hab hb
  refine ⟨h.1, h.2, permIn_all d _ a b (fun z => a ≤ rk z ∧ rk z < b ∧ Q z) hb h.1 (fun i p q => ?_)⟩
  rw [(hr i p q).1]
  exact ⟨p, q, (hr i p q).2⟩

/-! the blocks -/
/-- all blocks of B from the k-th on -/
def SegsFrom (lt0 : α → α → Bool) (rk : α → Nat) (Q : α → Prop) (B k0 n : Nat) (d : Array α) : Prop := ∀ k, k0 ≤ k → k * B < n → Seg lt0 rk Q (k * B) (min (k * B + B) n) d
def SegsTo (lt0 : α → α → Bool) (rk : α → Nat) (Q : α → Prop) (B k1 n : Nat) (d : Array α) : Prop := ∀ k, k < k1 → k * B < n → Seg lt0 rk Q (k * B) (min (k * B + B) n) d

/-- the first pass -/
structure Ins1 (lt0 : α → α → Bool) (rk : α → Nat) (Q : α → Prop) (k n : Nat) (d0 d : Array α) : Prop where
  perm : PermIn 0 n d0 d
  done : SegsTo lt0 rk Q 20 k n d
  rest : ∀ i, k * 20 ≤ i → i < n → rk d[i]! = i ∧ Q d[i]!

theorem Ins1.start {d0 : Array α} {n : Nat} (h : ∀ i, i < n → rk d0[i]! = i ∧ Q d0[i]!) : Ins1 lt0 rk Q 0 n d0 d0 := ⟨permIn_refl _ _ _, fun k h => by omega, fun i _ hi => h i hi⟩
theorem Ins1.next (A : Agr lt lt0 rk Q) (S : SWO lt0) {k n : Nat} {d0 d : Array α} (h : Ins1 lt0 rk Q k n d0 d) (hn : d0.size = n) (hk : k * 20 + 20 ≤ n) : Ins1 lt0 rk Q (k + 1) n d0 (insertionSort lt d (k * 20) (k * 20 + 20)) := by
  have hs : d.size = n := by rw [h.perm.1, hn]
  obtain ⟨hp, hg⟩ := ins_seg A S (d := d) (a := k * 20) (b := k * 20 + 20) (by omega) (by omega) (fun i p q => h.rest i p (by omega))
  refine ⟨permIn_trans _ _ _ 0 n h.perm (permIn_mono _ _ _ _ 0 n (by omega) hk (by omega) hp), fun j hj hjn => ?_, fun i p q => ?_⟩
  · by_cases e : j = k
    · subst e; rw [Nat.min_eq_left hk]; exact hg
    · exact (h.done j (by omega) hjn).congr (fun i p q => hp.2.1 i (Or.inl (by omega)))
  · rw [hp.2.1 i (Or.inr (by omega))]
    exact h.rest i (by omega) q
theorem Ins1.last (A : Agr lt lt0 rk Q) (S : SWO lt0) {k n : Nat} {d0 d : Array α} (h : Ins1 lt0 rk Q k n d0 d) (hn : d0.size = n) (hk : k * 20 ≤ n) (hk2 : n < k * 20 + 20) : PermIn 0 n d0 (insertionSort lt d (k * 20) n) ∧ SegsFrom lt0 rk Q 20 0 n (insertionSort lt d (k * 20) n) := by
  have hs : d.size = n := by rw [h.perm.1, hn]
  obtain ⟨hp, hg⟩ := ins_seg A S (d := d) (a := k * 20) (b := n) (by omega) (by omega) (fun i p q => h.rest i p (by omega))
  refine ⟨permIn_trans _ _ _ 0 n h.perm (permIn_mono _ _ _ _ 0 n (by omega) (Nat.le_refl _) (by omega) hp), fun j _ hjn => ?_⟩
  by_cases e : j = k
  · subst e; rw [Nat.min_eq_right (by omega)]; exact hg
  · exact (h.done j (by omega) hjn).congr (fun i p q => hp.2.1 i (Or.inl (by omega)))

/-- a pass of merges: the first q blocks of 2 B are done -/
structure Pass (lt0 : α → α → Bool) (rk : α → Nat) (Q : α → Prop) (B q n : Nat) (d0 d : Array α) : Prop where
  perm : PermIn 0 n d0 d
  done : SegsTo lt0 rk Q (2 * B) q n d
  rest : SegsFrom lt0 rk Q B (2 * q) n d

theorem two_mul_q (q B : Nat) : 2 * q * B = q * (2 * B) := by rw [Nat.mul_comm 2 q, Nat.mul_assoc]
theorem two_mul_q1 (q B : Nat) : (2 * q + 1) * B = q * (2 * B) + B := by rw [Nat.add_mul, two_mul_q, Nat.one_mul]

theorem Pass.start {B n : Nat} {d0 d : Array α} (hp : PermIn 0 n d0 d) (h : SegsFrom lt0 rk Q B 0 n d) : Pass lt0 rk Q B 0 n d0 d := ⟨hp, fun k h => by omega, fun k _ hk => h k (Nat.zero_le _) hk⟩
theorem Pass.runs (A : Agr lt lt0 rk Q) {B q n : Nat} {d0 d : Array α} (h : Pass lt0 rk Q B q n d0 d) (hn : d0.size = n) (hB : 0 < B) (hm : q * (2 * B) + B < n) : Runs (lexLt lt0 rk) lt (q * (2 * B)) (q * (2 * B) + B) (min (q * (2 * B) + 2 * B) n) d := by
  have h1 := h.rest (2 * q) (Nat.le_refl _) (by rw [two_mul_q]; omega)
  have h2 := h.rest (2 * q + 1) (by omega) (by rw [two_mul_q1]; omega)
  rw [two_mul_q, Nat.min_eq_left (by omega)] at h1
  rw [two_mul_q1, show q * (2 * B) + B + B = q * (2 * B) + 2 * B by omega] at h2
  exact h1.runs A h2 (by omega) (by omega) (by rw [h.perm.1, hn]; omega)
theorem Pass.next {B q n : Nat} {d0 d d' : Array α} (h : Pass lt0 rk Q B q n d0 d) (hn : d0.size = n) (hB : 0 < B) (hm : q * (2 * B) + B < n) (hM : Merged (lexLt lt0 rk) (q * (2 * B)) (min (q * (2 * B) + 2 * B) n) d d') : Pass lt0 rk Q B (q + 1) n d0 d' := by
  have hs : d.size = n := by rw [h.perm.1, hn]
  have h1 := h.rest (2 * q) (Nat.le_refl _) (by rw [two_mul_q]; omega)
  have h2 := h.rest (2 * q + 1) (by omega) (by rw [two_mul_q1]; omega)
  rw [two_mul_q, Nat.min_eq_left (by omega)] at h1
  rw [two_mul_q1, show q * (2 * B) + B + B = q * (2 * B) + 2 * B by omega] at h2
  have hg := h1.merged h2 (by omega) (by omega) (by omega) hM
  have hp := hM.1
  refine ⟨permIn_trans _ _ _ 0 n h.perm (permIn_mono _ _ _ _ 0 n (by omega) (by omega) (by omega) hp), fun j hj hjn => ?_, fun j hj hjn => ?_⟩
  · by_cases e : j = q
    · subst e; exact hg
    · have := Nat.mul_le_mul_right (2 * B) (show j + 1 ≤ q by omega)
      rw [Nat.add_mul, Nat.one_mul] at this
      exact (h.done j (by omega) hjn).congr (fun i p q => hp.2.1 i (Or.inl (by omega)))
  · have := Nat.mul_le_mul_right B (show 2 * q + 2 ≤ j by omega)
    rw [Nat.add_mul, two_mul_q] at this
    exact (h.rest j (by omega) hjn).congr (fun i p q => hp.2.1 i (Or.inr (by omega)))
/-- what is left is one block, or none -/
theorem Pass.end1 {B q n : Nat} {d0 d : Array α} (h : Pass lt0 rk Q B q n d0 d) (hm : ¬ q * (2 * B) + B < n) : SegsFrom lt0 rk Q (2 * B) 0 n d := by
  intro k _ hk
  by_cases c : k < q
  · exact h.done k c hk
  · by_cases e : k = q
    · subst e
      have h1 := h.rest (2 * k) (Nat.le_refl _) (by rw [two_mul_q]; exact hk)
      rw [two_mul_q, Nat.min_eq_right (by omega)] at h1
      rw [Nat.min_eq_right (by omega)]
      exact h1
    · exfalso
      have := Nat.mul_le_mul_right (2 * B) (show q + 1 ≤ k by omega)
      rw [Nat.add_mul, Nat.one_mul] at this
      omega
theorem Pass.end2 {B q n : Nat} {d0 d : Array α} (h : Pass lt0 rk Q B q n d0 d) (hm : n ≤ q * (2 * B)) : SegsFrom lt0 rk Q (2 * B) 0 n d := by
  intro k _ hk
  by_cases c : k < q
  · exact h.done k c hk
  · exfalso
    have := Nat.mul_le_mul_right (2 * B) (show q ≤ k by omega)
    omega

theorem segs_sorted {B n : Nat} {d : Array α} (h : SegsFrom lt0 rk Q B 0 n d) (hB : n ≤ B) : SortedIn (lexLt lt0 rk) 0 n d := by
  intro i j hi hij hj
  have := h 0 (Nat.le_refl _) (by omega)
  rw [Nat.zero_mul, Nat.zero_add, Nat.min_eq_right hB] at this
  exact this.1 i j hi hij hj
end

/-! ### what it is in the end -/
def leOf (lt : α → α → Bool) (x y : α) : Bool := !lt y x
omit [Inhabited α] in
theorem lex_le {lt : α → α → Bool} (_S : SWO lt) (x y : α × Nat) (h : lexLt (fun a b => lt a.1 b.1) Prod.snd y x = false) : List.zipIdxLE (leOf lt) x y = true := by
  change (lt y.1 x.1 || (!lt x.1 y.1 && decide (y.2 < x.2))) = false at h
  unfold List.zipIdxLE leOf
  cases yx : lt y.1 x.1 with
  | true => rw [yx] at h; cases h
  | false =>
    cases xy : lt x.1 y.1 with
    | true => rfl
    | false =>
      rw [yx, xy] at h
      simp at h
      simpa using h

def ranked (l : List α) : Array (α × Nat) := l.zipIdx.toArray
omit [Inhabited α] in
theorem ranked_size (l : List α) : (ranked l).size = l.length := by simp [ranked]
theorem ranked_at (l : List α) (i : Nat) (hi : i < l.length) : (ranked l)[i]! = (l[i], i) := by
  rw [getElem!_pos _ i (by rw [ranked_size]; exact hi)]
  simp [ranked]

theorem stable_end {lt : α → α → Bool} (S : SWO lt) (l : List α) (d' : Array (α × Nat)) (hp : PermIn 0 l.length (ranked l) d') (hs : SortedIn (lexLt (fun a b => lt a.1 b.1) Prod.snd) 0 l.length d') : d'.toList.map Prod.fst = l.mergeSort (leOf lt) := by
  obtain ⟨hsz, -, hperm⟩ := hp
  rw [ranked_size] at hsz
  have e1 : d'.extract 0 l.length = d' := by rw [← hsz]; exact Array.extract_size
  have e2 : (ranked l).extract 0 l.length = ranked l := by
    have := Array.extract_size (xs := ranked l)
    rw [ranked_size] at this
    exact this
  rw [e1, e2] at hperm
  have htr : ∀ a b c : α, leOf lt a b → leOf lt b c → leOf lt a c := fun a b c h1 h2 => by
    simp only [leOf, Bool.not_eq_true'] at h1 h2 ⊢
    exact S.ntrans c b a h2 h1
  have hto : ∀ a b : α, leOf lt a b || leOf lt b a := fun a b => by
    unfold leOf
    cases h : lt b a with
    | false => simp
    | true => simp [S.asymmA h]
  have key : d'.toList = l.zipIdx.mergeSort (List.zipIdxLE (leOf lt)) := by
    refine List.Perm.eq_of_pairwise (le := fun x y => List.zipIdxLE (leOf lt) x y = true) ?_ ?_ ?_ (hperm.trans (by unfold ranked; exact (List.mergeSort_perm _ _).symm))
    · intro a b ha hb h1 h2
      have ha' : a ∈ l.zipIdx := by
        have := hperm.mem_iff.1 ha
        simpa [ranked] using this
      have hb' : b ∈ l.zipIdx := List.mem_mergeSort.1 hb
      unfold List.zipIdxLE at h1 h2
      have e : a.2 = b.2 := by
        cases p : leOf lt a.1 b.1 <;> cases q : leOf lt b.1 a.1 <;> simp_all
        omega
      obtain ⟨x, i⟩ := a
      obtain ⟨y, j⟩ := b
      have m1 := List.mem_zipIdx ha'
      have m2 := List.mem_zipIdx hb'
      simp only at e m1 m2
      subst e
      have : x = y := m1.2.2.trans m2.2.2.symm
      rw [this]
    · rw [List.pairwise_iff_getElem]
      intro i j hi hj hij
      have hi' : i < d'.size := by simpa using hi
      have hj' : j < d'.size := by simpa using hj
      have := hs i j (Nat.zero_le _) hij (by omega)
      rw [getElem!_pos d' j hj', getElem!_pos d' i hi'] at this
      exact lex_le S _ _ this
    · exact List.pairwise_mergeSort (List.zipIdxLE_trans htr) (List.zipIdxLE_total hto) _
  rw [key]
  exact List.mergeSort_zipIdx
theorem via_id {d : Array α} {s m e : Nat} (h1 : s ≤ m) (h2 : m ≤ e) (h : s = m ∨ m = e) : Via (rotσ s m e) d d := by
  refine ⟨rfl, fun x => congrArg (fun z => d[z]!) ?_⟩
  unfold rotσ
  repeat' (first | omega | split)
theorem allQ_perm {Q : α → Prop} {d d' : Array α} {N a b : Nat} (hN : d.size = N) (hb : b ≤ N) (hp : PermIn a b d d') (h : ∀ q, q < N → Q d[q]!) : ∀ q, q < N → Q d'[q]! := by
  intro q hq
  by_cases hc : a ≤ q ∧ q < b
  · exact permIn_all d d' a b Q (by omega) hp (fun x _ h2 => h x (by omega)) q hc.1 hc.2
  · rw [hp.2.1 q (by omega)]
    exact h q hq
end Go.Proofs.Ytofaghcnkppmbaa
