/-
Joining chains, said twice: as the code does it (each block 
-/
import Derived.Test.YtgdamggkaklhjaaDoorLift
set_option linter.all false
namespace Go.Proofs.YtgdamggkaklhjaaDoor.BH
theorem nth_in {α : Type} [Inhabited α] {s : List α} {j : Nat} (h : j < s.length) : nth s j ∈ s := by rw [nth_eq _ _ h]; exact List.getElem_mem h
def hdC (c : List Int) : Int := nth c 0
def laC (c : List Int) : Int := nth c (c.length - 1)
theorem hdC_mem {c : List Int} (h : c ≠ []) : hdC c ∈ c := nth_in (List.length_pos_iff.2 h)
structure Cs where
 of : List Int
 ls : List (List Int)
def ofAll (of : List Int) (x : Int) (c : List Int) : List Int := c.foldl (fun o m => o.set m.toNat x) of
theorem ofAll_len (x : Int) : ∀ (c of : List Int), (ofAll of x c).length = of.length
 | [], _ => rfl
 | m :: r, of => by have := ofAll_len x r (of.set m.toNat x); unfold ofAll at this ⊢; rw [List.foldl_cons, this, List.length_set]
theorem nth_set (l : List Int) (i j : Nat) (x : Int) (hj : j < l.length) : nth (l.set i x) j = if i = j then x else nth l j := by
 rw [nth_eq _ _ (by rw [List.length_set]; exact hj), nth_eq _ _ hj, List.getElem_set]
theorem nth_set' {α : Type} [Inhabited α] (l : List α) (i j : Nat) (x : α) (hj : j < l.length) : nth (l.set i x) j = if i = j then x else nth l j := by
 rw [nth_eq _ _ (by rw [List.length_set]; exact hj), nth_eq _ _ hj, List.getElem_set]
theorem ofAll_nth (x : Int) : ∀ (c of : List Int) (j : Nat), j < of.length → (∀ m, m ∈ c → 0 ≤ m) → nth (ofAll of x c) j = if (j : Int) ∈ c then x else nth of j
 | [], _, _, _, _ => by simp [ofAll]
 | m :: r, of, j, hj, hm => by
  have ih := ofAll_nth x r (of.set m.toNat x) j (by rw [List.length_set]; exact hj) fun k hk => hm k (List.mem_cons_of_mem _ hk)
  have h0 := hm m (List.mem_cons_self ..)
  unfold ofAll at ih ⊢
  rw [List.foldl_cons, ih, nth_set _ _ _ _ hj]
  by_cases h : (j : Int) ∈ r
  ·simp [h]
  by_cases e : m = j
  ·subst e; simp
  have : ¬ m.toNat = j := fun q => e jo
  have e2 : ¬ (j : Int) = m := fun q => e q.symm
  simp [h, this, e2]
def joins (s : Cs) (a b : Int) : Bool := !(decide (nth s.of a.toNat = nth s.of b.toNat) || decide (¬ laC (nth s.ls (nth s.of a.toNat).toNat) = a) || decide (¬ hdC (nth s.ls (nth s.of b.toNat).toNat) = b))
def joinC (s : Cs) (a b : Int) : Cs :=
 if joins s a b then
  ⟨ofAll s.of (nth s.of a.toNat) (nth s.ls (nth s.of b.toNat).toNat), (s.ls.set (nth s.of a.toNat).toNat (nth s.ls (nth s.of a.toNat).toNat ++ nth s.ls (nth s.of b.toNat).toNat)).set (nth s.of b.toNat).toNat []⟩
 else s
structure CInv (n : Nat) (s : Cs) : Prop where
 lo : s.of.length = n
 ll : s.ls.length = n
 ofb : ∀ a, a < n → 0 ≤ nth s.of a ∧ nth s.of a < n
 mem : ∀ a x : Nat, a < n → x < n → ((a : Int) ∈ nth s.ls x ↔ nth s.of a = x)
 bnd : ∀ x, x < n → ∀ m, m ∈ nth s.ls x → 0 ≤ m ∧ m < n
 nd : ∀ x, x < n → (nth s.ls x).Nodup
theorem joins_true {s : Cs} {a b : Int} (h : joins s a b = true) : ¬ nth s.of a.toNat = nth s.of b.toNat ∧ laC (nth s.ls (nth s.of a.toNat).toNat) = a ∧ hdC (nth s.ls (nth s.of b.toNat).toNat) = b := by
 unfold joins at h
 simpa [and_assoc] using h
section
variable {n : Nat} {s : Cs}
theorem CInv.at (h : CInv n s) {a : Int} (ha : 0 ≤ a) (ha2 : a < n) : ∃ x : Nat, nth s.of a.toNat = x ∧ x < n ∧ a ∈ nth s.ls x := by
 have hb := h.ofb a.toNat jo
 refine ⟨(nth s.of a.toNat).toNat, by omega, by omega, ?_⟩
 have := (h.mem a.toNat (nth s.of a.toNat).toNat jo jo).2 jo
 rwa [show ((a.toNat : Nat) : Int) = a by omega] at this
theorem CInv.uniq (h : CInv n s) {a : Int} {x : Nat} (hx : x < n) (ha : a ∈ nth s.ls x) : nth s.of a.toNat = x := by
 have hb := h.bnd x hx a ha
 exact (h.mem a.toNat x jo hx).1 (by rwa [show ((a.toNat : Nat) : Int) = a by omega])
theorem CInv.step (h : CInv n s) {a b : Int} (ha : 0 ≤ a ∧ a < n) (hb : 0 ≤ b ∧ b < n) : CInv n (joinC s a b) := by
 unfold joinC
 by_cases hj : joins s a b = true
 ·rw [if_pos hj]
  obtain ⟨h1, h2, h3⟩ := joins_true hj
  obtain ⟨x, ex, hx, mx⟩ := h.at ha.1 ha.2
  obtain ⟨y, ey, hy, my⟩ := h.at hb.1 hb.2
  rw [ex, ey] at h1 ⊢
  simp only [Int.toNat_natCast]
  have hxy : ¬ x = y := fun e => h1 (by rw [e])
  have H5 : ∀ m, m ∈ nth s.ls y → 0 ≤ m := fun m hm => (h.bnd y hy m hm).1
  have H1 : ∀ z, z < n → nth ((s.ls.set x (nth s.ls x ++ nth s.ls y)).set y []) z = if y = z then [] else if x = z then nth s.ls x ++ nth s.ls y else nth s.ls z := fun z hz => by rw [nth_set' _ _ _ _ (by rw [List.length_set, h.ll]; exact hz), nth_set' _ _ _ _ (by rw [h.ll]; exact hz)]
  have H2 : ∀ j, j < n → nth (ofAll s.of (x : Int) (nth s.ls y)) j = if (j : Int) ∈ nth s.ls y then (x : Int) else nth s.of j := fun j hj => ofAll_nth _ _ _ _ (by rw [h.lo]; exact hj) H5
  refine ⟨by rw [ofAll_len]; exact h.lo, by simpa using h.ll, ?_, ?_, ?_, ?_⟩
  ·intro j hj
   show 0 ≤ nth (ofAll s.of (x : Int) (nth s.ls y)) j ∧ _
   rw [H2 j hj]
   split
   ·omega
   exact h.ofb j hj
  ·intro j z hj hz
   show _ ∈ nth ((s.ls.set x (nth s.ls x ++ nth s.ls y)).set y []) z ↔ nth (ofAll s.of (x : Int) (nth s.ls y)) j = _
   rw [H1 z hz, H2 j hj]
   have H3 := h.mem j y hj hy
   have H4 := h.mem j x hj hx
   have H6 := h.mem j z hj hz
   by_cases e1 : y = z
   ·subst e1
    rw [if_pos rfl]
    constructor
    ·intro q; cases q
    intro q
    exfalso
    split at q
    ·omega
    rename_i hn; exact hn (H3.2 q)
   rw [if_neg e1]
   by_cases e2 : x = z
   ·subst e2
    rw [if_pos rfl, List.mem_append]
    constructor
    ·rintro (q | q)
     ·split
      ·rfl
      exact H4.1 q
     rw [if_pos q]
    intro q
    split at q
    ·rename_i hm; exact Or.inr hm
    exact Or.inl (H4.2 q)
   rw [if_neg e2, H6]
   constructor
   ·intro q
    rw [if_neg fun hm => ?_]
    ·exact q
    have := H3.1 hm; omega
   intro q
   split at q
   ·omega
   exact q
  ·intro z hz m hm
   have H0 : m ∈ nth ((s.ls.set x (nth s.ls x ++ nth s.ls y)).set y []) z := hm
   rw [H1 z hz] at H0
   split at H0
   ·cases H0
   split at H0
   ·rcases List.mem_append.1 H0 with q | q
    ·exact h.bnd x hx m q
    exact h.bnd y hy m q
   exact h.bnd z hz m H0
  intro z hz
  show (nth ((s.ls.set x (nth s.ls x ++ nth s.ls y)).set y []) z).Nodup
  rw [H1 z hz]
  split
  ·exact List.nodup_nil
  split
  ·rw [List.nodup_append]
   refine ⟨h.nd x hx, h.nd y hy, ?_⟩
   intro p hp q hq e
   subst e
   have := h.uniq hx hp
   have := h.uniq hy hq
   omega
  exact h.nd z hz
 rw [if_neg hj]; exact h
def cs0 (n : Nat) : Cs := ⟨(List.range n).map fun i : Nat => (i : Int), (List.range n).map fun i : Nat => [(i : Int)]⟩
theorem nth_mapR {α : Type} [Inhabited α] (f : Nat → α) (n i : Nat) (h : i < n) : nth ((List.range n).map f) i = f i := by
 rw [nth_eq _ _ (by simpa using h)]
 simp
theorem CInv.zero (n : Nat) : CInv n (cs0 n) := by
 refine ⟨by simp [cs0], by simp [cs0], ?_, ?_, ?_, ?_⟩
 ·intro a ha
  show 0 ≤ nth ((List.range n).map fun i : Nat => (i : Int)) a ∧ nth ((List.range n).map fun i : Nat => (i : Int)) a < n
  rw [nth_mapR _ _ _ ha]; omega
 ·intro a x ha hx
  show _ ∈ nth ((List.range n).map fun i : Nat => [(i : Int)]) x ↔ nth ((List.range n).map fun i : Nat => (i : Int)) a = _
  rw [nth_mapR _ _ _ hx, nth_mapR _ _ _ ha, List.mem_singleton]
 ·intro x hx m hm
  have H0 : m ∈ nth ((List.range n).map fun i : Nat => [(i : Int)]) x := hm
  rw [nth_mapR _ _ _ hx, List.mem_singleton] at H0
  omega
 intro x hx
 show (nth ((List.range n).map fun i : Nat => [(i : Int)]) x).Nodup
 rw [nth_mapR _ _ _ hx]; simp
def live (l : List (List Int)) : List (List Int) := l.filter fun c => !c.isEmpty
theorem CInv.inj (h : CInv n s) {x y : Nat} (hx : x < n) (hy : y < n) (e : nth s.ls x = nth s.ls y) (hne : nth s.ls x ≠ []) : x = y := by
 have m1 := hdC_mem hne
 have m2 := m1
 rw [e] at m2
 have e1 := h.uniq hx m1
 have e2 := h.uniq hy m2
 rw [e] at e1
 omega
theorem CInv.nodup (h : CInv n s) : (live s.ls).Nodup := by
 unfold live List.Nodup
 rw [List.pairwise_filter, List.pairwise_iff_getElem]
 intro i j hi hj hij h1 h2 e
 have H0 : i < n := by rw [← h.ll]; exact hi
 have H1 : j < n := by rw [← h.ll]; exact hj
 have := h.inj H0 H1 (by rw [nth_eq _ _ hi, nth_eq _ _ hj]; exact e) (by rw [nth_eq _ _ hi]; simpa using h1)
 omega
end
end Go.Proofs.YtgdamggkaklhjaaDoor.BH
