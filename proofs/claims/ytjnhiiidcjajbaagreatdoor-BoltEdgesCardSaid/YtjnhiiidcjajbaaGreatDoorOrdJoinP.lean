/-
  Joining chains, said twice: as the code does it (each block knows its chain, an emptied chain stays as a hole) and as the document does it (the list of chains is made anew); both are one.
-/
import Derived.Test.YtjnhiiidcjajbaaGreatDoorCore
namespace Go.Proofs.YtjnhiiidcjajbaaGreatDoor.BH
theorem nth_in {α : Type} [Inhabited α] {s : List α} {j : Nat} (h : j < s.length) : nth s j ∈ s := by rw [nth_eq _ _ h]; exact List.getElem_mem h
/-- the first and the last block of a chain -/
def hdC (c : List Int) : Int := nth c 0
def laC (c : List Int) : Int := nth c (c.length - 1)
theorem hdC_mem {c : List Int} (h : c ≠ []) : hdC c ∈ c := nth_in (List.length_pos_iff.2 h)
theorem laC_mem {c : List Int} (h : c ≠ []) : laC c ∈ c := nth_in (by have := List.length_pos_iff.2 h; omega)
/-- of each block its chain, and the chains -/
structure Cs where
  of : List Int
  ls : List (List Int)
/-- blocks come into the chain x -/
def ofAll (of : List Int) (x : Int) (c : List Int) : List Int := c.foldl (fun o m => o.set m.toNat x) of
theorem ofAll_len (x : Int) : ∀ (c of : List Int), (ofAll of x c).length = of.length
  | [], _ => rfl
  | m :: r, of => by
    have := ofAll_len x r (of.set m.toNat x)
    unfold ofAll at this ⊢
    rw [List.foldl_cons, this, List.length_set]
theorem ofAll_snoc (of : List Int) (x : Int) (c : List Int) (m : Int) : ofAll of x (c ++ [m]) = (ofAll of x c).set m.toNat x := by
  unfold ofAll
  rw [List.foldl_append]
  rfl
theorem nth_set (l : List Int) (i j : Nat) (x : Int) (hj : j < l.length) : nth (l.set i x) j = if i = j then x else nth l j := by
  rw [nth_eq _ _ (by rw [List.length_set]; exact hj), nth_eq _ _ hj, List.getElem_set]
theorem nth_set' {α : Type} [Inhabited α] (l : List α) (i j : Nat) (x : α) (hj : j < l.length) : nth (l.set i x) j = if i = j then x else nth l j := by
  rw [nth_eq _ _ (by rw [List.length_set]; exact hj), nth_eq _ _ hj, List.getElem_set]
theorem ofAll_nth (x : Int) : ∀ (c of : List Int) (j : Nat), j < of.length → (∀ m, m ∈ c → 0 ≤ m) → nth (ofAll of x c) j = if (j : Int) ∈ c then x else nth of j
  | [], _, _, _, _ => by simp [ofAll]
  | m :: r, of, j, hj, hm => by
    have ih := ofAll_nth x r (of.set m.toNat x) j (by rw [List.length_set]; exact hj) fun k hk => hm k (List.mem_cons_of_mem _ hk)
    have h0 := hm m (List.mem_cons_self ..)
    unfold ofAll at ih ⊢
    rw [List.foldl_cons, ih, nth_set _ _ _ _ hj]
    by_cases h : (j : Int) ∈ r
    · simp [h]
    · by_cases e : m = j
      · subst e; simp
      · have : ¬ m.toNat = j := fun q => e (by omega)
        have e2 : ¬ (j : Int) = m := fun q => e q.symm
        simp [h, this, e2]
/-- does the code join the chains of a and b? -/
def joins (s : Cs) (a b : Int) : Bool := !(decide (nth s.of a.toNat = nth s.of b.toNat) || decide (¬ laC (nth s.ls (nth s.of a.toNat).toNat) = a) || decide (¬ hdC (nth s.ls (nth s.of b.toNat).toNat) = b))
/-- as the code joins -/
def joinC (s : Cs) (a b : Int) : Cs :=
  if joins s a b then
    ⟨ofAll s.of (nth s.of a.toNat) (nth s.ls (nth s.of b.toNat).toNat), (s.ls.set (nth s.of a.toNat).toNat (nth s.ls (nth s.of a.toNat).toNat ++ nth s.ls (nth s.of b.toNat).toNat)).set (nth s.of b.toNat).toNat []⟩
  else s
/-- what stays true of chains between n blocks -/
structure CInv (n : Nat) (s : Cs) : Prop where
  lo : s.of.length = n
  ll : s.ls.length = n
  ofb : ∀ a, a < n → 0 ≤ nth s.of a ∧ nth s.of a < n
  mem : ∀ a x : Nat, a < n → x < n → ((a : Int) ∈ nth s.ls x ↔ nth s.of a = x)
  bnd : ∀ x, x < n → ∀ m, m ∈ nth s.ls x → 0 ≤ m ∧ m < n
  nd : ∀ x, x < n → (nth s.ls x).Nodup
theorem joins_true {s : Cs} {a b : Int} (h : joins s a b = true) : ¬ nth s.of a.toNat = nth s.of b.toNat ∧ laC (nth s.ls (nth s.of a.toNat).toNat) = a ∧ hdC (nth s.ls (nth s.of b.toNat).toNat) = b := by
  unfold joins at h
  simpa [and_assoc] using h
theorem joins_false {s : Cs} {a b : Int} (h : joins s a b = false) : nth s.of a.toNat = nth s.of b.toNat ∨ ¬ laC (nth s.ls (nth s.of a.toNat).toNat) = a ∨ ¬ hdC (nth s.ls (nth s.of b.toNat).toNat) = b := by
  unfold joins at h
  simp only [Bool.not_eq_false', Bool.or_eq_true, decide_eq_true_eq] at h
  rcases h with (h | h) | h
  · exact Or.inl h
  · exact Or.inr (Or.inl h)
  · exact Or.inr (Or.inr h)
section
variable {n : Nat} {s : Cs}
/-- of a number of a block its chain's number, as a Nat -/
theorem CInv.at (h : CInv n s) {a : Int} (ha : 0 ≤ a) (ha2 : a < n) : ∃ x : Nat, nth s.of a.toNat = x ∧ x < n ∧ a ∈ nth s.ls x := by
  have hb := h.ofb a.toNat (by omega)
  refine ⟨(nth s.of a.toNat).toNat, by omega, by omega, ?_⟩
  have := (h.mem a.toNat (nth s.of a.toNat).toNat (by omega) (by omega)).2 (by omega)
  rwa [show ((a.toNat : Nat) : Int) = a by omega] at this
theorem CInv.uniq (h : CInv n s) {a : Int} {x : Nat} (hx : x < n) (ha : a ∈ nth s.ls x) : nth s.of a.toNat = x := by
  have hb := h.bnd x hx a ha
  exact (h.mem a.toNat x (by omega) hx).1 (by rwa [show ((a.toNat : Nat) : Int) = a by omega])
theorem CInv.step (h : CInv n s) {a b : Int} (ha : 0 ≤ a ∧ a < n) (hb : 0 ≤ b ∧ b < n) : CInv n (joinC s a b) := by
  unfold joinC
  by_cases hj : joins s a b = true
  · rw [if_pos hj]
    obtain ⟨h1, h2, h3⟩ := joins_true hj
    obtain ⟨x, ex, hx, mx⟩ := h.at ha.1 ha.2
    obtain ⟨y, ey, hy, my⟩ := h.at hb.1 hb.2
    rw [ex, ey] at h1 ⊢
    simp only [Int.toNat_natCast]
    have hxy : ¬ x = y := fun e => h1 (by rw [e])
    have pos : ∀ m, m ∈ nth s.ls y → 0 ≤ m := fun m hm => (h.bnd y hy m hm).1
    have ell : ∀ z, z < n → nth ((s.ls.set x (nth s.ls x ++ nth s.ls y)).set y []) z = if y = z then [] else if x = z then nth s.ls x ++ nth s.ls y else nth s.ls z := fun z hz => by
      rw [nth_set' _ _ _ _ (by rw [List.length_set, h.ll]; exact hz), nth_set' _ _ _ _ (by rw [h.ll]; exact hz)]
    have eof : ∀ j, j < n → nth (ofAll s.of (x : Int) (nth s.ls y)) j = if (j : Int) ∈ nth s.ls y then (x : Int) else nth s.of j := fun j hj => ofAll_nth _ _ _ _ (by rw [h.lo]; exact hj) pos
    refine ⟨by rw [ofAll_len]; exact h.lo, by simpa using h.ll, ?_, ?_, ?_, ?_⟩
    · intro j hj
      show 0 ≤ nth (ofAll s.of (x : Int) (nth s.ls y)) j ∧ _
      rw [eof j hj]
      split
      · omega
      · exact h.ofb j hj
    · intro j z hj hz
      show _ ∈ nth ((s.ls.set x (nth s.ls x ++ nth s.ls y)).set y []) z ↔ nth (ofAll s.of (x : Int) (nth s.ls y)) j = _
      rw [ell z hz, eof j hj]
      have my' := h.mem j y hj hy
      have mx' := h.mem j x hj hx
      have mz' := h.mem j z hj hz
      by_cases e1 : y = z
      · subst e1
        rw [if_pos rfl]
        constructor
        · intro q; cases q
        · intro q
          exfalso
          split at q
          · omega
          · rename_i hn; exact hn (my'.2 q)
      · rw [if_neg e1]
        by_cases e2 : x = z
        · subst e2
          rw [if_pos rfl, List.mem_append]
          constructor
          · rintro (q | q)
            · split
              · rfl
              · exact mx'.1 q
            · rw [if_pos q]
          · intro q
            split at q
            · rename_i hm; exact Or.inr hm
            · exact Or.inl (mx'.2 q)
        · rw [if_neg e2, mz']
          constructor
          · intro q
            rw [if_neg fun hm => ?_]
            · exact q
            · have := my'.1 hm; omega
          · intro q
            split at q
            · omega
            · exact q
    · intro z hz m hm
      have hm' : m ∈ nth ((s.ls.set x (nth s.ls x ++ nth s.ls y)).set y []) z := hm
      rw [ell z hz] at hm'
      split at hm'
      · cases hm'
      · split at hm'
        · rcases List.mem_append.1 hm' with q | q
          · exact h.bnd x hx m q
          · exact h.bnd y hy m q
        · exact h.bnd z hz m hm'
    · intro z hz
      show (nth ((s.ls.set x (nth s.ls x ++ nth s.ls y)).set y []) z).Nodup
      rw [ell z hz]
      split
      · exact List.nodup_nil
      · split
        · rw [List.nodup_append]
          refine ⟨h.nd x hx, h.nd y hy, ?_⟩
          intro p hp q hq e
          subst e
          have := h.uniq hx hp
          have := h.uniq hy hq
          omega
        · exact h.nd z hz
  · rw [if_neg hj]; exact h
/-- at first each block is a chain by itself -/
def cs0 (n : Nat) : Cs := ⟨(List.range n).map fun i : Nat => (i : Int), (List.range n).map fun i : Nat => [(i : Int)]⟩
theorem nth_map_range {α : Type} [Inhabited α] (f : Nat → α) (n i : Nat) (h : i < n) : nth ((List.range n).map f) i = f i := by
  rw [nth_eq _ _ (by simpa using h)]
  simp
theorem CInv.zero (n : Nat) : CInv n (cs0 n) := by
  refine ⟨by simp [cs0], by simp [cs0], ?_, ?_, ?_, ?_⟩
  · intro a ha
    show 0 ≤ nth ((List.range n).map fun i : Nat => (i : Int)) a ∧ nth ((List.range n).map fun i : Nat => (i : Int)) a < n
    rw [nth_map_range _ _ _ ha]; omega
  · intro a x ha hx
    show _ ∈ nth ((List.range n).map fun i : Nat => [(i : Int)]) x ↔ nth ((List.range n).map fun i : Nat => (i : Int)) a = _
    rw [nth_map_range _ _ _ hx, nth_map_range _ _ _ ha, List.mem_singleton]
  · intro x hx m hm
    have hm' : m ∈ nth ((List.range n).map fun i : Nat => [(i : Int)]) x := hm
    rw [nth_map_range _ _ _ hx, List.mem_singleton] at hm'
    omega
  · intro x hx
    show (nth ((List.range n).map fun i : Nat => [(i : Int)]) x).Nodup
    rw [nth_map_range _ _ _ hx]; simp
/-- the chains that hold blocks -/
def live (l : List (List Int)) : List (List Int) := l.filter fun c => !c.isEmpty
theorem live_mem {l : List (List Int)} {c : List Int} : c ∈ live l ↔ c ∈ l ∧ c ≠ [] := by
  unfold live
  rw [List.mem_filter]
  simp
theorem CInv.live_at (h : CInv n s) {c : List Int} (hc : c ∈ live s.ls) : ∃ x, x < n ∧ nth s.ls x = c ∧ c ≠ [] := by
  have h1 := live_mem.1 hc
  obtain ⟨x, hx, e⟩ := List.mem_iff_getElem.1 h1.1
  exact ⟨x, by rw [← h.ll]; exact hx, by rw [nth_eq _ _ hx]; exact e, h1.2⟩
theorem CInv.at_live (h : CInv n s) {x : Nat} (hx : x < n) (hne : nth s.ls x ≠ []) : nth s.ls x ∈ live s.ls := live_mem.2 ⟨nth_in (by rw [h.ll]; exact hx), hne⟩
theorem CInv.inj (h : CInv n s) {x y : Nat} (hx : x < n) (hy : y < n) (e : nth s.ls x = nth s.ls y) (hne : nth s.ls x ≠ []) : x = y := by
  have m1 := hdC_mem hne
  have m2 := m1
  rw [e] at m2
  have e1 := h.uniq hx m1
  have e2 := h.uniq hy m2
  rw [e] at e1
  omega
theorem CInv.nodup (h : CInv n s) : (live s.ls).Nodup := by
  unfold live List.Nodup
  rw [List.pairwise_filter, List.pairwise_iff_getElem]
  intro i j hi hj hij h1 h2 e
  have hi' : i < n := by rw [← h.ll]; exact hi
  have hj' : j < n := by rw [← h.ll]; exact hj
  have := h.inj hi' hj' (by rw [nth_eq _ _ hi, nth_eq _ _ hj]; exact e) (by rw [nth_eq _ _ hi]; simpa using h1)
  omega
end
/-- the last place of an element like that, ahead of k; -1: none -/
def lastIdx (p : List Int → Bool) (L : List (List Int)) : Nat → Int
  | 0 => -1
  | k + 1 => if p (nth L k) = true then (k : Int) else lastIdx p L k
theorem lastIdx_is (p : List Int → Bool) (L : List (List Int)) : ∀ k, (lastIdx p L k = -1 ∧ ∀ i, i < k → p (nth L i) = false) ∨ ∃ i : Nat, lastIdx p L k = i ∧ i < k ∧ p (nth L i) = true
  | 0 => Or.inl ⟨rfl, fun i hi => absurd hi (Nat.not_lt_zero _)⟩
  | k + 1 => by
    unfold lastIdx
    by_cases h : p (nth L k) = true
    · rw [if_pos h]; exact Or.inr ⟨k, rfl, Nat.lt_succ_self _, h⟩
    · rw [if_neg h]
      rcases lastIdx_is p L k with ⟨h1, h2⟩ | ⟨i, h1, h2, h3⟩
      · refine Or.inl ⟨h1, fun i hi => ?_⟩
        rcases Nat.lt_or_ge i k with q | q
        · exact h2 i q
        · obtain rfl : i = k := by omega
          simpa using h
      · exact Or.inr ⟨i, h1, by omega, h3⟩
/-- the list made anew, up to its place k: the chain y goes behind the chain x -/
def rebuild (L : List (List Int)) (x y : Int) : Nat → List (List Int)
  | 0 => []
  | k + 1 => if (k : Int) = y then rebuild L x y k else rebuild L x y k ++ [if (k : Int) = x then nth L k ++ nth L y.toNat else nth L k]
/-- as the document joins -/
def joinD (L : List (List Int)) (a b : Int) : List (List Int) :=
  if lastIdx (fun c => decide (laC c = a)) L L.length < 0 ∨ lastIdx (fun c => decide (hdC c = b)) L L.length < 0 ∨ lastIdx (fun c => decide (laC c = a)) L L.length = lastIdx (fun c => decide (hdC c = b)) L L.length then L
  else rebuild L (lastIdx (fun c => decide (laC c = a)) L L.length) (lastIdx (fun c => decide (hdC c = b)) L L.length) L.length
/-- what takes the place of each chain -/
def subst2 (cx cy : List Int) (c : List Int) : List Int := if c = cy then [] else if c = cx then cx ++ cy else c
theorem nodup_nth {L : List (List Int)} (h : L.Nodup) {i j : Nat} (hi : i < L.length) (hj : j < L.length) (e : nth L i = nth L j) : i = j := by
  rw [nth_eq _ _ hi, nth_eq _ _ hj] at e
  exact (List.getElem_inj h).1 e
theorem rebuild_is {L : List (List Int)} (hnd : L.Nodup) (hne : [] ∉ L) {x y : Nat} (hx : x < L.length) (hy : y < L.length) (hxy : ¬ x = y) : ∀ k, k ≤ L.length → rebuild L x y k = live ((L.take k).map (subst2 (nth L x) (nth L y)))
  | 0, _ => rfl
  | k + 1, hk => by
    have ih := rebuild_is hnd hne hx hy hxy k (by omega)
    rw [take_succ_nth _ _ (by omega), List.map_append]
    unfold live at *
    rw [List.filter_append, ← ih, List.map_singleton, rebuild, Int.toNat_natCast]
    have hk0 : nth L k ≠ [] := fun e => hne (by rw [← e]; exact nth_in (by omega))
    by_cases h1 : k = y
    · subst h1
      rw [if_pos rfl, subst2, if_pos rfl]
      simp
    · rw [if_neg (by omega), subst2, if_neg fun e => h1 (nodup_nth hnd (by omega) hy e)]
      by_cases h2 : k = x
      · subst h2
        rw [if_pos rfl, if_pos rfl]
        simp [hk0]
      · rw [if_neg (by omega), if_neg fun e => h2 (nodup_nth hnd (by omega) hx e)]
        simp [hk0]
/-- one join, on both sides -/
theorem join_same {n : Nat} {s : Cs} (h : CInv n s) {a b : Int} (ha : 0 ≤ a ∧ a < n) (hb : 0 ≤ b ∧ b < n) : live (joinC s a b).ls = joinD (live s.ls) a b := by
  obtain ⟨x, ex, hx, mx⟩ := h.at ha.1 ha.2
  obtain ⟨y, ey, hy, my⟩ := h.at hb.1 hb.2
  have nx : nth s.ls x ≠ [] := fun e => by rw [e] at mx; cases mx
  have ny : nth s.ls y ≠ [] := fun e => by rw [e] at my; cases my
  have lx := lastIdx_is (fun c => decide (laC c = a)) (live s.ls) (live s.ls).length
  have ly := lastIdx_is (fun c => decide (hdC c = b)) (live s.ls) (live s.ls).length
  have ux : ∀ c, c ∈ live s.ls → laC c = a → c = nth s.ls x := fun c hc e => by
    obtain ⟨z, hz, ez, hne⟩ := h.live_at hc
    have hm := laC_mem hne
    rw [e, ← ez] at hm
    have := h.uniq hz hm
    rw [ex] at this
    rw [← ez, show x = z by omega]
  have uy : ∀ c, c ∈ live s.ls → hdC c = b → c = nth s.ls y := fun c hc e => by
    obtain ⟨z, hz, ez, hne⟩ := h.live_at hc
    have hm := hdC_mem hne
    rw [e, ← ez] at hm
    have := h.uniq hz hm
    rw [ey] at this
    rw [← ez, show y = z by omega]
  have hne : [] ∉ live s.ls := fun e => (live_mem.1 e).2 rfl
  unfold joinC joinD
  generalize hX : lastIdx (fun c => decide (laC c = a)) (live s.ls) (live s.ls).length = X at *
  generalize hY : lastIdx (fun c => decide (hdC c = b)) (live s.ls) (live s.ls).length = Y at *
  simp only [decide_eq_false_iff_not, decide_eq_true_eq] at lx ly
  by_cases hj : joins s a b = true
  · rw [if_pos hj]
    obtain ⟨h1, h2, h3⟩ := joins_true hj
    rw [ex, ey] at h1 ⊢
    rw [ex] at h2
    rw [ey] at h3
    simp only [Int.toNat_natCast] at h2 h3 ⊢
    have hxy : ¬ x = y := fun e => h1 (by rw [e])
    obtain ⟨i, hi, ei⟩ := List.mem_iff_getElem.1 (h.at_live hx nx)
    obtain ⟨j, hj, ej⟩ := List.mem_iff_getElem.1 (h.at_live hy ny)
    rw [← nth_eq _ _ hi] at ei
    rw [← nth_eq _ _ hj] at ej
    have eX : X = i := by
      rcases lx with ⟨_, q⟩ | ⟨i', e1, e2, e3⟩
      · exact absurd h2 (by rw [← ei]; exact q i hi)
      · rw [e1]
        have := ux _ (nth_in e2) e3
        rw [nodup_nth h.nodup e2 hi (this.trans ei.symm)]
    have eY : Y = j := by
      rcases ly with ⟨_, q⟩ | ⟨j', e1, e2, e3⟩
      · exact absurd h3 (by rw [← ej]; exact q j hj)
      · rw [e1]
        have := uy _ (nth_in e2) e3
        rw [nodup_nth h.nodup e2 hj (this.trans ej.symm)]
    have hij : ¬ i = j := fun e => by
      subst e
      exact hxy (h.inj hx hy (ei.symm.trans ej) nx)
    rw [if_neg (by omega), eX, eY, rebuild_is h.nodup hne hi hj hij _ (Nat.le_refl _), List.take_length, ei, ej]
    have e1 : (s.ls.set x (nth s.ls x ++ nth s.ls y)).set y [] = s.ls.map (subst2 (nth s.ls x) (nth s.ls y)) := by
      apply List.ext_getElem
      · simp
      · intro k hk1 hk2
        have hk : k < s.ls.length := by simpa using hk1
        have hkn : k < n := by rw [← h.ll]; exact hk
        rw [List.getElem_map, List.getElem_set, List.getElem_set, ← nth_eq _ _ hk]
        unfold subst2
        by_cases q1 : y = k
        · subst q1; simp
        · rw [if_neg q1]
          by_cases q2 : x = k
          · subst q2
            rw [if_pos rfl, if_neg fun e => hxy (h.inj hx hy e nx), if_pos rfl]
          · rw [if_neg q2]
            by_cases q3 : nth s.ls k = []
            · rw [if_neg (by rw [q3]; exact fun e => ny e.symm), if_neg (by rw [q3]; exact fun e => nx e.symm)]
            · rw [if_neg fun e => q1 (h.inj hkn hy e q3).symm, if_neg fun e => q2 (h.inj hkn hx e q3).symm]
    rw [e1]
    unfold live
    rw [List.filter_map, List.filter_map, List.filter_filter]
    congr 1
    apply List.filter_congr
    intro c hc
    by_cases q : c = []
    · subst q
      have : subst2 (nth s.ls x) (nth s.ls y) [] = [] := by
        unfold subst2
        rw [if_neg fun e => ny e.symm, if_neg fun e => nx e.symm]
      rw [Function.comp_apply, this]
      rfl
    · simp [q]
  · rw [if_neg hj, if_pos]
    have hj' : joins s a b = false := by simpa using hj
    rcases joins_false hj' with q | q | q
    · rw [ex, ey] at q
      obtain rfl : x = y := by omega
      rcases lx with ⟨e, _⟩ | ⟨i, e1, e2, e3⟩
      · left; omega
      · rcases ly with ⟨e, _⟩ | ⟨j, f1, f2, f3⟩
        · right; left; omega
        · right; right
          rw [e1, f1, nodup_nth h.nodup e2 f2 ((ux _ (nth_in e2) e3).trans (uy _ (nth_in f2) f3).symm)]
    · left
      rcases lx with ⟨e, _⟩ | ⟨i, e1, e2, e3⟩
      · omega
      · exfalso
        have := ux _ (nth_in e2) e3
        rw [this] at e3
        rw [ex, Int.toNat_natCast] at q
        exact q e3
    · right; left
      rcases ly with ⟨e, _⟩ | ⟨i, e1, e2, e3⟩
      · omega
      · exfalso
        have := uy _ (nth_in e2) e3
        rw [this] at e3
        rw [ey, Int.toNat_natCast] at q
        exact q e3
theorem live_zero (n : Nat) : live (cs0 n).ls = (List.range n).map fun i : Nat => [(i : Int)] := by
  unfold live cs0
  rw [List.filter_eq_self]
  intro c hc
  obtain ⟨i, _, rfl⟩ := List.mem_map.1 hc
  rfl
end Go.Proofs.YtjnhiiidcjajbaaGreatDoor.BH
