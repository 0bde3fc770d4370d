/-
  The document's order in plain terms (OrderOf: P6.2 to P6.5), and that it is the code's.
-/
import Derived.Test.YtofaghcnkppmbaaOrdOrdM
import Derived.Test.YtofaghcnkppmbaaOrdCmp
namespace Go.Proofs.Ytofaghcnkppmbaa
open Go.RowKit BH Go.Sort
set_option maxHeartbeats 10000000
set_option maxRecDepth 100000
/-- the best edge that is not done, among the first k; -1: none -/
def bestS (l : List Ed) (dn : List Bool) : Nat → Int
  | 0 => -1
  | k + 1 => if nth dn k = false ∧ (bestS l dn k < 0 ∨ (nth l (bestS l dn k).toNat).Count < (nth l k).Count) then (k : Int) else bestS l dn k
/-- the document's step with an edge -/
def docStep (f : Fl) (L : List (List Int)) (e : Ed) : List (List Int) := if ¬ fnc f e.From.toNat = fnc f e.To.toNat ∨ nth f.Firsts (fnc f e.To.toNat).toNat = e.To then L else joinD L e.From e.To
/-- what is done, and the chains, behind n rounds -/
def docL (f : Fl) (l : List Ed) : Nat → List Bool × List (List Int)
  | 0 => (List.replicate l.length false, (List.range f.Blocks.length).map fun i : Nat => [(i : Int)])
  | n + 1 => ((docL f l n).1.set (bestS l (docL f l n).1 l.length).toNat true, docStep f (docL f l n).2 (nth l (bestS l (docL f l n).1 l.length).toNat))
def mineDoc (f : Fl) (l : List Ed) (L : List (List Int)) (i : Nat) : List (List Int) := insD (mineBt (nth f.Firsts i) (heatR l)) (fun c => decide (fnc f (hdC c).toNat = i)) L L.length
def paDoc (f : Fl) (l : List Ed) (L : List (List Int)) (i : Nat) : Pa := ⟨i, (mineDoc f l L i).flatten⟩
def outDoc (f : Fl) (l : List Ed) (L : List (List Int)) : List Pa := insD (paLt (heatR l)) (fun _ => true) ((List.range f.Firsts.length).map (paDoc f l L)) f.Firsts.length
theorem bestS_is (l : List Ed) (dn : List Bool) : ∀ k, (bestS l dn k = -1 ∧ ∀ j, j < k → nth dn j = true) ∨
    ∃ b : Nat, bestS l dn k = b ∧ b < k ∧ nth dn b = false ∧ (∀ j, j < k → nth dn j = false → (nth l j).Count ≤ (nth l b).Count) ∧ (∀ j, j < b → nth dn j = false → (nth l j).Count < (nth l b).Count)
  | 0 => Or.inl ⟨rfl, fun j h => absurd h (Nat.not_lt_zero _)⟩
  | k + 1 => by
    have ih := bestS_is l dn k
    unfold bestS
    by_cases hc : nth dn k = false ∧ (bestS l dn k < 0 ∨ (nth l (bestS l dn k).toNat).Count < (nth l k).Count)
    · rw [if_pos hc]
      refine Or.inr ⟨k, rfl, Nat.lt_succ_self _, hc.1, ?_, ?_⟩
      · intro j hj hd
        rcases ih with ⟨e, h⟩ | ⟨b, e, h1, h2, h3, h4⟩
        · rcases Nat.lt_or_ge j k with q | q
          · have := h j q; rw [hd] at this; cases this
          · obtain rfl : j = k := by omega
            exact Int.le_refl _
        · rcases Nat.lt_or_ge j k with q | q
          · have := h3 j q hd
            rw [e, Int.toNat_natCast] at hc
            rcases hc.2 with p | p <;> omega
          · obtain rfl : j = k := by omega
            exact Int.le_refl _
      · intro j hj hd
        rcases ih with ⟨e, h⟩ | ⟨b, e, h1, h2, h3, h4⟩
        · have := h j hj; rw [hd] at this; cases this
        · have := h3 j hj hd
          rw [e, Int.toNat_natCast] at hc
          rcases hc.2 with p | p <;> omega
    · rw [if_neg hc]
      rcases ih with ⟨e, h⟩ | ⟨b, e, h1, h2, h3, h4⟩
      · refine Or.inl ⟨e, fun j hj => ?_⟩
        rcases Nat.lt_or_ge j k with q | q
        · exact h j q
        · obtain rfl : j = k := by omega
          cases hd : nth dn j with
          | true => rfl
          | false => exact absurd ⟨hd, Or.inl (by omega)⟩ hc
      · refine Or.inr ⟨b, e, by omega, h2, fun j hj hd => ?_, h4⟩
        rcases Nat.lt_or_ge j k with q | q
        · exact h3 j q hd
        · obtain rfl : j = k := by omega
          rw [e, Int.toNat_natCast] at hc
          by_cases p : (nth l b).Count < (nth l j).Count
          · exact absurd ⟨hd, Or.inr p⟩ hc
          · omega
/-- behind n rounds: n places are picked, each ahead of all that are left -/
theorem docL_is (f : Fl) (l : List Ed) (hok : ∀ e, e ∈ l → EdOk f.Blocks.length e) : ∀ n, n ≤ l.length → ∃ ps : List Nat, ps.length = n ∧ Picks cntLt l ps ∧ (docL f l n).1.length = l.length ∧ (∀ j, j < l.length → nth (docL f l n).1 j = decide (j ∈ ps)) ∧ (docL f l n).2 = live (chL f (ps.map (nth l))).ls
  | 0, _ => ⟨[], rfl, Picks.nil _ _, by simp [docL], fun j hj => by unfold docL; rw [nth_eq _ _ (by simpa using hj), List.getElem_replicate]; simp, by unfold docL; exact (live_zero _).symm⟩
  | n + 1, hn => by
    obtain ⟨ps, h1, h2, h3, h4, h5⟩ := docL_is f l hok n (by omega)
    rcases bestS_is l (docL f l n).1 l.length with ⟨e, h⟩ | ⟨b, e, g1, g2, g3, g4⟩
    · exfalso
      have hsub : ∀ j, j ∈ List.range l.length → j ∈ ps := fun j hj => by
        have hj' := List.mem_range.1 hj
        have := h j hj'
        rw [h4 j hj'] at this
        simpa using this
      have := List.nodup_range.length_le_of_subset hsub
      rw [List.length_range] at this
      omega
    · have hb : b ∉ ps := by
        have := h4 b g1
        rw [g2] at this
        simpa using this.symm
      have hd : ∀ j, j < l.length → j ∉ ps → nth (docL f l n).1 j = false := fun j hj hp => by rw [h4 j hj]; simpa using hp
      refine ⟨ps ++ [b], by simp [h1], h2.step g1 hb fun j hj hp hne => ?_, ?_, ?_, ?_⟩
      · unfold ahead2 List.zipIdxLE leOf cntLt
        have c1 := g3 j hj (hd j hj hp)
        by_cases q : j < b
        · have c2 := g4 j q (hd j hj hp)
          simp
          omega
        · simp
          omega
      · unfold docL; simpa using h3
      · intro j hj
        unfold docL
        rw [e, Int.toNat_natCast]
        dsimp only
        rw [nth_set' _ _ _ _ (by rw [h3]; exact hj)]
        by_cases q : b = j
        · subst q; simp
        · rw [if_neg q, h4 j hj]
          have : ¬ j = b := fun p => q p.symm
          simp [this]
      · unfold docL
        rw [e, Int.toNat_natCast]
        dsimp only
        rw [h5, List.map_append, List.map_cons, List.map_nil, chL_snoc]
        have hinv := chL_inv f (ps.map (nth l)) (fun x hx => by
          obtain ⟨i, hi, rfl⟩ := List.mem_map.1 hx
          exact hok _ (nth_in (h2.bnd i hi)))
        have hE := hok _ (nth_in g1)
        unfold docStep stepO
        by_cases c : fnc f (nth l b).From.toNat = fnc f (nth l b).To.toNat ∧ ¬ nth f.Firsts (fnc f (nth l b).To.toNat).toNat = (nth l b).To
        · rw [if_pos c, if_neg (fun q => by rcases q with q | q; exact q c.1; exact c.2 q)]
          exact (join_same hinv hE.1 hE.2.1).symm
        · rw [if_neg c, if_pos]
          by_cases d : fnc f (nth l b).From.toNat = fnc f (nth l b).To.toNat
          · right
            exact Classical.byContradiction fun q => c ⟨d, q⟩
          · exact Or.inl d
/-- there is a best edge, as long as not all are done; and what is true of the chains -/
theorem docL_best (f : Fl) (l : List Ed) (hok : ∀ e, e ∈ l → EdOk f.Blocks.length e) {n : Nat} (hn : n < l.length) : ∃ b : Nat, bestS l (docL f l n).1 l.length = b ∧ b < l.length := by
  obtain ⟨ps, h1, h2, h3, h4, h5⟩ := docL_is f l hok n (by omega)
  rcases bestS_is l (docL f l n).1 l.length with ⟨e, h⟩ | ⟨b, e, g1, g2, g3, g4⟩
  · exfalso
    have hsub : ∀ j, j ∈ List.range l.length → j ∈ ps := fun j hj => by
      have hj' := List.mem_range.1 hj
      have := h j hj'
      rw [h4 j hj'] at this
      simpa using this
    have := List.nodup_range.length_le_of_subset hsub
    rw [List.length_range] at this
    omega
  · exact ⟨b, e, g1⟩
theorem docL_ch (f : Fl) (l : List Ed) (hok : ∀ e, e ∈ l → EdOk f.Blocks.length e) {n : Nat} (hn : n ≤ l.length) : (docL f l n).1.length = l.length ∧ (∀ c, c ∈ (docL f l n).2 → c ≠ [] ∧ (∀ b, b ∈ c → 0 ≤ b ∧ b < f.Blocks.length) ∧ c.length ≤ f.Blocks.length) ∧ (docL f l n).2.length ≤ f.Blocks.length ∧ (docL f l n).2.flatten.length ≤ f.Blocks.length := by
  obtain ⟨ps, h1, h2, h3, h4, h5⟩ := docL_is f l hok n hn
  have hinv := chL_inv f (ps.map (nth l)) (fun x hx => by
    obtain ⟨i, hi, rfl⟩ := List.mem_map.1 hx
    exact hok _ (nth_in (h2.bnd i hi)))
  have hfl := cinv_flat hinv
  refine ⟨h3, fun c hc => ?_, ?_, ?_⟩
  · rw [h5] at hc
    have h6 := live_mem.1 hc
    exact ⟨h6.2, fun b hb => hfl.2.1 b (List.mem_flatten.2 ⟨c, h6.1, hb⟩), Nat.le_trans (List.sublist_flatten_of_mem h6.1).length_le hfl.2.2⟩
  · rw [h5, ← hinv.ll]
    exact List.length_filter_le _ _
  · rw [h5]
    exact Nat.le_trans (flat_filter _ _) hfl.2.2
theorem docL_end (f : Fl) (l : List Ed) (hok : ∀ e, e ∈ l → EdOk f.Blocks.length e) : (docL f l l.length).2 = live (chL f (l.mergeSort (leOf cntLt))).ls := by
  obtain ⟨ps, h1, h2, -, -, h5⟩ := docL_is f l hok l.length (Nat.le_refl _)
  rw [h5, h2.done cntLt_swo h1]
theorem sort_congr {α : Type} {l : List α} {r s : α → α → Bool} (h : ∀ a, a ∈ l → ∀ b, b ∈ l → r a b = s a b) : l.mergeSort r = l.mergeSort s := by
  have := List.map_mergeSort (r := r) (s := s) (f := id) (l := l) h
  simpa using this
/-- the parts, on both sides -/
theorem parts_same {f : Fl} {l : List Ed} {s : Cs} {H : List Int} (hinv : CInv f.Blocks.length s) (hH : ∀ L : List Int, (∀ b, b ∈ L → 0 ≤ b ∧ b < f.Blocks.length) → sumH H L = heatR l L) : partsC f s.ls H = outDoc f l (live s.ls) := by
  have hfl := cinv_flat hinv
  have hmem : ∀ c, c ∈ s.ls → ∀ b, b ∈ c → 0 ≤ b ∧ b < f.Blocks.length := fun c hc b hb => hfl.2.1 b (List.mem_flatten.2 ⟨c, hc, hb⟩)
  have hlive : ∀ c, c ∈ live s.ls → c ∈ s.ls := fun c hc => (live_mem.1 hc).1
  have hsel : ∀ i, mineC f s.ls i = (live s.ls).filter fun c => decide (fnc f (hdC c).toNat = i) := fun i => by
    unfold mineC live selC
    rw [List.filter_filter]
    apply List.filter_congr
    intro c _
    cases c.isEmpty <;> simp
  have hdoc : ∀ i, mineDoc f l (live s.ls) i = (mineC f s.ls i).mergeSort (leOf (mineLt (nth f.Firsts i) (sumH H))) := fun i => by
    unfold mineDoc
    rw [insD_is (mineLt_swo (nth f.Firsts i) (heatR l)) _ _ _ (fun a b hab hb => ?_) _ (Nat.le_refl _), List.take_length, hsel]
    · refine sort_congr fun x hx y hy => ?_
      have mx := hlive x (List.mem_filter.1 hx).1
      have my := hlive y (List.mem_filter.1 hy).1
      unfold leOf mineLt
      rw [hH x (hmem x mx), hH y (hmem y my)]
    · have hab' : ¬ nth (live s.ls) b = nth (live s.ls) a := fun e => by
        have := nodup_nth hinv.nodup hb (by omega) e
        omega
      refine mineBt_is (fun e => ?_) hab'
      obtain ⟨x, hx, ex, nx⟩ := hinv.live_at (nth_in hb)
      obtain ⟨y, hy, ey, ny⟩ := hinv.live_at (nth_in (show a < (live s.ls).length by omega))
      have m1 := hdC_mem nx
      have m2 := hdC_mem ny
      rw [← e, ← ey] at m2
      rw [← ex] at m1
      have u1 := hinv.uniq hx m1
      have u2 := hinv.uniq hy m2
      rw [ex] at u1
      have : x = y := by omega
      rw [← ex, ← ey, this]
  have hpa : ∀ i, paDoc f l (live s.ls) i = partC f s.ls H i := fun i => by
    unfold paDoc partC
    rw [hdoc]
  have hpa2 : (List.range f.Firsts.length).map (paDoc f l (live s.ls)) = (List.range f.Firsts.length).map (partC f s.ls H) := List.map_congr_left fun i _ => hpa i
  unfold outDoc partsC
  have hlen : ((List.range f.Firsts.length).map (paDoc f l (live s.ls))).length = f.Firsts.length := by simp
  rw [insD_is (paLt_swo (heatR l)) _ _ _ (fun _ _ _ _ => rfl) _ (Nat.le_of_eq hlen.symm), hpa2]
  rw [hpa2] at hlen
  rw [show ((List.range f.Firsts.length).map (partC f s.ls H)).take f.Firsts.length = (List.range f.Firsts.length).map (partC f s.ls H) by
    conv => lhs; arg 1; rw [← hlen]
    exact List.take_length, List.filter_eq_self.2 (fun _ _ => rfl)]
  refine sort_congr fun x hx y hy => ?_
  obtain ⟨i, hi, rfl⟩ := List.mem_map.1 hx
  obtain ⟨j, hj, rfl⟩ := List.mem_map.1 hy
  have hhot : ∀ i, hotC f s.ls H i = heatR l (partC f s.ls H i).Blocks := fun i => by
    have hp : (partC f s.ls H i).Blocks.Perm (mineC f s.ls i).flatten := (List.mergeSort_perm _ _).flatten
    have hin : ∀ b, b ∈ (mineC f s.ls i).flatten → 0 ≤ b ∧ b < f.Blocks.length := fun b hb => by
      obtain ⟨c, hc, hb⟩ := List.mem_flatten.1 hb
      exact hmem c (List.mem_filter.1 hc).1 b hb
    rw [← hH _ (fun b hb => hin b (hp.mem_iff.1 hb))]
    unfold hotC
    rw [sumH_flatten]
    exact (perm_sum hp).symm
  unfold leOf paLt
  have e1 : (partC f s.ls H i).Func.toNat = i := Int.toNat_natCast i
  have e2 : (partC f s.ls H j).Func.toNat = j := Int.toNat_natCast j
  dsimp only
  rw [e1, e2, hhot, hhot]
end Go.Proofs.Ytofaghcnkppmbaa
