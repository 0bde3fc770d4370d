/-
The blocks of a program in plain terms, as the document make
-/
import Derived.Test.YtgdamggkaklhjaaDoorIsaAt1
set_option linter.all false
namespace Go.Proofs.YtgdamggkaklhjaaDoor
open BH
set_option maxRecDepth 100000
theorem nthMem {α : Type} [Inhabited α] {s : List α} {j : Nat} (h : j < s.length) : nth s j ∈ s := by rw [nth_eq _ _ h]; exact List.getElem_mem h
theorem nthRange {α : Type} [Inhabited α] (f : Nat → α) {n i : Nat} (h : i < n) : nth ((List.range n).map f) i = f i := by
 rw [nth_eq _ _ (by simpa using h)]; simp
theorem nthMap {α β : Type} [Inhabited α] [Inhabited β] (g : α → β) (l : List α) {j : Nat} (h : j < l.length) : nth (l.map g) j = g (nth l j) := by
 rw [nth_eq _ _ (by simpa using h), nth_eq _ _ h]; simp
theorem memNth {α : Type} [Inhabited α] {s : List α} {x : α} (h : x ∈ s) : ∃ j, j < s.length ∧ nth s j = x := by
 obtain ⟨j, hj, e⟩ := List.getElem_of_mem h
 exact ⟨j, hj, by rw [nth_eq _ _ hj]; exact e⟩
def Chain : Int → List Sp → Int → Prop
 | a, [], e => a = e
 | a, s :: r, e => s.A = a ∧ 1 ≤ s.Z ∧ Chain (a + s.Z) r e
theorem Chain.le : ∀ {l : List Sp} {a e : Int}, Chain a l e → a ≤ e
 | [], _, _, h => by simp only [Chain] at h; omega
 | s :: r, a, e, h => by have := Chain.le h.2.2; have := h.2.1; omega
theorem Chain.app : ∀ {l r : List Sp} {a b e : Int}, Chain a l b → Chain b r e → Chain a (l ++ r) e
 | [], _, _, _, _, h, k => by simp only [Chain] at h; subst h; exact k
 | _ :: _, _, _, _, _, h, k => ⟨h.1, h.2.1, Chain.app h.2.2 k⟩
theorem Chain.mem : ∀ {l : List Sp} {a e : Int}, Chain a l e → ∀ s ∈ l, a ≤ s.A ∧ s.A + s.Z ≤ e ∧ 1 ≤ s.Z
 | [], _, _, _, s, hs => by cases hs
 | s :: r, a, e, h, x, hx => by
  obtain ⟨h1, h2, h3⟩ := h
  rcases List.mem_cons.1 hx with rfl | q
  ·have := h3.le; omega
  have := Chain.mem h3 x q; omega
theorem Chain.uniq : ∀ {l : List Sp} {a e : Int}, Chain a l e → ∀ s ∈ l, ∀ t ∈ l, s.A = t.A → s = t
 | [], _, _, _, s, hs, _, _, _ => by cases hs
 | x :: r, a, e, h, s, hs, t, ht, hq => by
  obtain ⟨h1, h2, h3⟩ := h
  rcases List.mem_cons.1 hs with e1 | q1 <;> rcases List.mem_cons.1 ht with e2 | q2
  ·rw [e1, e2]
  ·have := Chain.mem h3 t q2; rw [e1] at hq; omega
  ·have := Chain.mem h3 s q1; rw [e2] at hq; omega
  exact Chain.uniq h3 s q1 t q2 hq
structure SpGood (T : List UInt8) (s : Sp) : Prop where
 z : s.Z = (decAns T s.A).2.1
 i : s.I = (decAns T s.A).1
 ok : (decAns T s.A).2.2 = 0
theorem SpGood.fine {T : List UInt8} {s : Sp} (h : SpGood T s) : DecFine T s.A := decAns_fine h.ok
theorem swS_good (T : List UInt8) (e : Int) : ∀ (n : Nat) (a : Int), swB T e n a = false → 0 ≤ a → a ≤ e → e - a ≤ n → Chain a (swS T e n a) e ∧ ∀ s ∈ swS T e n a, SpGood T s
 | 0, a, _, h0, h1, h2 => ⟨by simp only [swS, Chain]; omega, fun s hs => by cases hs⟩
 | n + 1, a, hb, h0, h1, h2 => by
  unfold swB at hb
  unfold swS
  by_cases h : a < e
  ·rw [if_pos h] at hb ⊢
   simp only [Bool.or_eq_false_iff, decide_eq_false_iff_not] at hb
   obtain ⟨⟨b1, b2⟩, b3⟩ := hb
   have hok : (decAns T a).2.2 = 0 := Classical.not_not.1 b1
   have hf := decAns_fine hok
   have := hf.z1
   obtain ⟨c1, c2⟩ := swS_good T e n _ b3 jo jo jo
   refine ⟨⟨rfl, hf.z1, c1⟩, fun s hs => ?_⟩
   rcases List.mem_cons.1 hs with rfl | q
   ·exact ⟨rfl, rfl, hok⟩
   exact c2 s q
  rw [if_neg h]
  exact ⟨by simp only [Chain]; omega, fun s hs => by cases hs⟩
def annS (L : List (List Sp)) : Nat → List (Nat × Sp)
 | 0 => []
 | k + 1 => annS L k ++ (nth L k).map fun s => (k, s)
theorem mem_annS {L : List (List Sp)} : ∀ {k : Nat} {p : Nat × Sp}, p ∈ annS L k ↔ p.1 < k ∧ p.2 ∈ nth L p.1
 | 0, p => ⟨fun h => (by cases h), fun h => absurd h.1 (Nat.not_lt_zero _)⟩
 | k + 1, p => by
  unfold annS
  rw [List.mem_append, mem_annS, List.mem_map]
  constructor
  ·rintro (h | ⟨s, h, rfl⟩)
   ·exact ⟨by omega, h.2⟩
   exact ⟨Nat.lt_succ_self _, h⟩
  rintro ⟨h1, h2⟩
  rcases Nat.lt_or_ge p.1 k with q | q
  ·exact Or.inl ⟨q, h2⟩
  obtain rfl : p.1 = k := by omega
  exact Or.inr ⟨p.2, h2, rfl⟩
theorem cutF_is (m : Img) : ∀ k, cutF m k = (annS (allS m) k).foldl (fun c p => cutS m p.1 c p.2) ⟨[], fun _ => none⟩
 | 0 => rfl
 | k + 1 => by unfold cutF annS; rw [List.foldl_append, ← cutF_is m k, List.foldl_map]
theorem allS_len (m : Img) : (allS m).length = m.Funcs.length := by simp [allS]
theorem allS_nth (m : Img) {i : Nat} (h : i < m.Funcs.length) : nth (allS m) i = spsF m.Text (nth m.Funcs i) := nthMap _ _ h
theorem badF_no {m : Img} (hg : ImgGood m) {i : Nat} (hi : i < m.Funcs.length) (hb : badF m.Text (nth m.Funcs i) = false) :
  Chain (sumF m i) (nth (allS m) i) (sumF m (i + 1)) ∧ (∀ s ∈ nth (allS m) i, SpGood m.Text s) ∧ lstB (nth (allS m) i) = false ∧ 0 < (nth (allS m) i).length := by
 unfold badF at hb
 rw [Bool.or_eq_false_iff] at hb
 obtain ⟨b1, b2⟩ := hb
 have hf := (hg.func i hi).2.2
 rw [allS_nth m hi]
 have h0 : 0 ≤ sumF m i := by
  clear b1 b2 hf
  induction i with
  | zero => exact Int.le_refl _
  | succ i ih => have := ih jo; have := (hg.func i jo).2.2.2.1; show 0 ≤ sumF m i + (nth m.Funcs i).Size; omega
 have hs : fEnd (nth m.Funcs i) = sumF m (i + 1) := by unfold fEnd; rw [hf.1]; rfl
 have hss : sumF m (i + 1) = sumF m i + (nth m.Funcs i).Size := rfl
 obtain ⟨c1, c2⟩ := swS_good m.Text (fEnd (nth m.Funcs i)) (nth m.Funcs i).Size.toNat (nth m.Funcs i).Start b1 (by rw [hf.1]; exact h0) (by unfold fEnd; omega) (by unfold fEnd; omega)
 rw [hs, hf.1] at c1
 unfold spsF
 refine ⟨by rw [hs, hf.1]; exact c1, c2, b2, ?_⟩
 rcases Nat.eq_zero_or_pos (swS m.Text (fEnd (nth m.Funcs i)) (nth m.Funcs i).Size.toNat (nth m.Funcs i).Start).length with q | q
 ·have q2 := List.length_eq_zero_iff.1 q
  rw [hs, hf.1] at q2
  rw [q2] at c1
  simp only [Chain] at c1
  have := hf.2.1
  omega
 exact q
def Swept (m : Img) : Prop := anyN (fun i => badF m.Text (nth m.Funcs i)) m.Funcs.length = false
theorem Swept.f {m : Img} (h : Swept m) {i : Nat} (hi : i < m.Funcs.length) : badF m.Text (nth m.Funcs i) = false := anyN_false h i hi
theorem sumF_mono {m : Img} (hg : ImgGood m) {i : Nat} : ∀ {j : Nat}, i ≤ j → j ≤ m.Funcs.length → sumF m i ≤ sumF m j
 | 0, h, _ => by obtain rfl : i = 0 := by omega
                 exact Int.le_refl _
 | j + 1, h, hj => by
  rcases Nat.lt_or_ge i (j + 1) with q | q
  ·have := sumF_mono hg (show i ≤ j by omega) jo; have := (hg.func j jo).2.2.2.1; show sumF m i ≤ sumF m j + (nth m.Funcs j).Size; omega
  obtain rfl : i = j + 1 := by omega
  exact Int.le_refl _
theorem ann_chain {m : Img} (hg : ImgGood m) (hs : Swept m) : ∀ k, k ≤ m.Funcs.length → Chain 0 ((annS (allS m) k).map (·.2)) (sumF m k)
 | 0, _ => rfl
 | k + 1, hk => by unfold annS; (rw [List.map_append, List.map_map, show ((fun x : Nat × Sp => x.2) ∘ fun s => (k, s)) = id from rfl, List.map_id]); exact (ann_chain hg hs k jo).app (badF_no hg jo (hs.f jo)).1
theorem ann_in {m : Img} (hg : ImgGood m) (hs : Swept m) {p : Nat × Sp} (hp : p ∈ annS (allS m) m.Funcs.length) : sumF m p.1 ≤ p.2.A ∧ p.2.A + p.2.Z ≤ sumF m (p.1 + 1) ∧ SpGood m.Text p.2 := by
 obtain ⟨h1, h2⟩ := mem_annS.1 hp
 obtain ⟨c, g, -, -⟩ := badF_no hg h1 (hs.f h1)
 have := c.mem _ h2
 exact ⟨this.1, this.2.1, g _ h2⟩
theorem ann_uniq {m : Img} (hg : ImgGood m) (hs : Swept m) {p q : Nat × Sp} (hp : p ∈ annS (allS m) m.Funcs.length) (hq : q ∈ annS (allS m) m.Funcs.length) (he : p.2.A = q.2.A) : p = q := by
 have h1 := ann_in hg hs hp
 have h2 := ann_in hg hs hq
 have z1 := h1.2.2.fine.z1
 have z2 := h2.2.2.fine.z1
 rw [← h1.2.2.z] at z1
 rw [← h2.2.2.z] at z2
 obtain ⟨f1, g1⟩ := mem_annS.1 hp
 obtain ⟨f2, g2⟩ := mem_annS.1 hq
 have hf : p.1 = q.1 := by
  rcases Nat.lt_trichotomy p.1 q.1 with h | h | h
  ·have := sumF_mono hg (show p.1 + 1 ≤ q.1 by omega) jo; omega
  ·exact h
  have := sumF_mono hg (show q.1 + 1 ≤ p.1 by omega) jo; omega
 have H0 : p.2 = q.2 := (badF_no hg f1 (hs.f f1)).1.uniq _ g1 _ (by rw [hf]; exact g2) he
 exact Prod.ext hf H0
theorem own1_is (v : Int) : ∀ (l : List Sp) (om : Int → Option Int) (x : Int), own1 v l om x = if ∃ s ∈ l, s.A = x then some v else om x
 | [], om, x => by rw [if_neg (by rintro ⟨s, h, -⟩; cases h)]; rfl
 | s :: r, om, x => by
  show own1 v r (putI om s.A v) x = _
  rw [own1_is v r]
  by_cases h : ∃ t ∈ r, t.A = x
  ·obtain ⟨t, ht, e⟩ := h
   rw [if_pos ⟨t, ht, e⟩, if_pos ⟨t, List.mem_cons_of_mem _ ht, e⟩]
  rw [if_neg h]
  unfold putI
  by_cases e : x = s.A
  ·rw [if_pos e, if_pos ⟨s, List.mem_cons_self .., e.symm⟩]
  rw [if_neg e, if_neg]
  rintro ⟨t, ht, e2⟩
  rcases List.mem_cons.1 ht with rfl | q
  ·exact e e2.symm
  exact h ⟨t, q, e2⟩
theorem ownS_some {L : List (List Sp)} : ∀ {k : Nat} {x v : Int}, ownS L k x = some v → ∃ p ∈ annS L k, p.2.A = x ∧ v = (p.1 : Int)
 | 0, x, v, h => by cases h
 | k + 1, x, v, h => by
  unfold ownS at h
  rw [own1_is] at h
  by_cases q : ∃ s ∈ nth L k, s.A = x
  ·rw [if_pos q] at h
   obtain ⟨s, hs, e⟩ := q
   cases h
   exact ⟨(k, s), mem_annS.2 ⟨Nat.lt_succ_self _, hs⟩, e, rfl⟩
  rw [if_neg q] at h
  obtain ⟨p, hp, e⟩ := ownS_some h
  exact ⟨p, mem_annS.2 ⟨by have := (mem_annS.1 hp).1; omega, (mem_annS.1 hp).2⟩, e⟩
theorem ownS_isSome {L : List (List Sp)} : ∀ {k : Nat} {p : Nat × Sp}, p ∈ annS L k → (ownS L k p.2.A).isSome = true
 | 0, p, h => by cases h
 | k + 1, p, h => by
  unfold ownS
  rw [own1_is]
  by_cases q : ∃ s ∈ nth L k, s.A = p.2.A
  ·rw [if_pos q]; rfl
  rw [if_neg q]
  obtain ⟨h1, h2⟩ := mem_annS.1 h
  refine ownS_isSome (mem_annS.2 ⟨?_, h2⟩)
  rcases Nat.lt_or_ge p.1 k with z | z
  ·exact z
  obtain rfl : p.1 = k := by omega
  exact absurd ⟨p.2, h2, rfl⟩ q
theorem ownS_at {m : Img} (hg : ImgGood m) (hs : Swept m) {p : Nat × Sp} (hp : p ∈ annS (allS m) m.Funcs.length) : ownS (allS m) m.Funcs.length p.2.A = some (p.1 : Int) := by
 have h := ownS_isSome hp
 cases e : ownS (allS m) m.Funcs.length p.2.A with
 | none => rw [e] at h; cases h
 | some v =>
  obtain ⟨q, hq, e1, e2⟩ := ownS_some e
  rw [ann_uniq hg hs hq hp e1] at e2
  rw [e2]
def ownR (m : Img) (x : Int) : Int := (ownS (allS m) m.Funcs.length x).getD (-1)
def atB (m : Img) (x : Nat) : Bool := if ownR m x < 0 then false else spB m (ownS (allS m) m.Funcs.length) (ownR m x) ⟨x, (decAns m.Text x).2.1, (decAns m.Text x).1⟩
theorem atB_spot {m : Img} (hg : ImgGood m) (hs : Swept m) {p : Nat × Sp} (hp : p ∈ annS (allS m) m.Funcs.length) : atB m p.2.A.toNat = spB m (ownS (allS m) m.Funcs.length) p.1 p.2 ∧ ownR m p.2.A = (p.1 : Int) := by
 have h := ann_in hg hs hp
 have h0 := h.2.2.fine.x0
 have hr : ownR m p.2.A = (p.1 : Int) := by unfold ownR; rw [ownS_at hg hs hp]; rfl
 refine ⟨?_, hr⟩
 unfold atB
 rw [Int.toNat_of_nonneg h0, hr, if_neg jo, ← h.2.2.z, ← h.2.2.i]
theorem atB_any {m : Img} (hg : ImgGood m) (hs : Swept m) : anyN (atB m) m.Text.length = anyN (fun i => anyN (fun k => spB m (ownS (allS m) m.Funcs.length) i (nth (nth (allS m) i) k)) (nth (allS m) i).length) m.Funcs.length := by
 cases e : anyN (atB m) m.Text.length with
 | true =>
  obtain ⟨x, hx, hb⟩ := anyN_true e
  have ho : ¬ ownR m x < 0 := by intro q; unfold atB at hb; rw [if_pos q] at hb; cases hb
  cases e2 : ownS (allS m) m.Funcs.length (x : Int) with
  | none => exact absurd (by unfold ownR; rw [e2]; decide) ho
  | some v =>
   obtain ⟨p, hp, e3, e4⟩ := ownS_some e2
   have h := (atB_spot hg hs hp).1
   rw [e3, Int.toNat_natCast, hb] at h
   obtain ⟨h1, h2⟩ := mem_annS.1 hp
   obtain ⟨k, hk, ek⟩ := memNth h2
   have h7 : anyN (fun k => spB m (ownS (allS m) m.Funcs.length) p.1 (nth (nth (allS m) p.1) k)) (nth (allS m) p.1).length = true := anyN_yes hk (by rw [ek, ← h])
   exact (anyN_yes (p := fun i => anyN (fun k => spB m (ownS (allS m) m.Funcs.length) i (nth (nth (allS m) i) k)) (nth (allS m) i).length) h1 h7).symm
 | false =>
  refine (anyN_no fun i hi => anyN_no fun k hk => ?_).symm
  have hp : (i, nth (nth (allS m) i) k) ∈ annS (allS m) m.Funcs.length := mem_annS.2 ⟨hi, nthMem hk⟩
  have h := (atB_spot hg hs hp).1
  have hf := (ann_in hg hs hp).2.2.fine
  dsimp only at h hf ⊢
  rw [← h]
  exact anyN_false e _ (by have := hf.x0; have := hf.x1; omega)
structure Followed (m : Img) : Prop where
 good : ImgGood m
 sw : Swept m
 tab : ∀ i, i < m.Tables.length → ∀ x ∈ nth m.Tables i, ∃ p ∈ annS (allS m) m.Funcs.length, p.2.A = x
 sp : ∀ p ∈ annS (allS m) m.Funcs.length, spB m (ownS (allS m) m.Funcs.length) p.1 p.2 = false
theorem followed {m : Img} (h0 : imgFault m = 0) (hb : recB m = false) : Followed m := by
 unfold recB at hb
 rw [Bool.or_eq_false_iff, Bool.or_eq_false_iff] at hb
 obtain ⟨b1, b2, b3⟩ := hb
 refine ⟨imgGood m h0, b1, fun i hi x hx => ?_, fun p hp => ?_⟩
 ·obtain ⟨k, hk, e⟩ := memNth hx
  have := anyN_false (anyN_false b2 i hi) k hk
  cases e2 : ownS (allS m) m.Funcs.length (nth (nth m.Tables i) k) with
  | none => rw [e2] at this; cases this
  | some v =>
   obtain ⟨p, hp, e3, -⟩ := ownS_some e2
   exact ⟨p, hp, by rw [e3, e]⟩
 obtain ⟨h1, h2⟩ := mem_annS.1 hp
 obtain ⟨k, hk, ek⟩ := memNth h2
 have := anyN_false (anyN_false b3 p.1 h1) k hk
 rw [ek] at this
 exact this
theorem mem_keysM {m : Img} {L : List (List Sp)} {x : Int} : ∀ {n : Nat}, x ∈ keysM m L n ↔ x ∈ m.Tables.flatten ∨ (∃ i, i < n ∧ x = (nth m.Funcs i).Start) ∨ ∃ p ∈ annS L n, x ∈ keysP p.2
 | 0 => by
  unfold keysM annS
  constructor
  ·exact fun h => Or.inl h
  rintro (h | ⟨i, h, -⟩ | ⟨p, h, -⟩)
  ·exact h
  ·exact absurd h (Nat.not_lt_zero _)
  cases h
 | n + 1 => by
  unfold keysM keysF annS
  rw [List.mem_append, mem_keysM (n := n), List.mem_cons, List.mem_flatMap]
  constructor
  ·rintro ((h | ⟨i, hi, h⟩ | ⟨p, hp, h⟩) | h | ⟨s, hs, h⟩)
   ·exact Or.inl h
   ·exact Or.inr (Or.inl ⟨i, by omega, h⟩)
   ·exact Or.inr (Or.inr ⟨p, List.mem_append_left _ hp, h⟩)
   ·exact Or.inr (Or.inl ⟨n, by omega, h⟩)
   exact Or.inr (Or.inr ⟨(n, s), List.mem_append_right _ (List.mem_map.2 ⟨s, hs, rfl⟩), h⟩)
  rintro (h | ⟨i, hi, h⟩ | ⟨p, hp, h⟩)
  ·exact Or.inl (Or.inl h)
  ·rcases Nat.lt_or_ge i n with q | q
   ·exact Or.inl (Or.inr (Or.inl ⟨i, q, h⟩))
   obtain rfl : i = n := by omega
   exact Or.inr (Or.inl h)
  rcases List.mem_append.1 hp with q | q
  ·exact Or.inl (Or.inr (Or.inr ⟨p, q, h⟩))
  obtain ⟨s, hs, rfl⟩ := List.mem_map.1 q
  exact Or.inr (Or.inr ⟨s, hs, h⟩)
theorem isL_iff {m : Img} {x : Int} : isL m x = true ↔ x ∈ m.Tables.flatten ∨ (∃ i, i < m.Funcs.length ∧ x = (nth m.Funcs i).Start) ∨ ∃ p ∈ annS (allS m) m.Funcs.length, x ∈ keysP p.2 := by
 unfold isL
 rw [decide_eq_true_eq, mem_keysM]
section
variable {m : Img}
theorem Followed.first (h : Followed m) {i : Nat} (hi : i < m.Funcs.length) : ∃ p ∈ annS (allS m) m.Funcs.length, p.2.A = (nth m.Funcs i).Start ∧ p.1 = i := by
 obtain ⟨c, -, -, hl⟩ := badF_no h.good hi (h.sw.f hi)
 cases e : nth (allS m) i with
 | nil => rw [e] at hl; cases hl
 | cons s r =>
  rw [e] at c
  exact ⟨(i, s), mem_annS.2 ⟨hi, by rw [e]; exact List.mem_cons_self ..⟩, by rw [(h.good.func i hi).2.2.1]; exact c.1, rfl⟩
theorem chain_next : ∀ {l : List Sp} {a e : Int}, Chain a l e → ∀ s ∈ l, s.A + s.Z = e ∨ ∃ t ∈ l, t.A = s.A + s.Z
 | [], _, _, _, s, hs => by cases hs
 | x :: r, a, e, h, s, hs => by
  obtain ⟨h1, h2, h3⟩ := h
  rcases List.mem_cons.1 hs with rfl | q
  ·rw [h1]
   cases r with
   | nil => exact Or.inl h3
   | cons y r => exact Or.inr ⟨y, List.mem_cons_of_mem _ (List.mem_cons_self ..), h3.1⟩
  rcases chain_next h3 s q with z | ⟨t, ht, z⟩
  ·exact Or.inl z
  exact Or.inr ⟨t, List.mem_cons_of_mem _ ht, z⟩
theorem Followed.chain (h : Followed m) : Chain 0 ((annS (allS m) m.Funcs.length).map (·.2)) m.Text.length := by
 have := ann_chain h.good h.sw m.Funcs.length (Nat.le_refl _)
 rw [h.good.sum] at this
 exact this
theorem Followed.next (h : Followed m) {p : Nat × Sp} (hp : p ∈ annS (allS m) m.Funcs.length) : p.2.A + p.2.Z = m.Text.length ∨ ∃ q ∈ annS (allS m) m.Funcs.length, q.2.A = p.2.A + p.2.Z := by
 rcases chain_next h.chain p.2 (List.mem_map.2 ⟨p, hp, rfl⟩) with q | ⟨t, ht, q⟩
 ·exact Or.inl q
 obtain ⟨z, hz, rfl⟩ := List.mem_map.1 ht
 exact Or.inr ⟨z, hz, q⟩
theorem Followed.to (h : Followed m) {p : Nat × Sp} (hp : p ∈ annS (allS m) m.Funcs.length) (hk : brN p.2.I.K = true ∨ p.2.I.K = 22) : ∃ q ∈ annS (allS m) m.Funcs.length, q.2.A = p.2.A + p.2.I.N ∧ q.1 = p.1 := by
 have := h.sp p hp
 unfold spB at this
 rw [if_pos hk] at this
 simp only [Bool.not_eq_false', decide_eq_true_eq] at this
 obtain ⟨q, hq, e1, e2⟩ := ownS_some this
 exact ⟨q, hq, e1, by omega⟩
theorem Followed.lead (h : Followed m) {x : Int} (hx : isL m x = true) (hl : x < m.Text.length) : ∃ p ∈ annS (allS m) m.Funcs.length, p.2.A = x := by
 rcases isL_iff.1 hx with q | ⟨i, hi, rfl⟩ | ⟨p, hp, q⟩
 ·obtain ⟨t, ht, H0⟩ := List.mem_flatten.1 q
  obtain ⟨i, hi, rfl⟩ := memNth ht
  exact h.tab i hi x H0
 ·obtain ⟨p, hp, e, -⟩ := h.first hi
  exact ⟨p, hp, e⟩
 have hn : x = p.2.A + p.2.Z → ∃ p ∈ annS (allS m) m.Funcs.length, p.2.A = x := fun e => by
  rcases h.next hp with z | ⟨t, ht, z⟩
  ·omega
  exact ⟨t, ht, by rw [z, e]⟩
 unfold keysP at q
 split at q
 ·rename_i hk
  rcases List.mem_cons.1 q with rfl | q
  ·obtain ⟨t, ht, e, -⟩ := h.to hp hk
   exact ⟨t, ht, e⟩
  exact hn (by simpa using q)
 split at q
 ·exact hn (by simpa using q)
 cases q
theorem Followed.isL_next (h : Followed m) {p : Nat × Sp} (hp : p ∈ annS (allS m) m.Funcs.length) (he : endsN p.2.I.K ≠ 0) : isL m (p.2.A + p.2.Z) = true := by
 refine isL_iff.2 (Or.inr (Or.inr ⟨p, hp, ?_⟩))
 unfold endsN at he
 unfold keysP
 by_cases h1 : stN p.2.I.K = true
 ·by_cases h2 : brN p.2.I.K = true ∨ p.2.I.K = 22
  ·rw [if_pos h2]; simp
  rw [if_neg h2, if_pos h1]; simp
 rw [if_neg h1] at he
 by_cases h2 : brN p.2.I.K = true ∨ p.2.I.K = 22
 ·rw [if_pos h2]; simp
 rw [if_neg (fun q => h2 (Or.inr q)), if_neg (fun q => h2 (Or.inl q))] at he
 exact absurd rfl he
theorem Chain.last_end : ∀ {l : List Sp} {a e : Int}, Chain a l e → 0 < l.length → (nth l (l.length - 1)).A + (nth l (l.length - 1)).Z = e
 | [], _, _, _, h => absurd h (Nat.lt_irrefl 0)
 | [s], a, e, h, _ => by obtain ⟨h1, -, h3⟩ := h; simp only [Chain] at h3; (show s.A + s.Z = e); omega
 | s :: t :: r, a, e, h, _ => by (have := Chain.last_end h.2.2 (by simp)); (have e1 : nth (s :: t :: r) ((s :: t :: r).length - 1) = nth (t :: r) ((t :: r).length - 1) := by (show (s :: t :: r).getD ((s :: t :: r).length - 1) default = (t :: r).getD ((t :: r).length - 1) default); simp); rw [e1]; exact this
theorem Followed.isL_end (h : Followed m) : isL m m.Text.length = true := by
 have hn : 0 < m.Funcs.length := by have := h.good.entry; omega
 obtain ⟨c, g, hl, H0⟩ := badF_no h.good (i := m.Funcs.length - 1) jo (h.sw.f jo)
 have hp : (m.Funcs.length - 1, nth (nth (allS m) (m.Funcs.length - 1)) ((nth (allS m) (m.Funcs.length - 1)).length - 1)) ∈ annS (allS m) m.Funcs.length := mem_annS.2 ⟨by dsimp only; omega, nthMem (by dsimp only; omega)⟩
 have := h.isL_next hp (by
  dsimp only
  unfold lstB at hl
  unfold endsN
  simp only [Bool.and_eq_false_iff, Bool.not_eq_false', decide_eq_true_eq] at hl
  rcases hl with q | q
  ·rw [if_pos q]; decide
  rw [q]; decide)
 dsimp only at this
 rw [c.last_end H0, show m.Funcs.length - 1 + 1 = m.Funcs.length by omega, h.good.sum] at this
 exact this
end
end Go.Proofs.YtgdamggkaklhjaaDoor
