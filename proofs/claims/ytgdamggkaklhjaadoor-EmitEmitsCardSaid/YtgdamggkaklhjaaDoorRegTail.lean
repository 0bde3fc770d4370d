/-
A region that draws its order, whose last operations wait fo
-/
import Derived.StillTail
import Derived.OrdersHeld
import Derived.WalkKit
set_option linter.all false
namespace Go
section
variable {P : Program} {Q : Exit → Act → World → Prop} {S : World → Prop}
def TailQ (P : Program) (ops : Array Oper) (Q : Exit → Act → World → Prop) (tail : List Oper) : Exit → Act → World → Prop
 | .normal, a, w => wpList P ops Q tail a w
 | e, a, w => Q e a w
def backB (md : Region.Mode) (ops : Array Oper) (n : Nat) : Bool :=
 (List.range n).all fun i => match ops[i]? with
  | some o => o.guard.isNone && o.after.all fun e => !Region.binds md e || decide (e.on < i)
  | none => false
theorem backB_spec {md : Region.Mode} {ops : Array Oper} {n : Nat} (h : backB md ops n = true) {i : Nat} (hi : i < n) : ∃ o, ops[i]? = some o ∧ o.guard = none ∧ ∀ e ∈ o.after, Region.binds md e = true → e.on < i := by
 have h1 := List.all_eq_true.1 h i (List.mem_range.2 hi)
 split at h1
 ·rename_i o ho
  simp only [Bool.and_eq_true, Option.isNone_iff_eq_none, Array.all_eq_true'] at h1
  refine ⟨o, ho, h1.1, fun e he hb => ?_⟩
  have := h1.2 e he
  rw [hb] at this
  simpa using this
 cases h1
theorem letsOut_tail {ops : Array Oper} {tail : List Oper} (h : LetsOut (TailQ P ops Q tail)) : LetsOut Q := h
theorem upon_tail {o : Oper} {a : Act} {ops : Array Oper} {tail : List Oper} {K K' : Act → World → Prop} (hK : ∀ a w, K a w → K' a w) : ∀ {r : Result Next}, o.upon P a K (TailQ P ops Q tail) r → o.upon P a K' Q r
 | .ok (.value _) _, h => hK _ _ h
 | .ok .skip _, h => hK _ _ h
 | .ok (.defer _) _, h => hK _ _ h
 | .ok (.enter _ _) _, h => Calls.mono h fun e w'' he => by
   cases e with
   | returned v => exact hK _ _ he
   | panicked c => exact he
   | outgrown => exact letsOut_tail he
 | .ok (.row _ _) _, h => Rows.mono h fun _ _ he => hK _ _ he
 | .halt (.panic _) _, h => h
 | .halt .blocked _, h => h.elim
 | .halt .waiting _, h => h.elim
 | .halt (.unsupported _) _, h => h.elim
theorem wpAny_more {md : Region.Mode} {ops : Array Oper} : ∀ (f : Nat) (listed : Array Bool) (a : Act) (w : World), wpAny P md ops Q f listed a w → wpAny P md ops Q (f + 1) listed a w
 | 0, _, _, _, h => ⟨fun _ => h.2, fun i hi => by rw [h.1] at hi; cases hi⟩
 | f + 1, _, _, _, h => ⟨h.1, fun i hi => wpOp_mono (fun a' w' h' => wpAny_more f _ a' w' h') (h.2 i hi)⟩
theorem wpAny_plus {md : Region.Mode} {ops : Array Oper} {g : Nat} {listed : Array Bool} {a : Act} {w : World} (h : wpAny P md ops Q g listed a w) : ∀ k, wpAny P md ops Q (k + g) listed a w
 | 0 => by rw [Nat.zero_add]; exact h
 | k + 1 => by rw [show k + 1 + g = (k + g) + 1 by omega]; exact wpAny_more _ _ _ _ (wpAny_plus h k)
structure HT (md : Region.Mode) (l : List Oper) (n : Nat) (listed hl : Array Bool) : Prop where
 inv : HeadInv md l.toArray n listed
 hs : hl.size = n
 same : ∀ i, i < n → listed[i]? = hl[i]?
theorem HT.getD {md : Region.Mode} {l : List Oper} {n : Nat} {listed hl : Array Bool} (h : HT md l n listed hl) {i : Nat} (hi : i < n) (d : Bool) : listed.getD i d = hl.getD i d := by
 have := h.same i hi
 simp only [Array.getD_eq_getD_getElem?, this]
theorem head_at {l : List Oper} {n i : Nat} (hi : i < n) : (l.take n).toArray[i]? = l.toArray[i]? := by simp [hi]
theorem head_none {l : List Oper} {n i : Nat} (hi : n ≤ i) : (l.take n).toArray[i]? = none := by simp; omega
theorem HT.ready {md : Region.Mode} {l : List Oper} {n : Nat} {listed hl : Array Bool} (h : HT md l n listed hl) (hb : backB md l.toArray n = true) {i : Nat} (hi : i < n) : i ∈ Region.ready md l.toArray listed ↔ i ∈ Region.ready md (l.take n).toArray hl := by
 obtain ⟨o, ho, -, he⟩ := backB_spec hb hi
 rw [mem_ready, mem_ready, h.getD hi, head_at hi]
 constructor
 ·rintro ⟨h1, o', H0, H1⟩
  refine ⟨h1, o', H0, fun e hm hbe => ?_⟩
  rw [ho] at H0
  obtain rfl := Option.some.inj H0
  rw [← h.getD (by have := he e hm hbe; omega)]
  exact H1 e hm hbe
 rintro ⟨h1, o', H0, H1⟩
 refine ⟨h1, o', H0, fun e hm hbe => ?_⟩
 rw [ho] at H0
 obtain rfl := Option.some.inj H0
 rw [h.getD (by have := he e hm hbe; omega)]
 exact H1 e hm hbe
theorem HT.set {md : Region.Mode} {l : List Oper} {n i : Nat} {listed hl : Array Bool} (h : HT md l n listed hl) (hr : i ∈ Region.ready md l.toArray listed) (hi : i < n) : HT md l n (listed.setIfInBounds i true) (hl.setIfInBounds i true) := by
 refine ⟨h.inv.set hr hi, by simp [h.hs], fun j hj => ?_⟩
 have := h.same j hj
 rw [Array.getElem?_setIfInBounds, Array.getElem?_setIfInBounds]
 by_cases e : i = j
 ·subst e
  have h1 : i < hl.size := by rw [h.hs]; exact hi
  have h2 : i < listed.size := by (have : (listed[i]?).isSome := by rw [this]; simp [h1]); simpa using this
  simp [h1, h2]
 simp [e, this]
theorem HT.full {md : Region.Mode} {l : List Oper} {n : Nat} {listed hl : Array Bool} (h : HT md l n listed hl) (hb : backB md l.toArray n = true) (hr : Region.ready md (l.take n).toArray hl = []) : ∀ i, i < n → hl.getD i true = true := by
 intro i
 induction i using Nat.strongRecOn with
 | _ i ih =>
  intro hi
  cases hu : hl.getD i true with
  | true => rfl
  | false =>
   exfalso
   obtain ⟨o, ho, -, he⟩ := backB_spec hb hi
   have : i ∈ Region.ready md (l.take n).toArray hl := by
    rw [mem_ready, head_at hi]
    refine ⟨hu, o, ho, fun e hm hbe => ?_⟩
    have H0 := he e hm hbe
    have h1 := ih e.on H0 (by omega)
    have h2 : e.on < hl.size := by rw [h.hs]; omega
    simp [h2] at h1 ⊢
    exact h1
   rw [hr] at this
   cases this
def sinkX (md : Region.Mode) (ops : Array Oper) (n ex : Nat) : Bool :=
 (List.range n).all fun i => (i == ex) || (List.range (n + 1)).any fun j => decide (i < j) && !(j == ex) && Region.waitsFor md ops j i
theorem waitsX {md : Region.Mode} {l : List Oper} {n ex : Nat} {listed : Array Bool} (hs : sinkX md l.toArray n ex = true) (hc : Region.chainB md l.toArray n = true) (hn : n < l.toArray.size) (inv : HeadInv md l.toArray n listed) :
  ∀ (d i : Nat), n - i = d → i < n → i ≠ ex → listed.getD i true = false → ∀ t, n ≤ t → t ∉ Region.ready md l.toArray listed := by
 intro d
 induction d using Nat.strongRecOn with
 | _ d ih =>
  intro i hd hi H6 H4 t ht hr
  obtain ⟨_, ot, H2, H0⟩ := mem_ready.1 hr
  have H7 : t < l.toArray.size := (Array.getElem?_eq_some_iff.1 H2).1
  rcases Nat.lt_or_ge n t with q | q
  ·have h1 := List.all_eq_true.1 hc t (List.mem_range.2 H7)
   simp only [Bool.or_eq_true, decide_eq_true_eq] at h1
   rcases h1 with h1 | h1
   ·omega
   obtain ⟨o', H8, e, he, hb, H1⟩ := Region.waitsFor_spec h1
   obtain rfl := Option.some.inj (H8.symm.trans H2)
   have h2 := H0 e he hb
   rw [H1, getD_both (inv.tail (t - 1) (by omega) (by omega))] at h2
   cases h2
  obtain rfl : t = n := by omega
  have h1 := List.all_eq_true.1 hs i (List.mem_range.2 hi)
  simp only [Bool.or_eq_true, beq_iff_eq] at h1
  rcases h1 with h1 | h1
  ·exact H6 h1
  obtain ⟨j, hj, H3⟩ := List.any_eq_true.1 h1
  simp only [Bool.and_eq_true, decide_eq_true_eq, Bool.not_eq_true', beq_eq_false_iff_ne] at H3
  obtain ⟨oj, H5, e, he, hb, H1⟩ := Region.waitsFor_spec H3.2
  have hjl := List.mem_range.1 hj
  rcases Nat.lt_or_ge j t with q2 | q2
  ·cases hl : listed.getD j false with
   | true =>
    have h2 := inv.closed j oj H5 hl e he hb
    rw [H1, getD_both H4] at h2
    cases h2
   | false =>
    exact ih (t - j) (by omega) j rfl q2 H3.1.2 (getD_in (by rw [inv.size]; omega) hl) t (Nat.le_refl _) hr
  obtain rfl : j = t := by omega
  obtain rfl := Option.some.inj (H5.symm.trans H2)
  have h2 := H0 e he hb
  rw [H1, getD_both H4] at h2
  cases h2
theorem wpAny_of_headH {md : Region.Mode} {l : List Oper} {n : Nat} (hb : backB md l.toArray n = true) {ex : Nat} (hs : sinkX md l.toArray n ex = true) (hc : Region.chainB md l.toArray n = true) (hn : n < l.toArray.size)
  (hseq : Region.seqB md l.toArray (l.drop n).length n (Array.replicate n true ++ Array.replicate (l.toArray.size - n) false) = true) :
  ∀ (f : Nat) (listed hl : Array Bool) (a : Act) (w : World), HT md l n listed hl → (ex < n → hl.getD ex true = true) → wpAnyH P md (l.take n).toArray (TailQ P l.toArray Q (l.drop n)) S f hl a w → wpAny P md l.toArray Q (f + (l.drop n).length) listed a w := by
 have H1 : ∀ (listed hl : Array Bool) (a : Act) (w : World), HT md l n listed hl → Region.ready md (l.take n).toArray hl = [] → wpList P l.toArray Q (l.drop n) a w → wpAny P md l.toArray Q (l.drop n).length listed a w := by
  intro listed hl a w h hr hw
  have hf := h.full hb hr
  have e : listed = Array.replicate n true ++ Array.replicate (l.toArray.size - n) false := by
   apply Array.ext
   ·have hn' : n < l.length := by simpa using hn
    rw [h.inv.size]; simp; omega
   intro i h1 h2
   by_cases hi : i < n
   ·have g1 := hf i hi
    rw [← h.getD hi] at g1
    simp [h1] at g1
    rw [Array.getElem_append_left (by simpa using hi)]
    simpa using g1
   have g1 := h.inv.tail i (by omega) (by rw [← h.inv.size]; exact h1)
   simp [h1] at g1
   rw [Array.getElem_append_right (by simp; omega)]
   simpa using g1
  rw [e]
  exact wpAny_of_seq (l.drop n) n _ a w (fun j => by simp [List.getElem?_drop]) hseq hw
 intro f
 induction f with
 | zero => intro listed hl a w h _ hw; exact wpAny_plus (H1 listed hl a w h hw.1 hw.2) 0
 | succ f ih =>
  intro listed hl a w h hx hw
  by_cases hr : Region.ready md (l.take n).toArray hl = []
  ·exact wpAny_plus (H1 listed hl a w h hr (hw.1 hr)) (f + 1)
  obtain ⟨i0, H3⟩ := List.exists_mem_of_ne_nil _ hr
  have H0 : i0 < n := by
   rcases Nat.lt_or_ge i0 n with q | q
   ·exact q
   obtain ⟨_, o, ho, _⟩ := mem_ready.1 H3
   rw [head_none q] at ho
   cases ho
  have H4 : listed.getD i0 true = false := by rw [h.getD H0]; exact (mem_ready.1 H3).1
  rw [show f + 1 + (l.drop n).length = (f + (l.drop n).length) + 1 by omega]
  refine ⟨fun e => ?_, fun i hi => ?_⟩
  ·have := (h.ready hb H0).2 H3
   rw [e] at this
   cases this
  have H2 : i < n := by
   rcases Nat.lt_or_ge i n with q | q
   ·exact q
   exact absurd hi (waitsX hs hc hn h.inv _ i0 rfl H0 (fun e => by have h1 := hx (by omega); rw [← e, ← h.getD H0, H4] at h1; cases h1) H4 i q)
  have h1 := hw.2 i ((h.ready hb H2).1 hi)
  have H5 : ex < n → (hl.setIfInBounds i true).getD ex true = true := fun q => by
   by_cases e : i = ex
   ·subst e
    have hz : i < hl.size := by rw [h.hs]; exact H2
    rw [Array.getD_eq_getD_getElem?, Array.getElem?_setIfInBounds]
    simp [hz]
   rw [getD_set_ne true e]; exact hx q
  obtain ⟨o, ho, hg, -⟩ := backB_spec hb H2
  unfold wpOp at h1 ⊢
  rw [head_at H2, ho] at h1
  rw [ho]
  have H6 : ∀ x, Region.wanted o x = true := fun x => by simp [Region.wanted, hg]
  simp only [H6, if_true] at h1 ⊢
  rcases h1 with h1 | ⟨h1, h2⟩
  ·exact Or.inl (upon_tail (fun a' w' h' => ih _ _ a' w' (h.set hi H2) H5 h'.2) h1)
  exact Or.inr ⟨h1, letsOut_tail h2⟩
theorem wp_region_head_tail {id : Nat} {a : Act} {w : World} {l : List Oper} (n ex : Nat) {ox : Oper} {v : Value} (hm : P.follows .mixedOrders = true) (hx : l.toArray[ex]? = some ox) (hsel : Region.noSelect l.toArray = true) (hfr : Region.free .any l.toArray (Array.replicate l.toArray.size false) ex = true) (hrd : (Region.ready .any l.toArray (Array.replicate l.toArray.size false)).contains ex = true) (hxn : ex < n)
  (hQ : ∀ c a w, Q (.panic c) (a.put ox.dst v) w → Q (.panic c) a w) (hy : Yields P l.toArray ox v a)
  (hb : backB .any l.toArray n = true) (hs : sinkX .any l.toArray n ex = true) (hc : Region.chainB .any l.toArray n = true) (hn : n < l.toArray.size)
  (hseq : Region.seqB .any l.toArray (l.drop n).length n (Array.replicate n true ++ Array.replicate (l.toArray.size - n) false) = true) (hS : S w.drew)
  (h : S w.drew → wpAnyH P .any (l.take n).toArray (TailQ P l.toArray Q (l.drop n)) S (n - 1) ((Array.replicate n false).setIfInBounds ex true) (a.put ox.dst v) w.drew) : (Code.region id l.toArray true).wp P Q a w := by
 refine wp_region_any hm ?_
 have h0 : HT .any l n (Array.replicate l.toArray.size false) (Array.replicate n false) :=
  ⟨⟨by simp, fun j oj _ hl => (by rw [getD_replicate_false] at hl; cases hl), fun t _ ht => getD_in (by simpa using ht) (getD_replicate_false _ _)⟩, by simp, fun i hi => by (have h1 : i < l.length := by have := hn; simp at this; omega); (rw [Array.getElem?_eq_getElem (by simpa using h1), Array.getElem?_eq_getElem (by simpa using hi)]); simp⟩
 have H0 : ex ∈ Region.ready .any l.toArray (Array.replicate l.toArray.size false) := by simpa using hrd
 have H := wpAny_of_headH (P := P) (Q := Q) (S := S) hb hs hc hn hseq (n - 1) _ _ (a.put ox.dst v) w.drew (h0.set H0 hxn) (fun _ => by simp [hxn]) (h hS)
 have e : n - 1 + (l.drop n).length + 1 = l.toArray.size := by simp only [List.length_drop, List.size_toArray] at *; omega
 rw [← e]
 exact wpAny_take hx hsel (by rw [e]; exact hfr) (by rw [e]; exact hrd) hQ hy (by rw [e]; exact H)
end
end Go
