/-
isa.Size and the document's SizeOf: how many bytes an instru
-/
import Derived.Test.YtgdamggkaklhjaaDoorIsaLaid
import Derived.Test.YtgdamggkaklhjaaDoorMapEnt
set_option linter.all false
section
namespace Go.Proofs.YtgdamggkaklhjaaDoor
open Go.RowKit BH
set_option maxHeartbeats 1000000
set_option maxRecDepth 100000

def Siz (w : World) : Prop := ∀ s, s < 12 → w.cell? ⟨0, s, none⟩ = some (.int .i64 (sizeT s))
theorem Siz.keep {w w' : World} (h : Siz w) (hk : Keeps w w') : Siz w' := fun s hs => hk.cell (h s hs)

def shapeN (k : Nat) : Nat := [0, 1, 1, 1, 1, 2, 3, 4, 4, 4, 4, 4, 4, 4, 3, 5, 6, 7, 8, 8, 8, 8, 9, 10, 11].getD k 0
theorem shapeN_eq (k : Nat) (h : k ≤ 24) : shapeT k = shapeN k ∧ shapeN k < 12 := by
 have : ∀ k, k < 25 → shapeT k = shapeN k ∧ shapeN k < 12 := by decide
 exact this k jo
theorem sizeT_bd (s : Nat) (h : s < 12) : 0 ≤ sizeT s ∧ sizeT s ≤ 4 := by
 have : ∀ s, s < 12 → 0 ≤ sizeT s ∧ sizeT s ≤ 4 := by decide
 exact this s h
def insSize (k : Nat) (Lg : Bool) : Int := sizeT (shapeN k) + if Lg then 1 else 0
theorem insFault_kind {K D A B N : Int} {Lg : Bool} (h : insFault K D A B N Lg = 0) : 1 ≤ K ∧ K ≤ 24 := by
 by_cases hb : K < 1 ∨ 24 < K
 ·rw [insFault_bad hb] at h; cases h
 omega

theorem size_bad (K D A B N : Int) (Lg : Bool) (w : World) (ht : Tab w) (h : insFault K D A B N Lg ≠ 0) :
  Calls Tryd.prog 31 #[insV K D A B N Lg] w fun e w' => e = .returned (.tuple #[.int .i64 0, .int .i64 (insFault K D A B N Lg)]) ∧ Keeps w w' := by
 have HC := check_any K D A B N Lg _ (ht.keep ((Keeps.refl w).alloc (.cells #[.int .i64 K, .int .i64 D, .int .i64 A, .int .i64 B, .int .i64 N, .bool Lg] 64)))
 generalize insFault K D A B N Lg = F at h HC
 have hF : (F == 0) = false := by simpa using h
 have hF' : (F != 0) = true := by simpa using h
 clear h ht
 unfold insV at HC ⊢
 go_enter Tryd.func31, Tryd.ntmps31
 go_wp2_with fail
 refine HC.mono ?_
 rintro e w1 ⟨rfl, H0⟩
 go_wp2
 go_ret2
 exact ⟨rfl, ((Keeps.refl _).alloc _).trans H0⟩
theorem size_ok (K D A B N : Int) (Lg : Bool) (w : World) (ht : Tab w) (hs : Siz w) (h : insFault K D A B N Lg = 0) :
  Calls Tryd.prog 31 #[insV K D A B N Lg] w fun e w' => e = .returned (.tuple #[.int .i64 (insSize K.toNat Lg), .int .i64 0]) ∧ Keeps w w' := by
 obtain ⟨b1, b2⟩ := insFault_kind h
 obtain ⟨k, rfl⟩ : ∃ k : Nat, K = k := ⟨K.toNat, by omega⟩
 obtain ⟨e1, e2⟩ := shapeN_eq k jo
 have HC := check_any k D A B N Lg _ (ht.keep ((Keeps.refl w).alloc (.cells #[.int .i64 k, .int .i64 D, .int .i64 A, .int .i64 B, .int .i64 N, .bool Lg] 64)))
 rw [h] at HC
 obtain ⟨-, -, c2⟩ := ht k jo
 rw [e1] at c2
 have z0 := hs (shapeN k) e2
 obtain ⟨z1, z2⟩ := sizeT_bd (shapeN k) e2
 have HI := jH (show insSize (k : Int).toNat Lg = sizeT (shapeN k) + if Lg then 1 else 0 by rw [Int.toNat_natCast]; rfl)
 generalize sizeT (shapeN k) = z at z0 z1 z2 HI
 generalize shapeN k = s at c2 z0 e2
 have hG : 1 < w.heap.size := lt_of_cell c2
 have hG0 : 0 < w.heap.size := lt_of_cell z0
 clear ht hs h e1
 unfold insV at HC ⊢
 go_enter Tryd.func31, Tryd.ntmps31
 go_wp2_with fail
 refine HC.mono ?_
 rintro e w1 ⟨rfl, H0⟩
 have hb0 := jc w1 w.heap.size 0 k (H0.cell (by simp))
 have hb5 := jv w1 w.heap.size 5 (.bool Lg) (H0.cell (by simp))
 have d2 := jc w1 1 (k * 3 + 2) s ((((Keeps.refl w).alloc _).trans H0).cell c2)
 have d0 := jc w1 0 s z ((((Keeps.refl w).alloc _).trans H0).cell z0)
 clear c2 z0
 cases Lg
 all_goals
  go_wp2
  go_ret2
  exact ⟨by rw [HI.out]; simp, ((Keeps.refl _).alloc _).trans H0⟩
def sizeAns (K D A B N : Int) (Lg : Bool) : Int := if insFault K D A B N Lg = 0 then insSize K.toNat Lg else 0
theorem size_any (K D A B N : Int) (Lg : Bool) (w : World) (ht : Tab w) (hs : Siz w) :
  Calls Tryd.prog 31 #[insV K D A B N Lg] w fun e w' => e = .returned (.tuple #[.int .i64 (sizeAns K D A B N Lg), .int .i64 (insFault K D A B N Lg)]) ∧ Keeps w w' := by
 unfold sizeAns
 by_cases h : insFault K D A B N Lg = 0
 ·rw [if_pos h, h]; exact size_ok K D A B N Lg w ht hs h
 rw [if_neg h]; exact size_bad K D A B N Lg w ht h
theorem refSize_any (k : Nat) (h1 : 1 ≤ k) (h2 : k ≤ 24) (D A B N : Int) (Lg : Bool) (w : World) :
  Calls Tryd.prog 19 #[insV k D A B N Lg] w fun e w' => e = .returned (.int .i64 (insSize k Lg)) ∧ Keeps w w' := by
 have hk : (k ≤ 4 ∧ sizeT (shapeN k) = 1) ∨ (k = 5 ∧ sizeT (shapeN k) = 4) ∨ ((k = 16 ∨ k = 17 ∨ k = 22) ∧ sizeT (shapeN k) = 2) ∨ ((k ≠ 5 ∧ k ≠ 16 ∧ k ≠ 17 ∧ k ≠ 22 ∧ 4 < k) ∧ sizeT (shapeN k) = 3) := by
  have H0 : k = 1 ∨ k = 2 ∨ k = 3 ∨ k = 4 ∨ k = 5 ∨ k = 6 ∨ k = 7 ∨ k = 8 ∨ k = 9 ∨ k = 10 ∨ k = 11 ∨ k = 12 ∨ k = 13 ∨ k = 14 ∨ k = 15 ∨ k = 16 ∨ k = 17 ∨ k = 18 ∨ k = 19 ∨ k = 20 ∨ k = 21 ∨ k = 22 ∨ k = 23 ∨ k = 24 := by omega
  rcases H0 with rfl | rfl | rfl | rfl | rfl | rfl | rfl | rfl | rfl | rfl | rfl | rfl | rfl | rfl | rfl | rfl | rfl | rfl | rfl | rfl | rfl | rfl | rfl | rfl <;> simp [sizeT, shapeN]
 have HK := jH hk
 clear hk
 unfold insV
 cases Lg
 all_goals
  rcases HK.out with ⟨g, hz⟩ | ⟨g, hz⟩ | ⟨g, hz⟩ | ⟨g, hz⟩
  all_goals
   have HZ := jH hz
   clear hz
   go_enter Tryd.func19, Tryd.ntmps19
   go_wp2
   all_goals first
    | (go_ret
       exact ⟨by unfold insSize; rw [HZ.out]; rfl, (Keeps.refl _).alloc _⟩)
    | (exfalso; simp only [beq_iff_eq, beq_eq_false_iff_ne, ne_eq] at *; omega)

theorem scan_zero {g : Nat → Int} {e : Int} : ∀ {n i : Nat}, scan g e n i = 0 → (∀ j, i ≤ j → j < i + n → g j = 0) ∧ e = 0
 | 0, _, h => ⟨fun j h1 h2 => absurd h2 jo, h⟩
 | n + 1, i, h => by
  unfold scan at h
  by_cases h0 : g i = 0
  ·rw [if_pos h0] at h
   obtain ⟨h1, h2⟩ := scan_zero h
   refine ⟨fun j hj1 hj2 => ?_, h2⟩
   by_cases e : j = i
   ·rw [e]; exact h0
   exact h1 j jo jo
  rw [if_neg h0] at h; exact absurd h h0
structure ImgGood (m : Img) : Prop where
 text : m.Text.length ≤ 8000
 funcs : m.Funcs.length ≤ 40
 func : ∀ i, i < m.Funcs.length → nameOk (fname m i) = true ∧ anyN (sameName m i) i = false ∧ (nth m.Funcs i).Start = sumF m i ∧ 1 ≤ (nth m.Funcs i).Size ∧ (nth m.Funcs i).Size ≤ (m.Text.length : Int) - sumF m i
 sum : sumF m m.Funcs.length = (m.Text.length : Int)
 entry : 0 ≤ m.Entry ∧ m.Entry < (m.Funcs.length : Int)
 tabs : m.Tables.length ≤ 20
 tab : ∀ i, i < m.Tables.length → (nth m.Tables i).length ≤ 20 ∧ ∀ j, j < (nth m.Tables i).length → 0 ≤ nth (nth m.Tables i) j ∧ nth (nth m.Tables i) j < (m.Text.length : Int)
 data : m.Data.length ≤ 64
 dat : ∀ j, j < m.Data.length → -1099511627776 ≤ nth m.Data j ∧ nth m.Data j ≤ 1099511627776
 lines : m.Lines.length ≤ 4000
 line : ∀ i, i < m.Lines.length → 0 ≤ (nth m.Lines i).N ∧ (nth m.Lines i).N ≤ 10000 ∧ lastAt m.Lines i < (nth m.Lines i).At ∧ (nth m.Lines i).At < (m.Text.length : Int)
theorem imgGood (m : Img) (h : imgFault m = 0) : ImgGood m := by
 have t1 : ¬ 8000 < m.Text.length := by intro hc; unfold imgFault at h; rw [if_pos hc] at h; cases h
 have t2 : ¬ 40 < m.Funcs.length := by intro hc; unfold imgFault funcsFault at h; rw [if_neg t1, if_pos hc] at h; simp at h
 rw [imgFault_scan m t1 t2] at h
 obtain ⟨hf, he⟩ := scan_zero h
 unfold endFault at he
 have hs : sumF m m.Funcs.length = (m.Text.length : Int) := by
  by_cases hc : sumF m m.Funcs.length ≠ (m.Text.length : Int)
  ·rw [if_pos hc] at he; cases he
  exact Classical.not_not.1 hc
 rw [if_neg (by rw [hs]; simp)] at he
 unfold entryFault at he
 have e1 : ¬ (m.Entry < 0 ∨ (m.Funcs.length : Int) ≤ m.Entry) := by intro hc; rw [if_pos hc] at he; cases he
 rw [if_neg e1] at he
 have e2 : ¬ (20 < m.Tables.length ∨ 64 < m.Data.length) := by intro hc; rw [if_pos hc] at he; cases he
 rw [if_neg e2] at he
 unfold tabsFault at he
 obtain ⟨ht, hd⟩ := scan_zero he
 unfold dataFault at hd
 have d1 : anyN (dataOut m.Data) m.Data.length = false := by
  cases hc : anyN (dataOut m.Data) m.Data.length with
  | false => rfl
  | true => rw [if_pos hc] at hd; cases hd
 rw [if_neg (by rw [d1]; simp)] at hd
 unfold linesFault at hd
 have l1 : ¬ 4000 < m.Lines.length := by intro hc; rw [if_pos hc] at hd; cases hd
 rw [if_neg l1] at hd
 obtain ⟨hl, -⟩ := scan_zero hd
 refine ⟨by omega, by omega, fun i hi => ?_, hs, by omega, by omega, fun i hi => ?_, by omega, fun j hj => ?_, by omega, fun i hi => ?_⟩
 ·have h0 := hf i (Nat.zero_le _) jo
  rcases funBad_cases m i with ⟨-, h1⟩ | ⟨h1, ⟨-, h2⟩ | ⟨h2, ⟨-, h3⟩ | ⟨h3, -⟩⟩⟩
  ·rw [h0] at h1; cases h1
  ·rw [h0] at h2; cases h2
  ·rw [h0] at h3; cases h3
  exact ⟨h1, h2, h3⟩
 ·have h0 := ht i (Nat.zero_le _) jo
  rcases tabBad_cases m i with ⟨-, h1⟩ | ⟨h1, ⟨-, h2⟩ | ⟨h2, -⟩⟩
  ·rw [h0] at h1; cases h1
  ·rw [h0] at h2; cases h2
  refine ⟨h1, fun j hj => ?_⟩
  have := anyN_false h2 j hj
  simp [outside] at this
  omega
 ·have := anyN_false d1 j hj
  simp [dataOut] at this
  omega
 exact lineBad_zero (hl i (Nat.zero_le _) jo)
end Go.Proofs.YtgdamggkaklhjaaDoor
end
section
namespace Go.Proofs.YtgdamggkaklhjaaDoor.BH
open Go.RowKit Go.Sort
set_option maxRecDepth 100000
theorem nth_setw {α : Type} [Inhabited α] (l : List α) (i j : Nat) (x : α) (hj : j < l.length) : nth (l.set i x) j = if i = j then x else nth l j := by
 rw [nth_eq _ _ (by rw [List.length_set]; exact hj), List.getElem_set]
 split
 ·rfl
 rw [nth_eq _ _ hj]
section
variable {α : Type} [Inhabited α] {w : World} {base : Nat} {e : TypeId} {k : Nat} {f : α → List Value} {v : Value} {l : List α}
theorem own_setw (hf : ∀ x, (f x).length = k) (H : Own w base e k f v l) {i : Nat} (hi : i < l.length) :
  ∃ g cap, v = .slice (some ⟨g, 0, none⟩) l.length cap ∧ base ≤ g ∧ l.length ≤ cap ∧ cap ≤ maxLen ∧ g < w.heap.size ∧ (∀ j q u, j < l.length → q < k → (f (nth l j))[q]? = some u → w.cell? ⟨g, j * k + q, none⟩ = some u) ∧ (∀ j, w.frozen? ⟨g, j, none⟩ = false) ∧
   ∀ y, Own (w.setCells g (i * k) (f y)) base e k f v (l.set i y) := by
 obtain ⟨h1, h2⟩ := H
 rcases h2 with ⟨rfl, h0⟩ | ⟨g, cap, cur, rfl, hb, hg, hn, hc, hs, ht⟩
 ·omega
 have H4 : (cur.toList.take (l.length * k)).length = l.length * k := by rw [ht, flatMap_len hf]
 have hle : l.length * k ≤ cur.size := by rw [hs]; exact Nat.mul_le_mul_right k hn
 have H5 : ∀ j q, j < l.length → q < k → j * k + q < l.length * k := fun j q hj hq => by (have := Nat.mul_le_mul_right k (show j + 1 ≤ l.length from hj)); rw [Nat.add_mul, Nat.one_mul] at this; omega
 have H1 : ∀ j q, j < l.length → q < k → cur[j * k + q]? = (f (nth l j))[q]? := fun j q hj hq => by (have h3 : (cur.toList.take (l.length * k))[j * k + q]? = (l.flatMap f)[j * k + q]? := by rw [ht]); rw [List.getElem?_take_of_lt (H5 j q hj hq), flatMap_at hf l j q hj hq] at h3; rw [← Array.getElem?_toList]; exact h3
 refine ⟨g, cap, rfl, hb, hn, hc, lt_of_block hg, fun j q u hj hq hu => Blk.cell hg (by rw [H1 j q hj hq]; exact hu), fun j => Blk.thawed hg j, fun y => ⟨?_, Or.inr ⟨g, cap, setMany cur (i * k) (f y), ?_, hb, Blk.setCells (f y) (i * k) hg, ?_, hc, ?_, ?_⟩⟩⟩
 ·rw [flatMap_len hf, List.length_set]
 ·rw [List.length_set]
 ·rw [List.length_set]; exact hn
 ·rw [size_setMany]; exact hs
 rw [List.length_set]
 apply List.ext_getElem?
 intro t
 rcases Nat.lt_or_ge t (l.length * k) with q | q
 ·have k0 : 0 < k := by
   rcases Nat.eq_zero_or_pos k with z | z
   ·subst z; simp at q
   exact z
  have hj : t / k < l.length := Nat.div_lt_of_lt_mul (by rw [Nat.mul_comm]; exact q)
  have hr : t % k < k := Nat.mod_lt _ k0
  have H2 : t / k * k + t % k = t := Nat.div_add_mod' t k
  have e1 := flatMap_at hf (l.set i y) (t / k) (t % k) (by rw [List.length_set]; exact hj) hr
  rw [H2, nth_setw _ _ _ _ hj] at e1
  rw [List.getElem?_take_of_lt q, e1, Array.getElem?_toList]
  have H3 : t < (setMany cur (i * k) (f y)).size := by rw [size_setMany]; omega
  rw [Array.getElem?_eq_getElem H3, ← getElem!_pos (setMany cur (i * k) (f y)) t H3, get_setMany _ _ _ _ jo, hf]
  by_cases c : i = t / k
  ·subst c
   have H6 : t / k * k ≤ t ∧ t < t / k * k + k := ⟨by omega, by omega⟩
   rw [if_pos H6, if_pos rfl, show t - t / k * k = t % k by omega, getElem!_pos (f y) (t % k) (by rw [hf]; exact hr), List.getElem?_eq_getElem (by rw [hf]; exact hr)]
  have H0 : ¬ (i * k ≤ t ∧ t < i * k + k) := fun z => c (by
   have a1 : i ≤ t / k := (Nat.le_div_iff_mul_le k0).2 z.1
   have a2 : t / k < i + 1 := Nat.div_lt_of_lt_mul (by rw [Nat.mul_comm, Nat.add_mul, Nat.one_mul]; exact z.2)
   omega)
  rw [if_neg H0, if_neg c, ← H1 (t / k) (t % k) hj hr, H2, getElem!_pos cur t jo, Array.getElem?_eq_getElem jo]
 rw [List.getElem?_eq_none (by rw [List.length_take]; omega), List.getElem?_eq_none (by rw [flatMap_len hf, List.length_set]; exact q)]
theorem own_setc (hf : ∀ x, (f x).length = k) (H : Own w base e k f v l) {i : Nat} (hi : i < l.length) {c : Nat} (hcl : c < k) :
  ∃ g cap, v = .slice (some ⟨g, 0, none⟩) l.length cap ∧ base ≤ g ∧ l.length ≤ cap ∧ cap ≤ maxLen ∧ g < w.heap.size ∧ (∀ j q u, j < l.length → q < k → (f (nth l j))[q]? = some u → w.cell? ⟨g, j * k + q, none⟩ = some u) ∧ (∀ j, w.frozen? ⟨g, j, none⟩ = false) ∧
   ∀ y u, f y = (f (nth l i)).set c u → Own (w.setCell ⟨g, i * k + c, none⟩ u) base e k f v (l.set i y) := by
 obtain ⟨h1, h2⟩ := H
 rcases h2 with ⟨rfl, h0⟩ | ⟨g, cap, cur, rfl, hb, hg, hn, hc, hs, ht⟩
 ·omega
 have H2 : (cur.toList.take (l.length * k)).length = l.length * k := by rw [ht, flatMap_len hf]
 have hle : l.length * k ≤ cur.size := by rw [hs]; exact Nat.mul_le_mul_right k hn
 have H3 : ∀ j q, j < l.length → q < k → j * k + q < l.length * k := fun j q hj hq => by (have := Nat.mul_le_mul_right k (show j + 1 ≤ l.length from hj)); rw [Nat.add_mul, Nat.one_mul] at this; omega
 have H1 : ∀ j q, j < l.length → q < k → cur[j * k + q]? = (f (nth l j))[q]? := fun j q hj hq => by (have h3 : (cur.toList.take (l.length * k))[j * k + q]? = (l.flatMap f)[j * k + q]? := by rw [ht]); rw [List.getElem?_take_of_lt (H3 j q hj hq), flatMap_at hf l j q hj hq] at h3; rw [← Array.getElem?_toList]; exact h3
 refine ⟨g, cap, rfl, hb, hn, hc, lt_of_block hg, fun j q u hj hq hu => Blk.cell hg (by rw [H1 j q hj hq]; exact hu), fun j => Blk.thawed hg j, fun y u hy => ⟨?_, Or.inr ⟨g, cap, cur.setIfInBounds (i * k + c) u, ?_, hb, Blk.set hg (i * k + c) u, ?_, hc, ?_, ?_⟩⟩⟩
 ·rw [flatMap_len hf, List.length_set]
 ·rw [List.length_set]
 ·rw [List.length_set]; exact hn
 ·rw [Array.size_setIfInBounds]; exact hs
 rw [List.length_set]
 apply List.ext_getElem?
 intro t
 rcases Nat.lt_or_ge t (l.length * k) with q | q
 ·have k0 : 0 < k := by omega
  have hj : t / k < l.length := Nat.div_lt_of_lt_mul (by rw [Nat.mul_comm]; exact q)
  have hr : t % k < k := Nat.mod_lt _ k0
  have H0 : t / k * k + t % k = t := Nat.div_add_mod' t k
  have e1 := flatMap_at hf (l.set i y) (t / k) (t % k) (by rw [List.length_set]; exact hj) hr
  rw [H0, nth_setw _ _ _ _ hj] at e1
  rw [List.getElem?_take_of_lt q, e1, Array.getElem?_toList, Array.getElem?_setIfInBounds]
  by_cases z : i = t / k
  ·subst z
   rw [if_pos rfl, hy, List.getElem?_set, hf]
   by_cases z2 : c = t % k
   ·rw [if_pos (by rw [z2]; exact H0), if_pos z2, if_pos jo, if_pos hcl]
   rw [if_neg jo, if_neg z2, ← H1 (t / k) (t % k) hj hr, H0]
  have H4 : ¬ i * k + c = t := fun z2 => z (by
   have a1 : i ≤ t / k := (Nat.le_div_iff_mul_le k0).2 jo
   have a2 : t / k < i + 1 := Nat.div_lt_of_lt_mul (by rw [Nat.mul_comm, Nat.add_mul, Nat.one_mul]; omega)
   omega)
  rw [if_neg H4, if_neg z, ← H1 (t / k) (t % k) hj hr, H0]
 rw [List.getElem?_eq_none (by rw [List.length_take]; omega), List.getElem?_eq_none (by rw [flatMap_len hf, List.length_set]; exact q)]
end
end Go.Proofs.YtgdamggkaklhjaaDoor.BH
end
