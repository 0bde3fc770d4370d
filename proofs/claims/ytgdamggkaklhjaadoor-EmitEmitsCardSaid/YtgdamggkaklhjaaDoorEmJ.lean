/-
What emit lays out of a recovered flow and parts that fit. N
-/
import Derived.Test.YtgdamggkaklhjaaDoorSamePr
set_option linter.all false
section
namespace Go.Proofs.YtgdamggkaklhjaaDoor
open BH
set_option maxRecDepth 100000
section
variable {m : Img}
structure ItG (m : Img) (t : It) : Prop where
 ok : ItOk t
 fn : t.Fn < m.Funcs.length
 bl : t.Bl < (recF m).Blocks.length
theorem jump_ok (h : Followed m) {bl : Int} (hb : bl < (recF m).Blocks.length) (old li : Int) : ItG m ⟨jI, bl, -1, old, li⟩ :=
 ⟨fun b _ => fault_jump _, by have := h.good.entry; dsimp only; omega, hb⟩
theorem tIt_ok (h : Followed m) {b : Bk} (hb : BkF m b) (nx : Int) : ∀ t ∈ tIt b nx, ItG m t := by
 have hn : (-1 : Int) < m.Funcs.length := by omega
 intro t ht
 unfold tIt at ht
 by_cases h2 : b.Ends = 2
 ·rw [if_pos h2] at ht
  split at ht
  ·cases ht
  rw [List.mem_singleton.1 ht]; exact jump_ok h (hb.goes jo).2 _ _
 rw [if_neg h2] at ht
 by_cases h3 : b.Ends = 3
 ·rw [if_pos h3] at ht
  split at ht
  ·cases ht
  rw [List.mem_singleton.1 ht]; exact jump_ok h (hb.goes jo).2 _ _
 rw [if_neg h3] at ht
 by_cases h4 : b.Ends = 4
 ·rw [if_pos h4] at ht
  obtain ⟨l1, l2, l3, l4⟩ := hb.last h4
  have hk := hb.g.lst h4
  have H0 : ∀ (K' bl : Int) (old li : Int), 18 ≤ K' ∧ K' ≤ 21 → bl < (recF m).Blocks.length → ItG m ⟨{ b.Last with K := K' }, bl, -1, old, li⟩ := fun K' bl old li hK hbl => by (refine ⟨fun q _ => ?_, hn, hbl⟩); dsimp only; rw [l1, l2, l3]; exact l4 K' _ hK
  split at ht
  ·rw [List.mem_singleton.1 ht]
   exact H0 _ _ _ _ (by unfold oppK; split <;> (try split) <;> (try split) <;> omega) (hb.els h4).2
  rcases List.mem_cons.1 ht with rfl | ht
  ·exact H0 b.Last.K _ _ _ hk (hb.goes jo).2
  split at ht
  ·cases ht
  rw [List.mem_singleton.1 ht]; exact jump_ok h (hb.els h4).2 _ _
 rw [if_neg h4] at ht; cases ht
theorem cIt_bl (b : Bk) (k : Nat) : (cIt b k).Bl = -1 := by unfold cIt; split <;> rfl
theorem cIt_old (b : Bk) (k : Nat) : (cIt b k).Old = nth b.At k := by unfold cIt; split <;> rfl
theorem bIts_ok (h : Followed m) {b : Bk} (hb : BkF m b) (nx : Int) : ∀ t ∈ bIts b nx, ItG m t := by
 intro t ht
 unfold bIts at ht
 rcases List.mem_append.1 ht with q | q
 ·obtain ⟨k, hk, rfl⟩ := List.mem_map.1 q
  have := hb.ok k (List.mem_range.1 hk)
  exact ⟨this.1, this.2, by rw [cIt_bl]; omega⟩
 exact tIt_ok h hb nx t q
theorem tIt_len (b : Bk) (nx : Int) : (tIt b nx).length ≤ 2 := by
 unfold tIt
 repeat' split
 all_goals simp
theorem bIts_len {b : Bk} (hb : BkF m b) (nx : Int) : (bIts b nx).length ≤ 2003 := by
 unfold bIts
 rw [List.length_append, List.length_map, List.length_range]
 have := tIt_len b nx
 have := hb.short
 omega
theorem bIts_pos {b : Bk} (hb : BkF m b) : 0 < (bIts b (-1)).length := by
 unfold bIts
 rw [List.length_append, List.length_map, List.length_range]
 have he := hb.g.e
 by_cases h12 : b.Ends = 1 ∨ b.Ends = 2
 ·have := hb.ne h12; omega
 have hg := hb.goes jo
 have : 0 < (tIt b (-1)).length := by
  unfold tIt
  rw [if_neg jo]
  by_cases h3 : b.Ends = 3
  ·rw [if_pos h3, if_neg jo]; simp
  rw [if_neg h3, if_pos jo, if_neg jo]; simp
 omega
def olds (L : List It) : List Int := (L.filter fun t => decide (0 ≤ t.Old)).map (·.Old)
theorem olds_app (L R : List It) : olds (L ++ R) = olds L ++ olds R := by unfold olds; rw [List.filter_append, List.map_append]
theorem olds_code {b : Bk} (hA : ∀ a ∈ b.At, 0 ≤ a) (hl : b.Code.length ≤ b.At.length) : ∀ k, k ≤ b.Code.length → olds ((List.range k).map (cIt b)) = b.At.take k
 | 0, _ => rfl
 | k + 1, hk => by
  rw [List.range_succ, List.map_append, olds_app, olds_code hA hl k jo, take_succ_nth _ _ jo]
  congr 1
  unfold olds
  have : 0 ≤ (cIt b k).Old := by rw [cIt_old]; exact hA _ (nthMem jo)
  simp only [List.map_cons, List.map_nil, List.filter_cons, decide_eq_true this, if_true, List.filter_nil]
  rw [cIt_old]
theorem olds_tail {b : Bk} (hb : BkF m b) (nx : Int) (hA : ∀ a ∈ b.At, 0 ≤ a) : olds (tIt b nx) = [] ∨ (b.Code.length < b.At.length ∧ olds (tIt b nx) = [nth b.At b.Code.length]) := by
 have hj : ∀ bl li, olds [(⟨jI, bl, -1, -1, li⟩ : It)] = [] := fun _ _ => rfl
 have ho : b.Code.length < b.At.length → ∀ i bl li, olds [(⟨i, bl, -1, nth b.At b.Code.length, li⟩ : It)] = [nth b.At b.Code.length] := fun q i bl li => by unfold olds; have : 0 ≤ nth b.At b.Code.length := hA _ (nthMem q); simp only [List.filter_cons, decide_eq_true this, if_true, List.filter_nil, List.map_cons, List.map_nil]
 unfold tIt
 by_cases h2 : b.Ends = 2
 ·rw [if_pos h2]; left; split <;> rfl
 rw [if_neg h2]
 by_cases h3 : b.Ends = 3
 ·rw [if_pos h3]
  have q := hb.g.a1 (Or.inl h3)
  split
  ·left; rfl
  right; exact ⟨q, ho q _ _ _⟩
 rw [if_neg h3]
 by_cases h4 : b.Ends = 4
 ·rw [if_pos h4]
  have q := hb.g.a1 (Or.inr h4)
  right
  refine ⟨q, ?_⟩
  split
  ·exact ho q _ _ _
  rw [show ∀ (x : It) r, x :: r = [x] ++ r from fun _ _ => rfl, olds_app, ho q]
  split
  ·rfl
  rw [hj, List.append_nil]
 rw [if_neg h4]; left; rfl
theorem olds_blk {b : Bk} (hb : BkF m b) (nx : Int) (hA : ∀ a ∈ b.At, 0 ≤ a) : (olds (bIts b nx)).Sublist b.At := by
 unfold bIts
 rw [olds_app, olds_code hA hb.g.a0 _ (Nat.le_refl _)]
 rcases olds_tail hb nx hA with h | ⟨h1, h2⟩
 ·rw [h, List.append_nil]; exact List.take_sublist _ _
 rw [h2, ← take_succ_nth _ _ h1]; exact List.take_sublist _ _
end
theorem nd_all {s : List Int} {n : Nat} (h : s.Nodup) (hb : ∀ x, x ∈ s → 0 ≤ x ∧ x < n) (hl : s.length = n) {x : Nat} (hx : x < n) : (x : Int) ∈ s := by
 by_cases q : (x : Int) ∈ s
 ·exact q
 have h1 : ((x : Int) :: s).Nodup := List.nodup_cons.2 ⟨q, h⟩
 have := nd_le (n := n) h1 (fun y hy => by
  rcases List.mem_cons.1 hy with rfl | z
  ·omega
  exact hb y z)
 rw [List.length_cons] at this
 omega
section
variable {f : Fl} {l : List Pa}
theorem bkS_nd (h : fitP f l = true) : ∀ i, i ≤ l.length → (bkS l i).Nodup ∧ ∀ x, x ∈ bkS l i → 0 ≤ x ∧ x < f.Blocks.length
 | 0, _ => ⟨by simp [bkS], fun x hx => by simp [bkS] at hx⟩
 | i + 1, hi => by
  have ih := bkS_nd h i jo
  have key : ∀ k, k ≤ (nth l i).Blocks.length → (seenB l i k).Nodup ∧ ∀ x, x ∈ seenB l i k → 0 ≤ x ∧ x < f.Blocks.length := by
   intro k
   induction k with
   | zero => intro _; rw [seenB_zero]; exact ih
   | succ k hk =>
    intro hle
    have h1 := hk jo
    obtain ⟨g1, g2, g3, -⟩ := fitP_blk h (i := i) (k := k) jo jo
    rw [seenB_succ jo]
    refine ⟨nd_snoc h1.1 g3, fun x hx => ?_⟩
    rcases List.mem_append.1 hx with q | q
    ·exact h1.2 x q
    rw [List.mem_singleton.1 q]; exact ⟨g1, g2⟩
  have := key _ (Nat.le_refl _)
  rw [bkS_succ jo]
  unfold seenB at this
  rw [List.take_length] at this
  exact this
theorem fnS_nd (h : fitP f l = true) : ∀ i, i ≤ l.length → (fnS l i).Nodup ∧ ∀ x, x ∈ fnS l i → 0 ≤ x ∧ x < f.Firsts.length
 | 0, _ => ⟨by simp [fnS], fun x hx => by simp [fnS] at hx⟩
 | i + 1, hi => by
  have ih := fnS_nd h i jo
  have hc := h
  rw [← fitC_is] at hc
  unfold fitC at hc
  rw [Bool.and_eq_true, Bool.and_eq_true, Bool.not_eq_true'] at hc
  have hb := anyN_false hc.2.1 i jo
  unfold partBC headBC at hb
  rw [Bool.or_eq_false_iff, Bool.or_eq_false_iff] at hb
  obtain ⟨g1, g2, -, -⟩ := fitP_head h (i := i) jo
  rw [fnS_succ jo]
  refine ⟨nd_snoc ih.1 (of_decide_eq_false hb.1.2), fun x hx => ?_⟩
  rcases List.mem_append.1 hx with q | q
  ·exact ih.2 x q
  rw [List.mem_singleton.1 q]; exact ⟨g1, g2⟩
theorem bkS_all (h : fitP f l = true) : (bkS l l.length).length = f.Blocks.length := by
 unfold fitP at h
 rw [Bool.and_eq_true, Bool.and_eq_true] at h
 have := of_decide_eq_true h.2.2
 unfold bkS
 rw [List.take_length]
 exact this
end
structure LyOk (m : Img) (P : List Int) (F : List Int) (s : Ly) : Prop where
 its : ∀ t ∈ s.its, ItG m t
 fst : ∀ b ∈ P, 0 ≤ nth s.fst b.toNat ∧ nth s.fst b.toNat ≤ s.its.length
 beg : ∀ x ∈ F, 0 ≤ nth s.beg x.toNat ∧ nth s.beg x.toNat ≤ s.its.length
 old : (olds s.its).Sublist (P.flatMap fun b => (nth (recF m).Blocks b.toNat).At)
 few : s.its.length ≤ 2003 * P.length
section
variable {m : Img} {l : List Pa}
theorem LyOk.blk (hf : Followed m) (hb : ∀ i, i < (recF m).Blocks.length → BkF m (nth (recF m).Blocks i) ∧ ∀ a ∈ (nth (recF m).Blocks i).At, 0 ≤ a) {P F B : List Int} {s : Ly} (h : LyOk m P F s) (hl : s.fst.length = (recF m).Blocks.length) (k : Nat) (hk : 0 ≤ nth B k ∧ nth B k < (recF m).Blocks.length) : LyOk m (P ++ [nth B k]) F (layB (recF m) B s k) := by
 obtain ⟨b, H0⟩ : ∃ b : Nat, nth B k = b := ⟨(nth B k).toNat, by omega⟩
 rw [H0] at hk
 have H1 : b < (recF m).Blocks.length := by omega
 obtain ⟨hB, hA⟩ := hb b H1
 unfold layB
 rw [H0, Int.toNat_natCast]
 have H2 := bIts_len hB (nxt B k)
 refine ⟨fun t ht => ?_, fun x hx => ?_, fun x hx => ?_, ?_, ?_⟩
 ·rcases List.mem_append.1 ht with q | q
  ·exact h.its t q
  exact bIts_ok hf hB _ t q
 ·dsimp only
  rw [List.length_append]
  by_cases q : b = x.toNat
  ·rw [nth_setw _ _ _ _ (by rw [hl]; omega), if_pos q]; omega
  have H3 : x ∈ P := by
   rcases List.mem_append.1 hx with z | z
   ·exact z
   rw [List.mem_singleton.1 z] at q; exact absurd jo q
  have := h.fst x H3
  rcases Nat.lt_or_ge x.toNat s.fst.length with z | z
  ·rw [nth_setw _ _ _ _ z, if_neg q]; omega
  rw [nth_out (by rw [List.length_set]; exact z)]
  rw [nth_out z] at this
  omega
 ·dsimp only
  rw [List.length_append]
  have := h.beg x hx
  omega
 ·dsimp only
  rw [olds_app, List.flatMap_append]
  refine h.old.append ?_
  simp only [List.flatMap_cons, List.flatMap_nil, List.append_nil, Int.toNat_natCast]
  exact olds_blk hB _ hA
 dsimp only
 rw [List.length_append, List.length_append, List.length_singleton]
 have := h.few
 omega
end
section
variable {m : Img} {l : List Pa}
theorem cntL_up (m : Img) : ∀ n, cntL m n ≤ n
 | 0 => Nat.le_refl _
 | n + 1 => by have := cntL_up m n; (show cntL m n + (if isL m n = true then 1 else 0) ≤ n + 1); split <;> omega
theorem rec_good (h : recE m = 0) : Followed m ∧ m.Text.length ≤ 2000 := by
 unfold recE at h
 split at h
 ·rename_i q; exact absurd h q
 rename_i h0
 split at h
 ·cases h
 rename_i h2
 split at h
 ·cases h
 rename_i hb
 exact ⟨followed (Classical.not_not.1 h0) (by simpa using hb), by omega⟩
theorem mem_flat {α : Type} {L : List (List α)} {x : List α} (h : x ∈ L) : x.length ≤ L.flatten.length := (List.sublist_flatten_of_mem h).length_le
theorem blocks_ok (h : Followed m) (h2 : m.Text.length ≤ 2000) : ∀ i, i < (recF m).Blocks.length → BkF m (nth (recF m).Blocks i) ∧ ∀ a ∈ (nth (recF m).Blocks i).At, 0 ≤ a ∧ a < m.Text.length := by
 obtain ⟨H2, e1, e2, e3⟩ := flow_chunks h
 intro i hi
 rw [e1, List.length_map] at hi
 rw [e1, nthMap _ _ hi]
 have H0 : nth H2 i ∈ H2 := nthMem hi
 have H1 : ∀ q ∈ nth H2 i, q ∈ annS (allS m) m.Funcs.length := fun q hq => by rw [← e2]; exact List.mem_flatten.2 ⟨_, H0, hq⟩
 obtain ⟨hF, hA⟩ := blk_facts h h2 (e3 _ H0) H1 (Nat.le_trans (by rw [← e2]; exact mem_flat H0) (ann_short h))
 refine ⟨hF, fun a ha => ?_⟩
 rw [hA] at ha
 obtain ⟨q, hq, rfl⟩ := List.mem_map.1 ha
 have hg := (ann_in h.good h.sw (H1 q hq)).2.2.fine
 exact ⟨hg.x0, hg.x1⟩
theorem LyOk.beg' {P F : List Int} {s : Ly} (h : LyOk m P F s) (p : Pa) (hp : 0 ≤ p.Func ∧ p.Func.toNat < s.beg.length) : LyOk m P (F ++ [p.Func]) (begP s p) := by
 unfold begP
 refine ⟨h.its, h.fst, fun x hx => ?_, h.old, h.few⟩
 dsimp only
 by_cases q : p.Func.toNat = x.toNat
 ·rw [nth_setw _ _ _ _ (by rw [← q]; exact hp.2), if_pos q]; omega
 have H0 : x ∈ F := by
  rcases List.mem_append.1 hx with z | z
  ·exact z
  rw [List.mem_singleton.1 z] at q; exact absurd rfl q
 have := h.beg x H0
 rcases Nat.lt_or_ge x.toNat s.beg.length with z | z
 ·rw [nth_setw _ _ _ _ z, if_neg q]; exact this
 rw [nth_out (by rw [List.length_set]; exact z)]
 rw [nth_out z] at this
 exact this
theorem lay_ok (hf : Followed m) (h2 : m.Text.length ≤ 2000) (hft : fitP (recF m) l = true) : ∀ i, i ≤ l.length → LyOk m (bkS l i) (fnS l i) (layK (recF m) l i) ∧ (∀ k, i < l.length → k ≤ (nth l i).Blocks.length → LyOk m (seenB l i k) (fnS l (i + 1)) (layBs (recF m) (nth l i).Blocks (begP (layK (recF m) l i) (nth l i)) k)) := by
 have hb := blocks_ok hf h2
 have H3 : ∀ i, i < (recF m).Blocks.length → BkF m (nth (recF m).Blocks i) ∧ ∀ a ∈ (nth (recF m).Blocks i).At, 0 ≤ a := fun i hi => ⟨(hb i hi).1, fun a ha => ((hb i hi).2 a ha).1⟩
 have H0 : ∀ i, LyOk m (bkS l i) (fnS l i) (layK (recF m) l i) → ∀ k, i < l.length → k ≤ (nth l i).Blocks.length → LyOk m (seenB l i k) (fnS l (i + 1)) (layBs (recF m) (nth l i).Blocks (begP (layK (recF m) l i) (nth l i)) k) := by
  intro i hi k H1
  obtain ⟨g1, g2, -, -⟩ := fitP_head hft H1
  have H2 := layK_lens (recF m) l i
  have h0 := hi.beg' (nth l i) ⟨g1, by rw [H2.2]; omega⟩
  rw [← fnS_succ H1] at h0
  induction k with
  | zero => intro _; rw [seenB_zero]; exact h0
  | succ k ih =>
   intro hk
   rw [seenB_succ jo, layBs_succ]
   obtain ⟨q1, q2, -, -⟩ := fitP_blk hft H1 (k := k) jo
   refine (ih jo).blk hf H3 ?_ k ⟨q1, q2⟩
   rw [(layBs_lens _ _ _ _).1]
   unfold begP
   exact H2.1
 intro i
 induction i with
 | zero =>
  intro _
  have h0 : LyOk m (bkS l 0) (fnS l 0) (layK (recF m) l 0) := by rw [layK_zero]; unfold ly0; exact ⟨fun t ht => (by cases ht), fun b hb => by simp [bkS] at hb, fun x hx => by simp [fnS] at hx, by simp [olds], by simp⟩
  exact ⟨h0, H0 0 h0⟩
 | succ i ih =>
  intro hi
  have h1 := (ih jo).2 (nth l i).Blocks.length jo (Nat.le_refl _)
  have e : seenB l i (nth l i).Blocks.length = bkS l (i + 1) := by rw [bkS_succ jo]; unfold seenB; rw [List.take_length]; rfl
  rw [e] at h1
  have e2 : layK (recF m) l (i + 1) = layBs (recF m) (nth l i).Blocks (begP (layK (recF m) l i) (nth l i)) (nth l i).Blocks.length := layK_succ _ _ _
  rw [← e2] at h1
  exact ⟨h1, H0 (i + 1) h1⟩
theorem lay_strict (hf : Followed m) (h2 : m.Text.length ≤ 2000) (hft : fitP (recF m) l = true) {i : Nat} (hi : i < l.length) :
  (∀ b ∈ bkS l (i + 1), nth (layK (recF m) l (i + 1)).fst b.toNat < (layK (recF m) l (i + 1)).its.length) ∧ (∀ x ∈ fnS l (i + 1), nth (layK (recF m) l (i + 1)).beg x.toNat < (layK (recF m) l (i + 1)).its.length) ∧ 0 < (layK (recF m) l (i + 1)).its.length := by
 obtain ⟨-, -, g3, -⟩ := fitP_head hft hi
 obtain ⟨B, hB⟩ := jE ((nth l i).Blocks)
 obtain ⟨n, hn⟩ : ∃ n, B.length = n + 1 := ⟨B.length - 1, by rw [hB]; omega⟩
 have h1 := (lay_ok hf h2 hft i jo).2 n hi (by rw [← hB]; omega)
 rw [← hB] at h1
 obtain ⟨S, hS⟩ := jE (layBs (recF m) B (begP (layK (recF m) l i) (nth l i)) n)
 rw [← hS] at h1
 have e2 : layK (recF m) l (i + 1) = layB (recF m) B S n := by rw [layK_succ]; unfold layP; rw [← hB, hn, layBs_succ, ← hS]
 obtain ⟨q1, q2, -, -⟩ := fitP_blk hft hi (k := n) (by rw [← hB]; omega)
 rw [← hB] at q1 q2
 have H0 : nxt B n = -1 := by unfold nxt; rw [if_neg jo]
 obtain ⟨hF, -⟩ := blocks_ok hf h2 (nth B n).toNat jo
 have H1 := bIts_pos hF
 have H2 : (layK (recF m) l (i + 1)).its.length = S.its.length + (bIts (nth (recF m).Blocks (nth B n).toNat) (-1)).length := by rw [e2]; unfold layB; dsimp only; rw [List.length_append, H0]
 have e3 : bkS l (i + 1) = seenB l i n ++ [nth B n] := by (rw [hB, ← seenB_succ (by rw [← hB]; omega), bkS_succ hi]); unfold seenB; rw [← hB, ← hn, List.take_length]; rfl
 have H3 : S.fst.length = (recF m).Blocks.length := by rw [hS, (layBs_lens _ _ _ _).1]; unfold begP; exact (layK_lens _ _ _).1
 refine ⟨fun b hb => ?_, fun x hx => ?_, by omega⟩
 ·have he : (layK (recF m) l (i + 1)).fst = S.fst.set (nth B n).toNat S.its.length := by rw [e2]; rfl
  rw [he]
  by_cases q : (nth B n).toNat = b.toNat
  ·rw [nth_setw _ _ _ _ (by rw [H3]; omega), if_pos q]; omega
  have H4 : b ∈ seenB l i n := by
   rw [e3] at hb
   rcases List.mem_append.1 hb with z | z
   ·exact z
   rw [List.mem_singleton.1 z] at q; exact absurd rfl q
  have := h1.fst b H4
  rcases Nat.lt_or_ge b.toNat S.fst.length with z | z
  ·rw [nth_setw _ _ _ _ z, if_neg q]; omega
  rw [nth_out (by rw [List.length_set]; exact z)]
  rw [nth_out z] at this
  omega
 have he : (layK (recF m) l (i + 1)).beg = S.beg := by rw [e2]; rfl
 rw [he]
 have := h1.beg x hx
 omega
end
end Go.Proofs.YtgdamggkaklhjaaDoor
end
