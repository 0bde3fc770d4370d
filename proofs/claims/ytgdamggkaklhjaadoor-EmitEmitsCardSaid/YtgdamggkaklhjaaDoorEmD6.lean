/-
What emit's walk asks of a recovered flow and of parts that 
-/
import Derived.Test.YtgdamggkaklhjaaDoorEmJ
set_option linter.all false
section
namespace Go.Proofs.YtgdamggkaklhjaaDoor
open BH
set_option maxRecDepth 100000
theorem olds_is (L : List It) : olds L = (L.map (·.Old)).filter fun o => decide (0 ≤ o) := by
 unfold olds
 rw [List.filter_map]
 rfl
theorem olds_lng (L : List It) (S : Nat → Bool) : olds (Lng L S) = olds L := by
 rw [olds_is, olds_is]
 congr 1
 refine ext_nth (by rw [List.length_map, List.length_map, Lng_len]) fun i hi => ?_
 rw [List.length_map, Lng_len] at hi
 rw [nthMap _ _ (by rw [Lng_len]; exact hi), nthMap _ _ hi, Lng_nth hi]
 rfl
theorem adrs_map (L : List It) : (adrs L).map (·.1) = L := by
 refine ext_nth (by rw [List.length_map, adrs_len]) fun i hi => ?_
 rw [List.length_map, adrs_len] at hi
 rw [nthMap _ _ (by rw [adrs_len]; exact hi), adrs_nth hi]
theorem prs_olds (L : List It) : (prs (adrs L)).map (·.1) = olds L := by
 unfold prs
 rw [List.map_map, olds_is]
 conv => rhs; rw [← adrs_map L]
 rw [List.map_map, List.filter_map]
 rfl
theorem chain_nd : ∀ {l : List Sp} {a e : Int}, Chain a l e → (l.map (·.A)).Nodup
 | [], _, _, _ => List.nodup_nil
 | s :: r, a, e, h => by
  obtain ⟨h1, h2, h3⟩ := h
  rw [List.map_cons, List.nodup_cons]
  refine ⟨fun hm => ?_, chain_nd h3⟩
  obtain ⟨t, ht, e⟩ := List.mem_map.1 hm
  have := (h3.mem t ht).1
  omega
section
variable {m : Img} {l : List Pa}
theorem at_all (h : Followed m) (h2 : m.Text.length ≤ 2000) : ((recF m).Blocks.flatMap (·.At)).Nodup := by
 obtain ⟨H0, e1, e2, e3⟩ := flow_chunks h
 have hA : ∀ ch ∈ H0, (blkOf m ch).At = ch.map fun q => q.2.A := fun ch hch =>
  (blk_facts h h2 (e3 ch hch) (fun q hq => by rw [← e2]; exact List.mem_flatten.2 ⟨_, hch, hq⟩) (Nat.le_trans (by rw [← e2]; exact mem_flat hch) (ann_short h))).2
 have : (recF m).Blocks.flatMap (·.At) = ((annS (allS m) m.Funcs.length).map (·.2)).map (·.A) := by rw [e1, ← e2, List.map_map, List.flatMap_map, List.map_flatten]; (show (H0.map fun ch => (blkOf m ch).At).flatten = _); rw [List.map_congr_left hA]; rfl
 rw [this]
 exact chain_nd h.chain
theorem at_parts (h : Followed m) (h2 : m.Text.length ≤ 2000) (hft : fitP (recF m) l = true) : ((bkS l l.length).flatMap fun b => (nth (recF m).Blocks b.toNat).At).Nodup := by
 obtain ⟨n1, n2⟩ := bkS_nd hft l.length (Nat.le_refl _)
 have hn := bkS_all hft
 have hp : (bkS l l.length).Perm ((List.range (recF m).Blocks.length).map fun i : Nat => (i : Int)) := by
  refine (List.perm_ext_iff_of_nodup n1 ?_).2 fun x => ?_
  ·rw [List.nodup_iff_pairwise_ne, List.pairwise_map]
   exact List.nodup_range.imp fun hne e => hne jo
  constructor
  ·intro hx
   have := n2 x hx
   exact List.mem_map.2 ⟨x.toNat, List.mem_range.2 jo, by omega⟩
  intro hx
  obtain ⟨i, hi, rfl⟩ := List.mem_map.1 hx
  exact nd_all n1 n2 hn (List.mem_range.1 hi)
 refine (hp.flatMap_right _).nodup_iff.2 ?_
 have : ((List.range (recF m).Blocks.length).map fun i : Nat => (i : Int)).flatMap (fun b => (nth (recF m).Blocks b.toNat).At) = (recF m).Blocks.flatMap (·.At) := by
  have e : (recF m).Blocks = (List.range (recF m).Blocks.length).map fun i => nth (recF m).Blocks i := ext_nth (by simp) fun i hi => (nthRange _ hi).symm
  conv => rhs; rw [e]
  rw [List.flatMap_map, List.flatMap_map]
  rfl
 rw [this]
 exact at_all h h2
theorem rec_lens (m : Img) : (recF m).Firsts.length = m.Funcs.length ∧ (recF m).Tables.length = m.Tables.length := by unfold recF; simp
theorem emG (hre : recE m = 0) (hft : fitP (recF m) l = true) : EmG m (recF m) l := by
 obtain ⟨hf, h2⟩ := rec_good hre
 have hb := blocks_ok hf h2
 obtain ⟨r1, r2⟩ := rec_lens m
 have hnb : (recF m).Blocks.length ≤ 2000 := by rw [nb_is hf]; have := cntL_up m m.Text.length; omega
 have hnf : (recF m).Firsts.length ≤ 40 := by rw [r1]; exact hf.good.funcs
 have Hb := fitP_len hft
 have Hc : 0 < l.length := by rw [Hb, r1]; have := hf.good.entry; omega
 obtain ⟨n1, n2⟩ := bkS_nd hft l.length (Nat.le_refl _)
 have hn := bkS_all hft
 obtain ⟨i, hi⟩ : ∃ i, l.length = i + 1 := ⟨l.length - 1, by omega⟩
 obtain ⟨s1, s2, s3⟩ := lay_strict hf h2 hft (i := i) jo
 rw [← hi] at s1 s2 s3
 have H2 := (lay_ok hf h2 hft l.length (Nat.le_refl _)).1
 obtain ⟨LF, H4⟩ := jE (lay (recF m) l)
 have Hd : layK (recF m) l l.length = LF := H4.symm
 rw [Hd] at s1 s2 s3 H2
 have H0 := layK_lens (recF m) l l.length
 rw [Hd] at H0
 have He : LF.its.length ≤ 5000000 := by have := H2.few; rw [hn] at this; omega
 -- each block's first item
 have H9 : ∀ x, x < (recF m).Blocks.length → 0 ≤ nth LF.fst x ∧ nth LF.fst x < LF.its.length := fun x hx => by have hm := nd_all n1 n2 hn hx; have a1 := (H2.fst _ hm).1; have a2 := s1 _ hm; rw [Int.toNat_natCast] at a1 a2; exact ⟨a1, a2⟩
 have Ha : ∀ x, x < (recF m).Firsts.length → 0 ≤ nth LF.beg x ∧ nth LF.beg x < LF.its.length := fun x hx => by
  obtain ⟨f1, f2⟩ := fnS_nd hft l.length (Nat.le_refl _)
  have hm := nd_all f1 f2 (by unfold fnS; rw [List.take_length, List.length_map]; exact Hb) hx
  have a1 := (H2.beg _ hm).1
  have a2 := s2 _ hm
  rw [Int.toNat_natCast] at a1 a2
  exact ⟨a1, a2⟩
 obtain ⟨T, -, -, H3⟩ := setI_low LF.its LF.fst
 have H5 : (setI LF.fst LF.its).length = LF.its.length := by rw [H3, Lng_len]
 have Hf : ∀ k, k < LF.its.length → nth (setI LF.fst LF.its) k = lngI (nth LF.its k) (T k) := fun k hk => by rw [H3, Lng_nth hk]
 have H7 : ∀ k, k < LF.its.length → ItG m (nth LF.its k) := fun k hk => H2.its _ (nthMem hk)
 have H1 : ∀ bl : Int, 0 ≤ bl → bl < (recF m).Blocks.length → bl.toNat < LF.fst.length ∧ 0 ≤ nth LF.fst bl.toNat ∧ nth LF.fst bl.toNat < LF.its.length := fun bl h0 h1 => by have := H9 bl.toNat jo; exact ⟨by rw [H0.1]; omega, this.1, this.2⟩
 have H6 : (prs (adrs (setI LF.fst LF.its))).map (·.1) = olds LF.its := by rw [prs_olds, H3, olds_lng]
 refine ⟨fun i hi => (hb i hi).1.g, by omega, fun j hj => ?_, by omega, fun j hj k hk => ?_, ?_, ?_, ?_, ?_⟩
 ·have q := nd_le (bkS_nd hft (j + 1) jo).1 (bkS_nd hft (j + 1) jo).2
  rw [bkS_succ hj, List.length_append] at q
  omega
 ·have h1 := (lay_ok hf h2 hft j jo).2 k hj hk
  have h3 := h1.few
  have q := nd_le (bkS_nd hft (j + 1) jo).1 (bkS_nd hft (j + 1) jo).2
  rw [bkS_succ hj, List.length_append] at q
  rw [seenB_len hk] at h3
  omega
 ·rw [← H4]
  exact ⟨fun k hk => (H7 k hk).ok, fun k hk h0 => H1 _ h0 (H7 k hk).bl, by omega, s3⟩
 ·rw [← H4]
  refine ⟨fun k hk => ?_, fun x hx => ?_, fun k hk h0 => ?_, fun k hk h0 => ?_, fun k hk b H8 => ?_, by rw [H5]; omega, by omega, by rw [r2]; have := hf.good.tabs; omega, fun k hk => ?_, by have := hf.good.data; omega⟩
  ·obtain ⟨g1, g2, -, -⟩ := fitP_head hft hk
   exact ⟨g1, by rw [H0.2]; omega, by rw [← r1]; omega⟩
  ·rw [H0.2] at hx
   rw [H5]
   exact Ha x hx
  ·rw [H5] at hk ⊢
   rw [Hf k hk] at h0 ⊢
   exact H1 _ h0 (H7 k hk).bl
  ·rw [H5] at hk
   rw [Hf k hk] at h0 ⊢
   have := (H7 k hk).fn
   rw [H0.2, r1]
   show (nth LF.its k).Fn.toNat < _
   have h0' : 0 ≤ (nth LF.its k).Fn := h0
   omega
  ·rw [r2] at hk
   have e : nth (recF m).Tables k = (nth m.Tables k).map (plR m) := by rw [← flR_is hf]; exact nthMap _ _ hk
   rw [e] at H8
   obtain ⟨x, -, rfl⟩ := List.mem_map.1 H8
   have hx := plR_lt hf x
   have := H1 _ hx.1 hx.2
   rw [H5]
   exact ⟨hx.1, this.1, this.2.1, this.2.2⟩
  rw [r2] at hk
  have e : nth (recF m).Tables k = (nth m.Tables k).map (plR m) := by rw [← flR_is hf]; exact nthMap _ _ hk
  rw [e, List.length_map]
  have := (hf.good.tab k hk).1
  omega
 ·rw [← H4, H6]
  have := H2.old
  exact this.nodup (at_parts hf h2 hft)
 rw [← H4]
 intro x hx
 have h1 : x.1 ∈ olds LF.its := by rw [← H6]; exact List.mem_map_of_mem hx
 have h3 := H2.old.subset h1
 obtain ⟨b, H8, ha⟩ := List.mem_flatMap.1 h3
 have := n2 b H8
 have := (hb b.toNat jo).2 _ ha
 omega
end
section
variable {m : Img} {l : List Pa}
theorem call_pos (h : Followed m) {q : Nat × Sp} (hq : q ∈ annS (allS m) m.Funcs.length) (hk : (plainI m q.2).K = 23) : 0 ≤ (plainI m q.2).N := by
 have hs := h.sp q hq
 have H0 : q.2.I.K = 23 := by
  unfold plainI at hk
  split at hk
  ·assumption
  exact hk
 unfold plainI
 rw [if_pos H0]
 show 0 ≤ fnAt m (q.2.A + q.2.I.N)
 unfold spB at hs
 rw [if_neg (by unfold brN; rw [H0]; simp), if_neg jo, if_pos H0] at hs
 have z := idxN_any (fnP m (q.2.A + q.2.I.N)) m.Funcs.length
 rw [Bool.not_eq_false'] at hs
 rw [hs] at z
 exact of_decide_eq_true z
theorem code_of {ch : List (Nat × Sp)} (hc : ChGood m ch) : ∀ x ∈ (blkOf m ch).Code, ∃ q ∈ ch, x = plainI m q.2 := by
 obtain ⟨op, p, rfl, h3, -⟩ := hc.split
 rw [blkOf_is h3]
 have h1 : ∀ x ∈ op.map (fun q => plainI m q.2), ∃ q ∈ op ++ [p], x = plainI m q.2 := fun x hx => by obtain ⟨q, hq, rfl⟩ := List.mem_map.1 hx; exact ⟨q, memA hq, rfl⟩
 have h2 : ∀ x ∈ op.map (fun q => plainI m q.2) ++ [plainI m p.2], ∃ q ∈ op ++ [p], x = plainI m q.2 := fun x hx => by
  rcases List.mem_append.1 hx with q | q
  ·exact h1 x q
  exact ⟨p, List.mem_append_right _ (List.mem_singleton.2 rfl), List.mem_singleton.1 q⟩
 intro x hx
 unfold pbR at hx
 repeat' split at hx
 all_goals first | exact h1 x hx | exact h2 x hx
theorem block_call (h : Followed m) : ∀ i, i < (recF m).Blocks.length → ∀ x ∈ (nth (recF m).Blocks i).Code, x.K = 23 → 0 ≤ x.N := by
 obtain ⟨H1, e1, e2, e3⟩ := flow_chunks h
 intro i hi x hx hk
 rw [e1, List.length_map] at hi
 rw [e1, nthMap _ _ hi] at hx
 have H0 : nth H1 i ∈ H1 := nthMem hi
 obtain ⟨q, hq, rfl⟩ := code_of (e3 _ H0) x hx
 exact call_pos h (by rw [← e2]; exact List.mem_flatten.2 ⟨_, H0, hq⟩) hk
theorem lay_mem {f : Fl} (hft : fitP f l = true) : ∀ t ∈ (lay f l).its, ∃ (b : Nat) (nx : Int), b < f.Blocks.length ∧ t ∈ bIts (nth f.Blocks b) nx := by
 have H0 : ∀ i, i < l.length → ∀ s : Ly, (∀ t ∈ s.its, ∃ (b : Nat) (nx : Int), b < f.Blocks.length ∧ t ∈ bIts (nth f.Blocks b) nx) → ∀ k, k ≤ (nth l i).Blocks.length → ∀ t ∈ (layBs f (nth l i).Blocks s k).its, ∃ (b : Nat) (nx : Int), b < f.Blocks.length ∧ t ∈ bIts (nth f.Blocks b) nx := by
  intro i hi s hs k
  induction k with
  | zero => intro _; exact hs
  | succ k ih =>
   intro hk t ht
   rw [layBs_succ] at ht
   unfold layB at ht
   rcases List.mem_append.1 ht with q | q
   ·exact ih jo t q
   obtain ⟨g1, g2, -, -⟩ := fitP_blk hft hi (k := k) jo
   exact ⟨_, _, by omega, q⟩
 have H1 : ∀ i, i ≤ l.length → ∀ t ∈ (layK f l i).its, ∃ (b : Nat) (nx : Int), b < f.Blocks.length ∧ t ∈ bIts (nth f.Blocks b) nx := by
  intro i
  induction i with
  | zero => intro _ t ht; rw [layK_zero] at ht; cases ht
  | succ i ih =>
   intro hi t ht
   rw [layK_succ] at ht
   unfold layP at ht
   exact H0 i jo (begP (layK f l i) (nth l i)) (ih jo) _ (Nat.le_refl _) t ht
 exact H1 l.length (Nat.le_refl _)
theorem oppK_ne (K : Int) : oppK K ≠ 23 := by unfold oppK; repeat' split <;> omega
theorem tIt_d {b : Bk} (hb : BkF m b) (hA : ∀ a ∈ b.At, a < m.Text.length) (nx : Int) : ∀ t ∈ tIt b nx, t.Fn = -1 ∧ t.I.K ≠ 23 ∧ (0 ≤ t.Old → t.Old < m.Text.length) := by
 have hj : (jI : Ic).K ≠ 23 := by decide
 have ho : b.Ends = 3 ∨ b.Ends = 4 → nth b.At b.Code.length < m.Text.length := fun h => hA _ (nthMem (hb.g.a1 h))
 intro t ht
 unfold tIt at ht
 by_cases h2 : b.Ends = 2
 ·rw [if_pos h2] at ht
  split at ht
  ·cases ht
  rw [List.mem_singleton.1 ht]; exact ⟨rfl, hj, fun h => by dsimp only at h; omega⟩
 rw [if_neg h2] at ht
 by_cases h3 : b.Ends = 3
 ·rw [if_pos h3] at ht
  split at ht
  ·cases ht
  rw [List.mem_singleton.1 ht]; exact ⟨rfl, hj, fun _ => ho (Or.inl h3)⟩
 rw [if_neg h3] at ht
 by_cases h4 : b.Ends = 4
 ·rw [if_pos h4] at ht
  split at ht
  ·rw [List.mem_singleton.1 ht]; exact ⟨rfl, oppK_ne _, fun _ => ho (Or.inr h4)⟩
  rcases List.mem_cons.1 ht with rfl | ht
  ·exact ⟨rfl, fun h => by have := hb.g.lst h4; dsimp only at h; omega, fun _ => ho (Or.inr h4)⟩
  split at ht
  ·cases ht
  rw [List.mem_singleton.1 ht]; exact ⟨rfl, hj, fun h => by dsimp only at h; omega⟩
 rw [if_neg h4] at ht; cases ht
theorem bIts_d {b : Bk} (hb : BkF m b) (hA : ∀ a ∈ b.At, a < m.Text.length) (hc : ∀ x ∈ b.Code, x.K = 23 → 0 ≤ x.N) (nx : Int) : ∀ t ∈ bIts b nx, ((0 ≤ t.Bl → t.Fn < 0) ∧ (t.I.K = 23 → 0 ≤ t.Fn)) ∧ (0 ≤ t.Old → t.Old < m.Text.length) := by
 intro t ht
 unfold bIts at ht
 rcases List.mem_append.1 ht with q | q
 ·obtain ⟨k, hk, rfl⟩ := List.mem_map.1 q
  have hk := List.mem_range.1 hk
  refine ⟨⟨fun h => by rw [cIt_bl] at h; omega, fun h => ?_⟩, fun _ => by rw [cIt_old]; exact hA _ (nthMem (Nat.lt_of_lt_of_le hk hb.g.a0))⟩
  unfold cIt at h ⊢
  by_cases h23 : (nth b.Code k).K = 23
  ·rw [if_pos h23]
   exact hc _ (nthMem hk) h23
  rw [if_neg h23] at h
  exact absurd h h23
 obtain ⟨h1, h2, h3⟩ := tIt_d hb hA nx t q
 exact ⟨⟨fun _ => by omega, fun h => absurd h h2⟩, h3⟩
theorem emD (hre : recE m = 0) (hft : fitP (recF m) l = true) : EmD m (recF m) l := by
 obtain ⟨hf, h2⟩ := rec_good hre
 have key : ∀ t ∈ (lay (recF m) l).its, ((0 ≤ t.Bl → t.Fn < 0) ∧ (t.I.K = 23 → 0 ≤ t.Fn)) ∧ (0 ≤ t.Old → t.Old < m.Text.length) := by intro t ht; obtain ⟨b, nx, H0, hm⟩ := lay_mem hft t ht; obtain ⟨hB, hA⟩ := blocks_ok hf h2 b H0; exact bIts_d hB (fun a ha => (hA a ha).2) (block_call hf b H0) nx t hm
 exact ⟨fun t ht => (key t ht).1, fun t ht => (key t ht).2, by omega⟩
end
end Go.Proofs.YtgdamggkaklhjaaDoor
end
