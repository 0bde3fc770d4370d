/-
emit.Emit in plain terms; what its walk asks; the maker as i
-/
import Derived.Test.YtgdamggkaklhjaaDoorEmQ
set_option linter.all false
namespace Go.Proofs.YtgdamggkaklhjaaDoor
open Go.RowKit BH
set_option maxHeartbeats 1000000000
set_option maxRecDepth 100000
def emI (m : Img) (l : List Pa) : List It := setI (lay (recF m) l).fst (lay (recF m) l).its
def emE (m : Img) (l : List Pa) : Int := if recE m ≠ 0 then recE m else if fitP (recF m) l = true then (if 8000 < adI (emI m l) (emI m l).length then 1 else 0) else 8
def emA (m : Img) (l : List Pa) : Img := if emE m l = 0 then outI m (recF m) l (emI m l) (lay (recF m) l).fst (lay (recF m) l).beg else ⟨[], [], [], [], [], 0⟩
def emP (m : Img) (l : List Pa) : List (Int × Int) := if emE m l = 0 then sortP (prs (adrs (emI m l))) else []
def PrAt (w : World) (v : Value) (l : List (Int × Int)) : Prop := Arr w v l.length 2 (fun i j => (cpr (nth l i)).getD j undef)
def EmAns (m : Img) (l : List Pa) (w : World) (e : Ending) (w' : World) : Prop :=
 ∃ iv pv, e = .returned (.tuple #[iv, pv, .int .i64 (emE m l)]) ∧ Foot (fun b => w.heap.size ≤ b ∧ b < w'.heap.size) (fun w => ImgAt w iv (emA m l)) w' ∧ Foot (fun b => w.heap.size ≤ b ∧ b < w'.heap.size) (fun w => PrAt w pv (emP m l)) w' ∧ Keeps w w'
structure EmG (m : Img) (f : Fl) (l : List Pa) : Prop where
 bk : ∀ i, i < f.Blocks.length → BkG (nth f.Blocks i)
 nb : f.Blocks.length ≤ 1000000000
 pl : ∀ i, i < l.length → (nth l i).Blocks.length ≤ 1000000000
 nf : f.Firsts.length ≤ 1000000000
 few : ∀ i, i < l.length → ∀ k, k ≤ (nth l i).Blocks.length → (layBs f (nth l i).Blocks (begP (layK f l i) (nth l i)) k).its.length ≤ 900000000
 st : StG (lay f l).its (lay f l).fst
 pr : PrG m f l (setI (lay f l).fst (lay f l).its) (lay f l).fst (lay f l).beg
 nd : ((prs (adrs (setI (lay f l).fst (lay f l).its))).map (·.1)).Nodup
 rg : ∀ x ∈ prs (adrs (setI (lay f l).fst (lay f l).its)), 0 ≤ x.1 ∧ x.1 < 4611686018427387904
theorem fitP_len {f : Fl} {l : List Pa} (h : fitP f l = true) : l.length = f.Firsts.length := by
 unfold fitP at h
 rw [Bool.and_eq_true] at h
 exact of_decide_eq_true h.1
theorem fitP_part {f : Fl} {l : List Pa} (h : fitP f l = true) {i : Nat} (hi : i < l.length) : headBad f l i = false ∧ anyN (blkBad f l i) (nth l i).Blocks.length = false := by
 unfold fitP at h
 rw [Bool.and_eq_true, Bool.and_eq_true, Bool.not_eq_true'] at h
 have := anyN_false h.2.1 i hi
 unfold partBad at this
 rw [Bool.or_eq_false_iff] at this
 exact this
theorem fitP_head {f : Fl} {l : List Pa} (h : fitP f l = true) {i : Nat} (hi : i < l.length) : 0 ≤ (nth l i).Func ∧ (nth l i).Func < f.Firsts.length ∧ 0 < (nth l i).Blocks.length ∧ nth (nth l i).Blocks 0 = nth f.Firsts (nth l i).Func.toNat := by
 have := of_decide_eq_false (fitP_part h hi).1
 refine ⟨by omega, by omega, by omega, Classical.byContradiction fun q => this (Or.inr (Or.inr (Or.inr q)))⟩
theorem fitP_blk {f : Fl} {l : List Pa} (h : fitP f l = true) {i k : Nat} (hi : i < l.length) (hk : k < (nth l i).Blocks.length) : 0 ≤ nth (nth l i).Blocks k ∧ nth (nth l i).Blocks k < f.Blocks.length ∧ ¬ nth (nth l i).Blocks k ∈ seenB l i k ∧ (nth f.Blocks (nth (nth l i).Blocks k).toNat).Func = (nth l i).Func := by
 have := of_decide_eq_false (anyN_false (fitP_part h hi).2 k hk)
 refine ⟨by omega, by omega, fun q => this (Or.inr (Or.inr (Or.inl q))), Classical.byContradiction fun q => this (Or.inr (Or.inr (Or.inr q)))⟩
theorem layB_lens (f : Fl) (B : List Int) (s : Ly) (k : Nat) : (layB f B s k).fst.length = s.fst.length ∧ (layB f B s k).beg = s.beg := ⟨by unfold layB; simp, rfl⟩
theorem layBs_lens (f : Fl) (B : List Int) (s : Ly) : ∀ k, (layBs f B s k).fst.length = s.fst.length ∧ (layBs f B s k).beg = s.beg
 | 0 => ⟨rfl, rfl⟩
 | k + 1 => by rw [layBs_succ]; have := layBs_lens f B s k; have h2 := layB_lens f B (layBs f B s k) k; exact ⟨h2.1.trans this.1, h2.2.trans this.2⟩
theorem layK_lens (f : Fl) (l : List Pa) : ∀ k, (layK f l k).fst.length = f.Blocks.length ∧ (layK f l k).beg.length = f.Firsts.length
 | 0 => ⟨by unfold layK ly0; simp, by unfold layK ly0; simp⟩
 | k + 1 => by rw [layK_succ]; have := layK_lens f l k; have h2 := layBs_lens f (nth l k).Blocks (begP (layK f l k) (nth l k)) (nth l k).Blocks.length; unfold layP; exact ⟨h2.1.trans this.1, by rw [h2.2]; unfold begP; dsimp only; rw [List.length_set]; exact this.2⟩
theorem Mkr.start {m : Img} {f : Fl} {W w2 w : World} {v0 v1 v2 v3 v4 f0 f1 f2 vF vB : Value} {c2 : Nat → Nat} {fst beg : List Int} (hI : ImgAt W (.agg #[v0, v1, v2, v3, v4, .int .i64 m.Entry]) m) (hF : FlowAt W (.agg #[f0, f1, f2]) f) (ht : Turn (fun _ => False) (fun _ => 0) W c2 w2)
  (h3 : OwnC 3 c2 w2 W.heap.size 3 1 ci vF fst) (h4 : OwnC 4 c2 w2 W.heap.size 3 1 ci vB beg) (hw : w = w2.alloc (.cells #[v0, v1, v2, v3, v4, .int .i64 m.Entry, f0, f1, f2, .slice none 0 0, vF, vB] 52)) :
  ∃ c, Mkr m f W v0 v1 v2 v3 v4 f0 f1 f2 w2.heap.size (.slice none 0 0) vF vB [] fst beg c w := by
 obtain ⟨c, H0, H3, H1⟩ := Turn.paint w2 c2 (.cells #[v0, v1, v2, v3, v4, .int .i64 m.Entry, f0, f1, f2, .slice none 0 0, vF, vB] 52) 1 (fun _ => False)
 rw [← hw] at H0 H1
 have H2 := ht.trans H0
 exact ⟨c, ⟨(H2.mono (J := fun i => i = 1) fun i q => q.elim).below (Nat.le_refl _) (fun _ _ => rfl) jd, H2.zero (Nat.le_refl _) (fun _ _ => rfl), hI, hF, ⟨H1, H3⟩, OwnC.nil _ _ _ _ _ _ _, h3.turn H0 (fun q => q), h4.turn H0 (fun q => q)⟩⟩
theorem prAt_own {w : World} {B : Nat} {e : TypeId} {v : Value} {l : List (Int × Int)} (h : Own w B e 2 cpr v l) : PrAt w v l := h.arr cpr_len
theorem imgNil_at (w : World) : ImgAt w (.agg #[.slice none 0 0, .slice none 0 0, .slice none 0 0, .slice none 0 0, .slice none 0 0, .int .i64 0]) ⟨[], [], [], [], [], 0⟩ := by
 have hn : ∀ (k : Nat) (c : Nat → Nat → Value), Arr w (.slice none 0 0) 0 k c := fun k c => ⟨none, 0, rfl, Nat.le_refl _, Nat.zero_le _, fun _ => rfl, fun h => absurd h (Nat.lt_irrefl 0)⟩
 exact ⟨_, _, _, _, _, rfl, hn _ _, hn _ _, ⟨fun _ => undef, hn _ _, fun i h => absurd h (Nat.not_lt_zero _)⟩, hn _ _, hn _ _⟩
theorem prNil_at (w : World) : PrAt w (.slice none 0 0) [] := ⟨none, 0, rfl, Nat.le_refl _, Nat.zero_le _, fun _ => rfl, fun h => absurd h (Nat.lt_irrefl 0)⟩
theorem EmAns.bad {m : Img} {l : List Pa} {w w' : World} {er : Int} (h : emE m l = er) (h0 : er ≠ 0) (hk : Keeps w w') : EmAns m l w (.returned (.tuple #[.agg #[.slice none 0 0, .slice none 0 0, .slice none 0 0, .slice none 0 0, .slice none 0 0, .int .i64 0], .slice none 0 0, .int .i64 er])) w' := by
 refine ⟨_, _, by rw [h], ?_, ?_, hk⟩
 ·unfold emA; rw [if_neg (by rw [h]; exact h0)]; exact ⟨fun b hb => hb.2, fun w' _ => imgNil_at w'⟩
 unfold emP; rw [if_neg (by rw [h]; exact h0)]; exact ⟨fun b hb => hb.2, fun w' _ => prNil_at w'⟩
end Go.Proofs.YtgdamggkaklhjaaDoor
