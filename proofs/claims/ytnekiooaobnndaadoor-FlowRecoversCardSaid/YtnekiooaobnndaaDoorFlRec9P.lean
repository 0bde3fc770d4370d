/-
 What the walks of cut and join share: sizes, the map of places, the finder's cells written.
 What flow.Recover's parts need: instructions in bounds, few and short blocks, each with a line, its ways in bounds. No walk here.
-/
import Derived.Test.YtnekiooaobnndaaDoorFlRec7
import Derived.Test.YtnekiooaobnndaaDoorRegHead
import Derived.Test.YtnekiooaobnndaaDoorFlRecQ
set_option linter.unusedVariables false
set_option linter.unusedSimpArgs false
section
namespace Go.Proofs.YtnekiooaobnndaaDoor
open Go.RowKit BH
set_option maxHeartbeats 1000000000
set_option maxRecDepth 100000
theorem info_block : (Tryd.prog.info? 77).map (fun i => (i.zero, i.size, i.bytes)) = some (some (.agg #[.int .i64 0, .int .i64 0, .slice none 0 0, .slice none 0 0, .int .i64 0, .int .i64 0, .int .i64 0, .int .i64 0, .int .i64 0, .bool false, .int .i64 0, .int .i64 0, .int .i64 0, .slice none 0 0]), 14, 160) := by kernel_rfl
theorem info_instr : (Tryd.prog.info? 61).map (fun i => (i.zero, i.size, i.bytes)) = some (some (.agg #[.int .i64 0, .int .i64 0, .int .i64 0, .int .i64 0, .int .i64 0, .bool false]), 6, 48) := by kernel_rfl
/-- few blocks, short rows -/
def CutSm (bs : List Bk) (T : Nat) : Prop := bs.length ≤ T ∧ ∀ i, i < bs.length → (nth bs i).Code.length ≤ T ∧ (nth bs i).At.length ≤ T ∧ (nth bs i).Lines.length ≤ T
theorem CutSm.mono {bs : List Bk} {T T' : Nat} (h : CutSm bs T) (ht : T ≤ T') : CutSm bs T' := ⟨Nat.le_trans h.1 ht, fun i hi => ⟨Nat.le_trans (h.2 i hi).1 ht, Nat.le_trans (h.2 i hi).2.1 ht, Nat.le_trans (h.2 i hi).2.2 ht⟩⟩
theorem CutSm.snoc {bs : List Bk} {T : Nat} (h : CutSm bs T) (f a : Int) : CutSm (bs ++ [newB f a]) (T + 1) := by
 refine ⟨by have := h.1; simp; omega, fun i hi => ?_⟩
 rw [List.length_append, List.length_singleton] at hi
 rcases Nat.lt_or_ge i bs.length with q | q
 ·rw [nth_app_lt _ _ q]; have := h.2 i q; omega
 ·rw [nth_app_eq _ _ (by omega)]; exact ⟨Nat.zero_le _, Nat.zero_le _, Nat.zero_le _⟩
theorem CutSm.last {bs : List Bk} {T J : Nat} {b : Bk} (h : bs.length ≤ T + 1 ∧ ∀ i, i < bs.length → (nth bs i).Code.length ≤ T ∧ (nth bs i).At.length ≤ T ∧ (nth bs i).Lines.length ≤ T) (hJ : J < bs.length) (hc : b.Code.length ≤ (nth bs J).Code.length + 1) (ha : b.At.length ≤ (nth bs J).At.length + 1) (hl : b.Lines.length ≤ (nth bs J).Lines.length + 1) : CutSm (bs.set J b) (T + 1) := by
 refine ⟨by rw [List.length_set]; exact h.1, fun i hi => ?_⟩
 rw [List.length_set] at hi
 rw [nth_setw _ _ _ _ hi]
 have hj := h.2 J hJ
 split
 ·omega
 ·have := h.2 i hi; omega
abbrev MK6 (c : Nat → Nat) (w : World) (b n : Nat) (bm : Int → Option Int) : Prop := MapC 6 c Tryd.prog 3 3 (fun x : Int => .int .i64 x) wfI litI w b n bm
/-- what cut leaves -/
def CutAns (m : Img) (w0 : World) (v0 v1 v2 v3 v4 va : Value) (vs : List Sle) (L : List (List Sp)) (xb ob lb kb : Nat) (vT : Value) (c : Nat → Nat) (w : World) (nK : Nat) (C : Cut) (fs : List Int) (w' : World) : Prop :=
 ∃ c' vB vF rs, Turn (fun i => i = 1 ∨ i = 6 ∨ i = 9 ∨ i = 10 ∨ 16 ≤ i) c w c' w' ∧ Fin m w0 v0 v1 v2 v3 v4 va vs L xb ob lb kb vB vT vF c' w' ∧ BlkS w0.heap.size c' w' vB rs C.bs ∧ MK6 c' w' kb nK C.bm ∧ OwnC 9 c' w' w0.heap.size 3 1 ci vF fs
theorem Fin.put {m : Img} {w0 : World} {v0 v1 v2 v3 v4 va : Value} {vs : List Sle} {L : List (List Sp)} {xb ob lb kb : Nat} {vB vT vF vB' vT' vF' : Value} {c : Nat → Nat} {w w' : World} {j : Nat} {u : Value} (h : Fin m w0 v0 v1 v2 v3 v4 va vs L xb ob lb kb vB vT vF c w)
  (hw : w' = w.setCell ⟨xb, j, none⟩ u) (he : (#[v0, v1, v2, v3, v4, .int .i64 m.Entry, va, .map (some ob), .map (some lb), .map (some kb), vB, vT, vF] : Array Value).setIfInBounds j u = #[v0, v1, v2, v3, v4, .int .i64 m.Entry, va, .map (some ob), .map (some lb), .map (some kb), vB', vT', vF']) :
  Fin m w0 v0 v1 v2 v3 v4 va vs L xb ob lb kb vB' vT' vF' c w' ∧ Turn (fun i => i = 1) c w c w' := by
 subst hw
 obtain ⟨hb, ht⟩ := h.blk.set j u
 rw [he] at hb
 exact ⟨⟨h.keep.trans' (ht.below h.keep.size h.zero (by decide)) (Nat.le_refl _), h.zero, h.img, hb, h.all.turn ht (by decide), h.len, h.sps.turn ht (by decide)⟩, ht⟩
end Go.Proofs.YtnekiooaobnndaaDoor
end
section
namespace Go.Proofs.YtnekiooaobnndaaDoor
open Go.RowKit BH
set_option maxRecDepth 100000
theorem Chain.len : ∀ {l : List Sp} {a e : Int}, Chain a l e → (l.length : Int) ≤ e - a
 | [], a, e, h => by simp only [Chain] at h; simp; omega
 | s :: r, a, e, h => by
  have := Chain.len h.2.2
  have := h.2.1
  rw [List.length_cons]
  omega
theorem SpGood.spOk {T : List UInt8} {s : Sp} (h : SpGood T s) (h2 : T.length ≤ 2000) : SpOk s := by
 have f := h.fine
 have x0 := f.x0
 have x1 := f.x1
 exact ⟨x0, by omega, by rw [h.z]; exact f.z1, by rw [h.z]; exact f.z5, by rw [h.i]; exact f.n0, by rw [h.i]; exact f.n1, by rw [h.i]; exact f.k1, by rw [h.i]; exact f.k24, by rw [h.i]; exact f.nt⟩
theorem fun_short {m : Img} (hg : ImgGood m) (h2 : m.Text.length ≤ 2000) {i : Nat} (hi : i < m.Funcs.length) (hb : badF m.Text (nth m.Funcs i) = false) : (nth (allS m) i).length ≤ 2000 ∧ (∀ s ∈ nth (allS m) i, SpOk s) ∧ nth (allS m) i = spsF m.Text (nth m.Funcs i) ∧ 0 < (nth (allS m) i).length := by
 obtain ⟨c, g, -, hp⟩ := badF_no hg hi hb
 have h1 := c.len
 have e1 := sumF_mono hg (show i + 1 ≤ m.Funcs.length from hi) (Nat.le_refl _)
 rw [hg.sum] at e1
 have e0 := sumF_mono hg (show 0 ≤ i by omega) (by omega)
 have e2 : sumF m 0 = 0 := rfl
 exact ⟨by omega, fun s hs => (g s hs).spOk h2, allS_nth m hi, hp⟩
theorem ann_len {m : Img} (hg : ImgGood m) (hs : Swept m) (h2 : m.Text.length ≤ 2000) : ∀ k, k ≤ m.Funcs.length → (annS (allS m) k).length ≤ 2000 * k
 | 0, _ => Nat.le_refl _
 | k + 1, hk => by
  unfold annS
  rw [List.length_append, List.length_map]
  have := ann_len hg hs h2 k (by omega)
  have := (fun_short hg h2 (i := k) (by omega) (hs.f (by omega))).1
  omega
theorem cutS_sm {m : Img} {f : Int} {c : Cut} {s : Sp} {T : Nat} (h : CutSm c.bs T) : CutSm (cutS m f c s).bs (T + 1) := by
 have key : ∀ bs1 : List Bk, (bs1.length ≤ T + 1 ∧ ∀ i, i < bs1.length → (nth bs1 i).Code.length ≤ T ∧ (nth bs1 i).At.length ≤ T ∧ (nth bs1 i).Lines.length ≤ T) → CutSm (modL bs1 (pbS m s)) (T + 1) := by
  intro bs1 h1
  rcases Nat.eq_zero_or_pos bs1.length with q | q
  ·rw [List.length_eq_zero_iff.1 q]
   exact ⟨Nat.zero_le _, fun i hi => by cases hi⟩
  ·unfold modL
   refine CutSm.last h1 (by omega) ?_ ?_ ?_ <;> (unfold pbS; split; · simp) <;> (split; · simp) <;> (split <;> simp)
 unfold cutS
 by_cases hl : isL m s.A = true
 ·rw [if_pos hl]
  refine key _ ⟨by have := h.1; rw [List.length_append, List.length_singleton]; omega, fun i hi => ?_⟩
  rw [List.length_append, List.length_singleton] at hi
  rcases Nat.lt_or_ge i c.bs.length with z | z
  ·rw [nth_app_lt _ _ z]; exact h.2 i z
  ·rw [nth_app_eq _ _ (by omega)]; exact ⟨Nat.zero_le _, Nat.zero_le _, Nat.zero_le _⟩
 ·rw [if_neg hl]
  exact key _ ⟨by have := h.1; omega, h.2⟩
theorem fold_sm {m : Img} : ∀ (l : List (Nat × Sp)) (c : Cut) (T : Nat), CutSm c.bs T → CutSm (l.foldl (fun c p => cutS m p.1 c p.2) c).bs (T + l.length)
 | [], _, _, h => h
 | p :: r, c, T, h => by
  have := fold_sm (m := m) r (cutS m p.1 c p.2) (T + 1) (cutS_sm h)
  rw [show T + 1 + r.length = T + (p :: r).length by rw [List.length_cons]; omega] at this
  exact this
theorem cutF_sm {m : Img} (hg : ImgGood m) (hs : Swept m) (h2 : m.Text.length ≤ 2000) {k : Nat} (hk : k ≤ m.Funcs.length) : CutSm (cutF m k).bs (2000 * k) := by
 rw [cutF_is]
 have := fold_sm (m := m) (annS (allS m) k) ⟨[], fun _ => none⟩ 0 ⟨Nat.zero_le _, fun i hi => by cases hi⟩
 exact this.mono (by have := ann_len hg hs h2 k hk; omega)
/-- a line, ways in bounds -/
def BkOk (b : Bk) : Prop := 0 < b.Lines.length ∧ -100000 ≤ b.To ∧ b.To ≤ 100000 ∧ -100000 ≤ b.Else ∧ b.Else ≤ 100000
theorem pbS_ok {m : Img} {s : Sp} {b : Bk} (hs : SpOk s) (h1 : -100000 ≤ b.Else ∧ b.Else ≤ 100000) : BkOk (pbS m s b) := by
 obtain ⟨a0, a1, z0, z1, n0, n1, -, -, -⟩ := hs
 unfold pbS BkOk
 split
 ·exact ⟨by simp, by dsimp only; omega, by dsimp only; omega, by dsimp only; omega, by dsimp only; omega⟩
 ·split
  ·exact ⟨by simp, by dsimp only; omega, by dsimp only; omega, h1.1, h1.2⟩
  ·split
   ·exact ⟨by simp, by dsimp only; omega, by dsimp only; omega, h1.1, h1.2⟩
   ·exact ⟨by simp, by dsimp only; omega, by dsimp only; omega, h1.1, h1.2⟩
theorem cutS_ok {m : Img} {f : Int} {c : Cut} {s : Sp} (hs : SpOk s) (h : ∀ b ∈ c.bs, BkOk b) : ∀ b ∈ (cutS m f c s).bs, BkOk b := by
 unfold cutS
 by_cases hl : isL m s.A = true
 ·rw [if_pos hl]
  dsimp only
  rw [modL_app]
  intro b hb
  rcases List.mem_append.1 hb with q | q
  ·exact h b q
  ·rw [List.mem_singleton.1 q]
   exact pbS_ok hs ⟨by unfold newB; dsimp only; omega, by unfold newB; dsimp only; omega⟩
 ·rw [if_neg hl]
  dsimp only
  rcases List.eq_nil_or_concat c.bs with q | ⟨pre, b0, q⟩
  ·rw [q]; intro b hb; cases hb
  ·rw [q, List.concat_eq_append, modL_app]
   rw [q, List.concat_eq_append] at h
   intro b hb
   rcases List.mem_append.1 hb with z | z
   ·exact h b (List.mem_append_left _ z)
   ·rw [List.mem_singleton.1 z]
    have := h b0 (List.mem_append_right _ (List.mem_singleton.2 rfl))
    exact pbS_ok hs ⟨this.2.2.2.1, this.2.2.2.2⟩
theorem fold_ok {m : Img} : ∀ (l : List (Nat × Sp)) (c : Cut), (∀ p ∈ l, SpOk p.2) → (∀ b ∈ c.bs, BkOk b) → ∀ b ∈ (l.foldl (fun c p => cutS m p.1 c p.2) c).bs, BkOk b
 | [], _, _, h => h
 | p :: r, c, hs, h => fold_ok r _ (fun q hq => hs q (List.mem_cons_of_mem _ hq)) (cutS_ok (hs p (List.mem_cons_self ..)) h)
theorem cutF_ok {m : Img} (hg : ImgGood m) (hs : Swept m) (h2 : m.Text.length ≤ 2000) : ∀ b ∈ (cutF m m.Funcs.length).bs, BkOk b := by
 rw [cutF_is]
 exact fold_ok _ _ (fun p hp => (ann_in hg hs hp).2.2.spOk h2) (fun b hb => by cases hb)
/-- what flow.Recover answers -/
def recA (m : Img) : Fl := if recE m = 0 then recF m else ⟨[], [], []⟩
theorem recE_fault {m : Img} (h : imgFault m ≠ 0) : recE m = imgFault m := by unfold recE; rw [if_pos h]
theorem recE_big {m : Img} (h : imgFault m = 0) (h2 : 2000 < m.Text.length) : recE m = 1 := by unfold recE; rw [if_neg (by rw [h]; decide), if_pos h2]
theorem recE_bad {m : Img} (h : imgFault m = 0) (h2 : ¬ 2000 < m.Text.length) (hb : recB m = true) : recE m = 9 := by unfold recE; rw [if_neg (by rw [h]; decide), if_neg h2, if_pos hb]
theorem recE_good {m : Img} (h : imgFault m = 0) (h2 : ¬ 2000 < m.Text.length) (hb : recB m = false) : recE m = 0 := by unfold recE; rw [if_neg (by rw [h]; decide), if_neg h2, if_neg (by rw [hb]; decide)]
theorem recB_f {m : Img} {i : Nat} (hi : i < m.Funcs.length) (hb : badF m.Text (nth m.Funcs i) = true) : recB m = true := by
 unfold recB
 rw [anyN_yes (p := fun i => badF m.Text (nth m.Funcs i)) hi hb]
 rfl
theorem recB_t {m : Img} {i : Nat} (hi : i < m.Tables.length) (hb : tblB m (ownS (allS m) m.Funcs.length) i = true) : recB m = true := by
 unfold recB
 rw [anyN_yes hi hb]
 simp
theorem recB_s {m : Img} {i : Nat} (hi : i < m.Funcs.length) (hb : anyN (fun k => spB m (ownS (allS m) m.Funcs.length) i (nth (nth (allS m) i) k)) (nth (allS m) i).length = true) : recB m = true := by
 unfold recB
 rw [anyN_yes (p := fun i : Nat => anyN (fun k => spB m (ownS (allS m) m.Funcs.length) i (nth (nth (allS m) i) k)) (nth (allS m) i).length) hi hb]
 simp
theorem recB_no {m : Img} (h1 : ∀ i, i < m.Funcs.length → badF m.Text (nth m.Funcs i) = false) (h2 : ∀ i, i < m.Tables.length → tblB m (ownS (allS m) m.Funcs.length) i = false) (h3 : ∀ i, i < m.Funcs.length → anyN (fun k => spB m (ownS (allS m) m.Funcs.length) i (nth (nth (allS m) i) k)) (nth (allS m) i).length = false) : recB m = false := by
 unfold recB
 rw [anyN_no h1, anyN_no h2, anyN_no h3]
 rfl
theorem first_isL {m : Img} (hg : ImgGood m) (hs : Swept m) {i : Nat} (hi : i < m.Funcs.length) : isL m (nth (nth (allS m) i) 0).A = true := by
 obtain ⟨c, -, -, hp⟩ := badF_no hg hi (hs.f hi)
 refine isL_iff.2 (Or.inr (Or.inl ⟨i, hi, ?_⟩))
 rw [(hg.func i hi).2.2.1]
 cases e : nth (allS m) i with
 | nil => rw [e] at hp; cases hp
 | cons s r => rw [e] at c; exact c.1
theorem isK_isL (m : Img) (x : Int) : ((isK (keysM m (allS m) m.Funcs.length) x).getD false) = isL m x := by
 unfold isK isL
 by_cases h : x ∈ keysM m (allS m) m.Funcs.length
 ·rw [if_pos h, decide_eq_true h]; rfl
 ·rw [if_neg h, decide_eq_false h]; rfl
end Go.Proofs.YtnekiooaobnndaaDoor
end
