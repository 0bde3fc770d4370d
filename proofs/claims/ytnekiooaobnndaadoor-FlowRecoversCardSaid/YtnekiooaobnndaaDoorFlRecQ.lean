/-
 The document's blocks are those of flow.Recover: the places, the blocks one by one, the whole flow. No walk here.
-/
import Derived.Test.YtnekiooaobnndaaDoorFlRecP
set_option linter.all false
namespace Go.Proofs.YtnekiooaobnndaaDoor
open BH
set_option maxRecDepth 100000
theorem Chain.apart : ∀ {l : List Sp} {a e : Int}, Chain a l e → ∀ s ∈ l, ∀ t ∈ l, s.A < t.A → s.A + s.Z ≤ t.A
 | [], _, _, _, s, hs, _, _, _ => by cases hs
 | x :: r, a, e, h, s, hs, t, ht, hq => by
  obtain ⟨h1, h2, h3⟩ := h
  rcases List.mem_cons.1 hs with e1 | q1 <;> rcases List.mem_cons.1 ht with e2 | q2
  ·rw [e1, e2] at hq; omega
  ·have := Chain.mem h3 t q2; rw [e1]; omega
  ·have := Chain.mem h3 s q1; rw [e2] at hq; omega
  ·exact Chain.apart h3 s q1 t q2 hq
/-- how many blocks begin below n -/
def cntL (m : Img) : Nat → Nat
 | 0 => 0
 | n + 1 => cntL m n + (if isL m n = true then 1 else 0)
/-- the place of the block that begins at an address; 0: none does -/
def plR (m : Img) (x : Int) : Int := if isL m x = true ∧ 0 ≤ x ∧ x < m.Text.length then (cntL m x.toNat : Int) else 0
theorem cntL_skip {m : Img} {a : Nat} : ∀ {d : Nat}, (∀ x : Nat, a ≤ x → x < a + d → isL m x = false) → cntL m (a + d) = cntL m a
 | 0, _ => rfl
 | d + 1, h => by
  show cntL m (a + d) + (if isL m ((a + d : Nat) : Int) = true then 1 else 0) = _
  rw [h (a + d) (by omega) (by omega), if_neg (by decide), cntL_skip (fun x h1 h2 => h x h1 (by omega))]
  rfl
theorem cntL_step {m : Img} {a Z : Int} (h0 : 0 ≤ a) (hz : 1 ≤ Z) (hn : ∀ x : Int, a < x → x < a + Z → isL m x = false) : cntL m (a + Z).toNat = cntL m a.toNat + (if isL m a = true then 1 else 0) := by
 obtain ⟨n, rfl⟩ := Int.eq_ofNat_of_zero_le h0
 obtain ⟨d, rfl⟩ : ∃ d : Nat, Z = (d : Int) + 1 := ⟨(Z - 1).toNat, by omega⟩
 rw [show ((n : Int) + ((d : Int) + 1)).toNat = (n + 1) + d by omega, cntL_skip (a := n + 1) (fun x h1 h2 => hn x (by omega) (by omega)), Int.toNat_natCast]
 rfl
theorem modL_len (bs : List Bk) (g : Bk → Bk) : (modL bs g).length = bs.length := by simp [modL]
theorem cut_inv {m : Img} : ∀ (l : List (Nat × Sp)) (a e : Int) (c : Cut), Chain a (l.map (·.2)) e → 0 ≤ a → c.bs.length = cntL m a.toNat → (∀ x, c.bm x = if isL m x = true ∧ 0 ≤ x ∧ x < a then some (cntL m x.toNat : Int) else none) →
  (∀ p ∈ l, ∀ x : Int, p.2.A < x → x < p.2.A + p.2.Z → isL m x = false) →
  (l.foldl (fun c p => cutS m p.1 c p.2) c).bs.length = cntL m e.toNat ∧ ∀ x, (l.foldl (fun c p => cutS m p.1 c p.2) c).bm x = if isL m x = true ∧ 0 ≤ x ∧ x < e then some (cntL m x.toNat : Int) else none
 | [], a, e, c, h, _, h1, h2, _ => by
  simp only [List.map_nil, Chain] at h
  subst h
  exact ⟨h1, h2⟩
 | p :: r, a, e, c, h, h0, h1, h2, h3 => by
  simp only [List.map_cons, Chain] at h
  obtain ⟨e1, e2, e3⟩ := h
  have hs := cntL_step (m := m) (a := a) (Z := p.2.Z) h0 e2 (fun x q1 q2 => h3 p (List.mem_cons_self ..) x (by omega) (by omega))
  refine cut_inv r (a + p.2.Z) e (cutS m p.1 c p.2) e3 (by omega) ?_ (fun x => ?_) (fun q hq => h3 q (List.mem_cons_of_mem _ hq))
  ·rw [hs, ← h1]
   unfold cutS
   rw [e1]
   by_cases hl : isL m a = true
   ·rw [if_pos hl, if_pos hl]
    dsimp only
    rw [modL_len, List.length_append, List.length_singleton]
   ·rw [if_neg hl, if_neg hl]
    dsimp only
    rw [modL_len]
    rfl
  ·unfold cutS
   rw [e1]
   by_cases hx : a < x ∧ x < a + p.2.Z
   ·have hx2 := h3 p (List.mem_cons_self ..) x (by omega) (by omega)
    have hr : (if isL m x = true ∧ 0 ≤ x ∧ x < a + p.2.Z then some (cntL m x.toNat : Int) else none) = none := if_neg (by rw [hx2]; simp)
    have hr2 : (if isL m x = true ∧ 0 ≤ x ∧ x < a then some (cntL m x.toNat : Int) else none) = none := if_neg (by rw [hx2]; simp)
    rw [hr]
    by_cases hl : isL m a = true
    ·rw [if_pos hl]
     dsimp only
     unfold putI
     rw [if_neg (show ¬ x = a by omega), h2, hr2]
    ·rw [if_neg hl]
     dsimp only
     rw [h2, hr2]
   ·by_cases hl : isL m a = true
    ·rw [if_pos hl]
     dsimp only
     unfold putI
     by_cases hxa : x = a
     ·subst hxa
      rw [if_pos rfl, if_pos ⟨hl, h0, by omega⟩, h1]
     ·rw [if_neg hxa, h2]
      by_cases q : isL m x = true ∧ 0 ≤ x ∧ x < a
      ·rw [if_pos q, if_pos ⟨q.1, q.2.1, by omega⟩]
      ·rw [if_neg q, if_neg (fun z => q ⟨z.1, z.2.1, by omega⟩)]
    ·rw [if_neg hl]
     dsimp only
     rw [h2]
     by_cases q : isL m x = true ∧ 0 ≤ x ∧ x < a
     ·rw [if_pos q, if_pos ⟨q.1, q.2.1, by omega⟩]
     ·rw [if_neg q, if_neg]
      intro z
      by_cases hxa : x = a
      ·subst hxa; exact hl z.1
      ·exact q ⟨z.1, z.2.1, by omega⟩
section
variable {m : Img}
theorem Followed.inside (h : Followed m) {p : Nat × Sp} (hp : p ∈ annS (allS m) m.Funcs.length) : ∀ x : Int, p.2.A < x → x < p.2.A + p.2.Z → isL m x = false := by
 intro x h1 h2
 cases e : isL m x with
 | false => rfl
 | true =>
  exfalso
  have hc := h.chain
  have hm := hc.mem p.2 (List.mem_map.2 ⟨p, hp, rfl⟩)
  obtain ⟨q, hq, e2⟩ := h.lead e (by omega)
  have := hc.apart p.2 (List.mem_map.2 ⟨p, hp, rfl⟩) q.2 (List.mem_map.2 ⟨q, hq, rfl⟩) (by omega)
  omega
theorem annS_sub {L : List (List Sp)} {k n : Nat} (h : k ≤ n) {p : Nat × Sp} (hp : p ∈ annS L k) : p ∈ annS L n := mem_annS.2 ⟨by have := (mem_annS.1 hp).1; omega, (mem_annS.1 hp).2⟩
theorem Followed.cut (h : Followed m) {k : Nat} (hk : k ≤ m.Funcs.length) : (cutF m k).bs.length = cntL m (sumF m k).toNat ∧ ∀ x, (cutF m k).bm x = if isL m x = true ∧ 0 ≤ x ∧ x < sumF m k then some (cntL m x.toNat : Int) else none := by
 rw [cutF_is]
 refine cut_inv _ 0 _ _ (ann_chain h.good h.sw k hk) (Int.le_refl _) rfl (fun x => ?_) (fun p hp => h.inside (annS_sub hk hp))
 rw [if_neg (by omega)]
theorem Followed.place (h : Followed m) (x : Int) : ((cutF m m.Funcs.length).bm x).getD 0 = plR m x := by
 rw [(h.cut (Nat.le_refl _)).2 x, h.good.sum]
 unfold plR
 split <;> rfl
theorem Followed.firsts (h : Followed m) {i : Nat} (hi : i < m.Funcs.length) : ((cutF m i).bs.length : Int) = plR m (nth m.Funcs i).Start := by
 have hf := (h.good.func i hi).2.2
 obtain ⟨p, hp, e, -⟩ := h.first hi
 have hm := h.chain.mem p.2 (List.mem_map.2 ⟨p, hp, rfl⟩)
 rw [(h.cut (k := i) (by omega)).1]
 unfold plR
 rw [if_pos ⟨isL_iff.2 (Or.inr (Or.inl ⟨i, hi, rfl⟩)), by omega, by omega⟩, hf.1]
end
/-- a block that the document opens -/
def newR (f a : Int) : Bk := ⟨f, a, [], [], zIc, 0, 0, 0, []⟩
/-- an instruction goes into the document's block -/
def pbR (m : Img) (s : Sp) (b : Bk) : Bk :=
 if brN s.I.K = true then { b with At := b.At ++ [s.A], Lines := b.Lines ++ [lineAt m.Lines s.A m.Lines.length], Ends := 4, Last := ⟨s.I.K, 0, s.I.A, s.I.B, 0, false⟩, To := plR m (s.A + s.I.N), Else := plR m (s.A + s.Z) }
 else if s.I.K = 22 then { b with At := b.At ++ [s.A], Lines := b.Lines ++ [lineAt m.Lines s.A m.Lines.length], Ends := 3, To := plR m (s.A + s.I.N) }
 else if stN s.I.K = true then { b with At := b.At ++ [s.A], Lines := b.Lines ++ [lineAt m.Lines s.A m.Lines.length] ++ [lineAt m.Lines s.A m.Lines.length], Code := b.Code ++ [plainI m s], Ends := 1 }
 else if isL m (s.A + s.Z) = true then { b with At := b.At ++ [s.A], Lines := b.Lines ++ [lineAt m.Lines s.A m.Lines.length] ++ [lineAt m.Lines s.A m.Lines.length], Code := b.Code ++ [plainI m s], Ends := 2, To := plR m (s.A + s.Z) }
 else { b with At := b.At ++ [s.A], Lines := b.Lines ++ [lineAt m.Lines s.A m.Lines.length], Code := b.Code ++ [plainI m s], Ends := 0 }
/-- the document's blocks: those that are done, the one that is open -/
def gR (m : Img) : List (Nat × Sp) → List Bk → Option Bk → List Bk
 | [], cl, _ => cl
 | p :: r, cl, ob => if (pbR m p.2 (ob.getD (newR p.1 p.2.A))).Ends = 0 then gR m r cl (some (pbR m p.2 (ob.getD (newR p.1 p.2.A)))) else gR m r (cl ++ [pbR m p.2 (ob.getD (newR p.1 p.2.A))]) none
/-- the document's flow -/
def flR (m : Img) : Fl :=
 ⟨gR m (annS (allS m) m.Funcs.length) [] none, m.Tables.map fun t => t.map (plR m), (List.range m.Funcs.length).map fun i => plR m (nth m.Funcs i).Start⟩
def opB (b : Bk) : Bk := { b with Ends := 0, To := 0 }
theorem modL_app (l : List Bk) (x : Bk) (g : Bk → Bk) : modL (l ++ [x]) g = l ++ [g x] := by
 unfold modL
 rw [List.length_append, List.length_singleton, Nat.add_sub_cancel, nth_eq _ _ (by simp)]
 simp
theorem nth_snocL (l : List Int) (x : Int) : nth (l ++ [x]) ((l ++ [x]).length - 1) = x := by
 rw [nth_eq _ _ (by simp)]; simp
theorem brN_st {K : Int} (h : brN K = true) : ¬ stN K = true := by
 unfold brN at h; unfold stN
 simp only [Bool.and_eq_true, decide_eq_true_eq, Bool.or_eq_true] at h ⊢
 omega
theorem endsN_st {K : Int} (h : stN K = true) : endsN K ≠ 0 := by unfold endsN; rw [if_pos h]; decide
theorem endsN_j {K : Int} (h : K = 22) : endsN K ≠ 0 := by subst h; decide
theorem endsN_br {K : Int} (h : brN K = true) : endsN K ≠ 0 := by
 unfold endsN
 rw [if_neg (brN_st h), h]
 split <;> decide
theorem pb_step {m : Img} {B : Int → Option Int} (hB : ∀ x, (B x).getD 0 = plR m x) (s : Sp) (bc : Bk) (h2 : bc.Ends = 2) (hn : endsN s.I.K ≠ 0 → isL m (s.A + s.Z) = true) :
  (isL m (s.A + s.Z) = true → (pbR m s (opB bc)).Ends ≠ 0 ∧ pbR m s (opB bc) = joinB B (pbS m s bc)) ∧
  (isL m (s.A + s.Z) = false → (pbR m s (opB bc)).Ends = 0 ∧ pbR m s (opB bc) = opB (pbS m s bc) ∧ (pbS m s bc).Ends = 2) := by
 unfold pbR pbS
 by_cases h1 : brN s.I.K = true
 ·rw [if_pos h1, if_pos h1]
  refine ⟨fun _ => ⟨by dsimp only; decide, ?_⟩, fun q => absurd (hn (endsN_br h1)) (by rw [q]; decide)⟩
  unfold joinB opB
  simp [hB]
 rw [if_neg h1, if_neg h1]
 by_cases h22 : s.I.K = 22
 ·rw [if_pos h22, if_pos h22]
  refine ⟨fun _ => ⟨by dsimp only; decide, ?_⟩, fun q => absurd (hn (endsN_j h22)) (by rw [q]; decide)⟩
  unfold joinB opB
  simp [hB]
 rw [if_neg h22, if_neg h22]
 by_cases hst : stN s.I.K = true
 ·rw [if_pos hst, if_pos hst]
  refine ⟨fun _ => ⟨by dsimp only; decide, ?_⟩, fun q => absurd (hn (endsN_st hst)) (by rw [q]; decide)⟩
  unfold joinB opB
  dsimp only
  rw [nth_snocL]
  simp
 rw [if_neg hst, if_neg hst]
 by_cases hl : isL m (s.A + s.Z) = true
 ·rw [if_pos hl]
  refine ⟨fun _ => ⟨by dsimp only; decide, ?_⟩, fun q => absurd hl (by rw [q]; decide)⟩
  unfold joinB opB
  dsimp only
  rw [nth_snocL, h2]
  simp [hB]
 ·rw [if_neg hl]
  exact ⟨fun q => absurd q hl, fun _ => ⟨rfl, rfl, h2⟩⟩
theorem gR_is {m : Img} {B : Int → Option Int} (hB : ∀ x, (B x).getD 0 = plR m x) {e : Int} (he : isL m e = true) : ∀ (l : List (Nat × Sp)) (a : Int), Chain a (l.map (·.2)) e → (∀ p ∈ l, endsN p.2.I.K ≠ 0 → isL m (p.2.A + p.2.Z) = true) → ∀ c : Cut,
  (isL m a = true → gR m l (c.bs.map (joinB B)) none = (l.foldl (fun c p => cutS m p.1 c p.2) c).bs.map (joinB B)) ∧
  (isL m a = false → ∀ pre bc, c.bs = pre ++ [bc] → bc.Ends = 2 → gR m l (pre.map (joinB B)) (some (opB bc)) = (l.foldl (fun c p => cutS m p.1 c p.2) c).bs.map (joinB B))
 | [], a, h, _, c => by
  simp only [List.map_nil, Chain] at h
  subst h
  exact ⟨fun _ => rfl, fun q => by rw [he] at q; cases q⟩
 | p :: r, a, h, hn, c => by
  simp only [List.map_cons, Chain] at h
  obtain ⟨e1, e2, e3⟩ := h
  have hnp := hn p (List.mem_cons_self ..)
  have ih := gR_is hB he r (a + p.2.Z) e3 (fun q hq => hn q (List.mem_cons_of_mem _ hq)) (cutS m p.1 c p.2)
  have key : ∀ (pre : List Bk) (bc : Bk), bc.Ends = 2 → (cutS m p.1 c p.2).bs = pre ++ [pbS m p.2 bc] → ∀ ob : Option Bk, ob.getD (newR p.1 p.2.A) = opB bc →
    gR m (p :: r) (pre.map (joinB B)) ob = (r.foldl (fun c p => cutS m p.1 c p.2) (cutS m p.1 c p.2)).bs.map (joinB B) := by
   intro pre bc h2 hbs ob hob
   obtain ⟨s1, s2⟩ := pb_step hB p.2 bc h2 hnp
   rw [e1] at s1 s2
   unfold gR
   rw [hob]
   cases hl : isL m (a + p.2.Z) with
   | true =>
    obtain ⟨q1, q2⟩ := s1 hl
    rw [if_neg q1, q2, ← ih.1 hl, hbs, List.map_append]
    rfl
   | false =>
    obtain ⟨q1, q2, q3⟩ := s2 hl
    rw [if_pos q1, q2]
    exact ih.2 hl pre _ hbs q3
  refine ⟨fun hl => ?_, fun hl pre bc hbs h2 => ?_⟩
  ·refine key c.bs (newB p.1 p.2.A) rfl ?_ none rfl
   unfold cutS
   rw [e1, if_pos hl]
   dsimp only
   rw [modL_app]
  ·refine key pre bc h2 ?_ (some (opB bc)) rfl
   unfold cutS
   rw [e1, if_neg (by rw [hl]; decide)]
   dsimp only
   rw [hbs, modL_app]
/-- The document's flow and that of flow.Recover are one. -/
theorem flR_is {m : Img} (h : Followed m) : flR m = recF m := by
 have hp := h.place
 have h0 : isL m 0 = true := by
  have hn : 0 < m.Funcs.length := by have := h.good.entry; omega
  exact isL_iff.2 (Or.inr (Or.inl ⟨0, hn, by rw [(h.good.func 0 hn).2.2.1]; rfl⟩))
 have hb := (gR_is (B := (cutF m m.Funcs.length).bm) hp (e := m.Text.length) h.isL_end (annS (allS m) m.Funcs.length) 0 h.chain (fun p hp2 he => h.isL_next hp2 he) ⟨[], fun _ => none⟩).1 h0
 rw [← cutF_is] at hb
 unfold flR recF
 rw [show gR m (annS (allS m) m.Funcs.length) [] none = _ from hb]
 congr 1
 ·exact List.map_congr_left fun t _ => List.map_congr_left fun a _ => (hp a).symm
 ·exact List.map_congr_left fun i hi => (h.firsts (List.mem_range.1 hi)).symm
end Go.Proofs.YtnekiooaobnndaaDoor
