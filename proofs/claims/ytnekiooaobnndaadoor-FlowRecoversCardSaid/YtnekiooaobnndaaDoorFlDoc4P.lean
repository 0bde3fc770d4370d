/-
 Rows that the document's RecoveredOf keeps: where blocks begin, and their places. No walk here.
 The block that the document's RecoveredOf is making, in memory; addresses of instructions one by one. No walk here.
-/
import Derived.Test.YtnekiooaobnndaaDoorFlDoc2
import Derived.Test.YtnekiooaobnndaaDoorFlRec9
set_option linter.unusedVariables false
set_option linter.unusedSimpArgs false
section
namespace Go.Proofs.YtnekiooaobnndaaDoor
open Go.RowKit BH
set_option maxRecDepth 100000
theorem setAt {α : Type} [Inhabited α] (l : List α) (i : Nat) (x : α) {j : Nat} (hj : j < l.length) : nth (l.set i x) j = if i = j then x else nth l j := by
 rw [nth_eq _ _ (by rw [List.length_set]; exact hj), List.getElem_set]
 split
 ·rfl
 ·rw [nth_eq _ _ hj]
/-- where blocks begin, as a row: the keys that have been put -/
def bgArr (ks : List Int) (n : Nat) : List Bool := (List.range n).map fun x : Nat => decide ((x : Int) ∈ ks)
theorem bgArr_len (ks : List Int) (n : Nat) : (bgArr ks n).length = n := by simp [bgArr]
theorem bgArr_at (ks : List Int) {n j : Nat} (h : j < n) : nth (bgArr ks n) j = decide ((j : Int) ∈ ks) := nthRange (fun x : Nat => decide ((x : Int) ∈ ks)) h
theorem bgArr_nil (n : Nat) : bgArr [] n = List.replicate n false := nthExt (by rw [bgArr_len, List.length_replicate]) (fun j hj => by
 rw [bgArr_len] at hj
 rw [bgArr_at _ hj, nth_eq _ _ (by rw [List.length_replicate]; exact hj), List.getElem_replicate]
 simp)
theorem bgArr_put (ks : List Int) {n a : Nat} (_h : a < n) : (bgArr ks n).set a true = bgArr (ks ++ [(a : Int)]) n := nthExt (by rw [List.length_set, bgArr_len, bgArr_len]) (fun j hj => by
 rw [List.length_set, bgArr_len] at hj
 rw [setAt _ _ _ (by rw [bgArr_len]; exact hj), bgArr_at _ hj, bgArr_at _ hj]
 by_cases q : a = j
 ·subst q; rw [if_pos rfl]; simp
 ·rw [if_neg q]
  have : ¬ (j : Int) = (a : Int) := by omega
  simp [this])
/-- the keys that have been put when all addresses below a have been seen -/
def KeysAt (m : Img) (a : Nat) (ks : List Int) : Prop :=
 ∀ x : Int, x ∈ ks ↔ x ∈ m.Tables.flatten ∨ (∃ i, i < m.Funcs.length ∧ x = (nth m.Funcs i).Start) ∨ ∃ p ∈ annS (allS m) m.Funcs.length, p.2.A < a ∧ x ∈ keysP p.2
theorem KeysAt.zero {m : Img} (hg : ImgGood m) (hs : Swept m) {ks : List Int} (h : ks = m.Tables.flatten ++ (List.range m.Funcs.length).map fun i => (nth m.Funcs i).Start) : KeysAt m 0 ks := by
 intro x
 rw [h, List.mem_append, List.mem_map]
 constructor
 ·rintro (q | ⟨i, hi, rfl⟩)
  ·exact Or.inl q
  ·exact Or.inr (Or.inl ⟨i, List.mem_range.1 hi, rfl⟩)
 ·rintro (q | ⟨i, hi, rfl⟩ | ⟨p, hp, h1, -⟩)
  ·exact Or.inl q
  ·exact Or.inr ⟨i, List.mem_range.2 hi, rfl⟩
  ·have := (ann_in hg hs hp).2.2.fine.x0
   omega
theorem KeysAt.skip {m : Img} {a : Nat} {ks : List Int} (h : KeysAt m a ks) (hn : ∀ p ∈ annS (allS m) m.Funcs.length, p.2.A ≠ a) : KeysAt m (a + 1) ks := by
 intro x
 rw [h x]
 constructor
 ·rintro (q | q | ⟨p, hp, h1, h2⟩)
  ·exact Or.inl q
  ·exact Or.inr (Or.inl q)
  ·exact Or.inr (Or.inr ⟨p, hp, by omega, h2⟩)
 ·rintro (q | q | ⟨p, hp, h1, h2⟩)
  ·exact Or.inl q
  ·exact Or.inr (Or.inl q)
  ·exact Or.inr (Or.inr ⟨p, hp, by have := hn p hp; omega, h2⟩)
theorem KeysAt.step {m : Img} (hg : ImgGood m) (hs : Swept m) {a : Nat} {ks ls : List Int} (h : KeysAt m a ks) {p : Nat × Sp} (hp : p ∈ annS (allS m) m.Funcs.length) (ha : p.2.A = a) (hl : ∀ x, x ∈ ls ↔ x ∈ keysP p.2) : KeysAt m (a + 1) (ks ++ ls) := by
 intro x
 rw [List.mem_append, h x, hl x]
 constructor
 ·rintro ((q | q | ⟨p', hp', h1, h2⟩) | q)
  ·exact Or.inl q
  ·exact Or.inr (Or.inl q)
  ·exact Or.inr (Or.inr ⟨p', hp', by omega, h2⟩)
  ·exact Or.inr (Or.inr ⟨p, hp, by omega, q⟩)
 ·rintro (q | q | ⟨p', hp', h1, h2⟩)
  ·exact Or.inl (Or.inl q)
  ·exact Or.inl (Or.inr (Or.inl q))
  ·by_cases e : p'.2.A = a
   ·rw [ann_uniq hg hs hp' hp (by omega)] at h2
    exact Or.inr h2
   ·exact Or.inl (Or.inr (Or.inr ⟨p', hp', by omega, h2⟩))
/-- all has been seen -/
theorem KeysAt.all {m : Img} (hg : ImgGood m) (hs : Swept m) {ks : List Int} (h : KeysAt m m.Text.length ks) (n : Nat) : bgArr ks n = (List.range n).map fun x : Nat => isL m x := by
 unfold bgArr
 refine List.map_congr_left fun x _ => ?_
 have : (x : Int) ∈ ks ↔ isL m x = true := by
  rw [h x, isL_iff]
  constructor
  ·rintro (q | q | ⟨p, hp, -, h2⟩)
   ·exact Or.inl q
   ·exact Or.inr (Or.inl q)
   ·exact Or.inr (Or.inr ⟨p, hp, h2⟩)
  ·rintro (q | q | ⟨p, hp, h2⟩)
   ·exact Or.inl q
   ·exact Or.inr (Or.inl q)
   ·exact Or.inr (Or.inr ⟨p, hp, by have := (ann_in hg hs hp).2.2.fine.x1; omega, h2⟩)
 cases e : isL m (x : Int) with
 | true => exact decide_eq_true (this.2 e)
 | false => exact decide_eq_false fun q => by rw [this.1 q] at e; cases e
/-- places of blocks, as a row: those below a -/
def plArr (m : Img) (a n : Nat) : List Int := (List.range n).map fun x : Nat => if x < a ∧ isL m x = true then (cntL m x : Int) else 0
theorem plArr_len (m : Img) (a n : Nat) : (plArr m a n).length = n := by simp [plArr]
theorem plArr_at (m : Img) (a : Nat) {n j : Nat} (h : j < n) : nth (plArr m a n) j = if j < a ∧ isL m j = true then (cntL m j : Int) else 0 := nthRange (fun x : Nat => if x < a ∧ isL m x = true then (cntL m x : Int) else 0) h
theorem plArr_nil (m : Img) (n : Nat) : plArr m 0 n = List.replicate n 0 := nthExt (by rw [plArr_len, List.length_replicate]) (fun j hj => by
 rw [plArr_len] at hj
 rw [plArr_at _ _ hj, nth_eq _ _ (by rw [List.length_replicate]; exact hj), List.getElem_replicate, if_neg (by omega)])
theorem plArr_put {m : Img} {a n : Nat} (_h : a < n) (hl : isL m a = true) : (plArr m a n).set a (cntL m a : Int) = plArr m (a + 1) n := nthExt (by rw [List.length_set, plArr_len, plArr_len]) (fun j hj => by
 rw [List.length_set, plArr_len] at hj
 rw [setAt _ _ _ (by rw [plArr_len]; exact hj), plArr_at _ _ hj, plArr_at _ _ hj]
 by_cases q : a = j
 ·subst q; rw [if_pos rfl, if_pos ⟨Nat.lt_succ_self _, hl⟩]
 ·rw [if_neg q]
  by_cases q2 : j < a ∧ isL m j = true
  ·rw [if_pos q2, if_pos ⟨by omega, q2.2⟩]
  ·rw [if_neg q2, if_neg (fun z => q2 ⟨by omega, z.2⟩)])
theorem plArr_skip {m : Img} {a n : Nat} (hl : isL m a = false) : plArr m a n = plArr m (a + 1) n := nthExt (by rw [plArr_len, plArr_len]) (fun j hj => by
 rw [plArr_len] at hj
 rw [plArr_at _ _ hj, plArr_at _ _ hj]
 by_cases q : a = j
 ·subst q; rw [if_neg (by omega), if_neg (by rw [hl]; simp)]
 ·by_cases q2 : j < a ∧ isL m j = true
  ·rw [if_pos q2, if_pos ⟨by omega, q2.2⟩]
  ·rw [if_neg q2, if_neg (fun z => q2 ⟨by omega, z.2⟩)])
theorem plArr_all (m : Img) {n j : Nat} (h : j < n) : nth (plArr m m.Text.length n) j = plR m j := by
 rw [plArr_at _ _ h]
 unfold plR
 by_cases q : j < m.Text.length ∧ isL m j = true
 ·rw [if_pos q, if_pos ⟨q.2, by omega, by omega⟩, Int.toNat_natCast]
 ·rw [if_neg q, if_neg (fun z => q ⟨by omega, z.1⟩)]
theorem cntL_le (m : Img) : ∀ n, cntL m n ≤ n
 | 0 => Nat.le_refl _
 | n + 1 => by
  have := cntL_le m n
  unfold cntL
  split <;> omega
theorem turnKeeps {c c' : Nat → Nat} {w w' : World} (h : Turn (fun _ => False) c w c' w') : Keeps w w' := ⟨h.only.os, h.only.tape, h.only.output, h.only.size, fun b hb => h.only.block b hb fun q => q⟩
/-- whose an address is -/
theorem ownR_neg {m : Img} {x : Int} (h : ownR m x < 0) : ∀ p ∈ annS (allS m) m.Funcs.length, p.2.A ≠ x := by
 intro p hp e
 have h1 := ownS_isSome hp
 rw [e] at h1
 unfold ownR at h
 cases q : ownS (allS m) m.Funcs.length x with
 | none => rw [q] at h1; cases h1
 | some v =>
  rw [q] at h
  obtain ⟨p', -, -, e2⟩ := ownS_some q
  have : (some v).getD (-1) = v := rfl
  rw [this] at h
  omega
theorem ownR_pos {m : Img} (hg : ImgGood m) (hs : Swept m) {x : Int} (h : ¬ ownR m x < 0) : ∃ p ∈ annS (allS m) m.Funcs.length, p.2.A = x ∧ ownR m x = (p.1 : Int) ∧ SpGood m.Text p.2 := by
 unfold ownR at h ⊢
 cases q : ownS (allS m) m.Funcs.length x with
 | none => rw [q] at h; exact absurd (by decide) h
 | some v =>
  obtain ⟨p, hp, e1, e2⟩ := ownS_some q
  exact ⟨p, hp, e1, e2, (ann_in hg hs hp).2.2⟩
theorem ownR_ge (m : Img) (x : Int) : -1 ≤ ownR m x ∧ (ownR m x = -1 ↔ ownS (allS m) m.Funcs.length x = none) := by
 unfold ownR
 cases q : ownS (allS m) m.Funcs.length x with
 | none => exact ⟨Int.le_refl _, ⟨fun _ => rfl, fun _ => rfl⟩⟩
 | some v =>
  obtain ⟨p, -, -, e2⟩ := ownS_some q
  have e : (some v).getD (-1) = v := rfl
  rw [e]
  exact ⟨by omega, ⟨fun z => (by omega), fun z => (by cases z)⟩⟩
theorem ownR_is {m : Img} {x f : Int} (hf : 0 ≤ f) : (ownS (allS m) m.Funcs.length x = some f) ↔ ownR m x = f := by
 unfold ownR
 cases q : ownS (allS m) m.Funcs.length x with
 | none =>
  have e : (none : Option Int).getD (-1) = -1 := rfl
  rw [e]
  exact ⟨fun z => (by cases z), fun z => (by omega)⟩
 | some v =>
  have e : (some v).getD (-1) = v := rfl
  rw [e]
  exact ⟨fun z => Option.some.inj z, fun z => by rw [z]⟩
end Go.Proofs.YtnekiooaobnndaaDoor
end
section
namespace Go.Proofs.YtnekiooaobnndaaDoor
open Go.RowKit BH
set_option maxHeartbeats 10000000
set_option maxRecDepth 100000
/-- the block that is being made: its cells in block g, its rows of the colours of block i -/
structure Cur (B : Nat) (c : Nat → Nat) (w : World) (g i : Nat) (r : Bv) (b : Bk) : Prop where
 blk : BlkC 12 c w g (.cells (cbv r).toArray 77)
 sc : Scal r b
 rows : RowsB B c w i r b
section
variable {B : Nat} {c c' : Nat → Nat} {w w' w7 : World} {g i : Nat} {r r' : Bv} {b b' : Bk} {I : Nat → Prop} {s7 : Sle}
theorem Cur.turn (h : Cur B c w g i r b) (t : Turn I c w c' w') (h0 : ¬ I 12) (h1 : ¬ I (16 + 3 * i)) (h2 : ¬ I (17 + 3 * i)) (h3 : ¬ I (18 + 3 * i)) : Cur B c' w' g i r b := ⟨h.blk.turn t h0, h.sc, h.rows.turn t h1 h2 h3⟩
theorem Cur.keep (h : Cur B c w g i r b) (k : Keeps w w') : Cur B c w' g i r b := h.turn (k.turn (fun _ => False) c) (fun q => q) (fun q => q) (fun q => q) (fun q => q)
theorem Cur.cell (h : Cur B c w g i r b) {q : Nat} {u : Value} (hu : (cbv r)[q]? = some u) : w.cell? ⟨g, q, none⟩ = some u := h.blk.1.cell (by rw [List.getElem?_toArray]; exact hu)
theorem Cur.put (h : Cur B c w g i r b) (q : Nat) (u : Value) (hr : cbv r' = (cbv r).set q u) (hs : Scal r' b') (hcv : r'.cv = r.cv) (hav : r'.av = r.av) (hlv : r'.lv = r.lv) (hbc : b'.Code = b.Code) (hba : b'.At = b.At) (hbl : b'.Lines = b.Lines) :
  Cur B c (w.setCell ⟨g, q, none⟩ u) g i r' b' ∧ Turn (fun z => z = 12) c w c (w.setCell ⟨g, q, none⟩ u) := by
 obtain ⟨h1, h2⟩ := h.blk.set q u
 refine ⟨⟨?_, hs, ?_⟩, h2⟩
 ·rw [hr]
  rw [show ((cbv r).set q u).toArray = (cbv r).toArray.setIfInBounds q u by simp]
  exact h1
 ·have hR := h.rows.turn h2 (by omega) (by omega) (by omega)
  unfold RowsB
  rw [hcv, hav, hlv, hbc, hba, hbl]
  exact hR
theorem Cur.setAt (h : Cur B c w g i r b) {x : Int} (ht : Turn (fun z => z = 17 + 3 * i) c w c' w7) (ho : OwnC (17 + 3 * i) c' w7 B 3 1 ci s7.v (b.At ++ [x])) :
  Cur B c' (w7.setCell ⟨g, 3, none⟩ (.slice s7.a s7.n s7.c)) g i { r with av := s7 } { b with At := b.At ++ [x] } ∧ Turn (fun z => z = 12 ∨ z = 17 + 3 * i) c w c' (w7.setCell ⟨g, 3, none⟩ (.slice s7.a s7.n s7.c)) := by
 obtain ⟨h1, h2⟩ := (h.blk.turn ht (by omega)).set 3 (.slice s7.a s7.n s7.c)
 have htt := (ht.mono (J := fun z => z = 12 ∨ z = 17 + 3 * i) fun z q => Or.inr q).trans (h2.mono fun z q => Or.inl q)
 exact ⟨⟨h1, h.sc, h.rows.1.turn htt (by omega), ho.turn h2 (by omega), h.rows.2.2.turn htt (by omega)⟩, htt⟩
theorem Cur.setLn (h : Cur B c w g i r b) {x : Int} (ht : Turn (fun z => z = 18 + 3 * i) c w c' w7) (ho : OwnC (18 + 3 * i) c' w7 B 3 1 ci s7.v (b.Lines ++ [x])) :
  Cur B c' (w7.setCell ⟨g, 13, none⟩ (.slice s7.a s7.n s7.c)) g i { r with lv := s7 } { b with Lines := b.Lines ++ [x] } ∧ Turn (fun z => z = 12 ∨ z = 18 + 3 * i) c w c' (w7.setCell ⟨g, 13, none⟩ (.slice s7.a s7.n s7.c)) := by
 obtain ⟨h1, h2⟩ := (h.blk.turn ht (by omega)).set 13 (.slice s7.a s7.n s7.c)
 have htt := (ht.mono (J := fun z => z = 12 ∨ z = 18 + 3 * i) fun z q => Or.inr q).trans (h2.mono fun z q => Or.inl q)
 exact ⟨⟨h1, h.sc, h.rows.1.turn htt (by omega), h.rows.2.1.turn htt (by omega), ho.turn h2 (by omega)⟩, htt⟩
theorem Cur.setCode (h : Cur B c w g i r b) {x : Ic} (ht : Turn (fun z => z = 16 + 3 * i) c w c' w7) (ho : OwnC (16 + 3 * i) c' w7 B 61 6 cic s7.v (b.Code ++ [x])) :
  Cur B c' (w7.setCell ⟨g, 2, none⟩ (.slice s7.a s7.n s7.c)) g i { r with cv := s7 } { b with Code := b.Code ++ [x] } ∧ Turn (fun z => z = 12 ∨ z = 16 + 3 * i) c w c' (w7.setCell ⟨g, 2, none⟩ (.slice s7.a s7.n s7.c)) := by
 obtain ⟨h1, h2⟩ := (h.blk.turn ht (by omega)).set 2 (.slice s7.a s7.n s7.c)
 have htt := (ht.mono (J := fun z => z = 12 ∨ z = 16 + 3 * i) fun z q => Or.inr q).trans (h2.mono fun z q => Or.inl q)
 exact ⟨⟨h1, h.sc, ho.turn h2 (by omega), h.rows.2.1.turn htt (by omega), h.rows.2.2.turn htt (by omega)⟩, htt⟩
/-- the block that has been made goes behind the others -/
theorem BlkS.pushB {vB : Value} {rs : List Bv} {bs : List Bk} (h : BlkS B c w vB rs bs) (hs : Scal r b) (hr : RowsB B c w bs.length r b) {wa : World} {v7 : Value} (ka : Keeps w wa) (o7 : Own w7 B 77 14 cbv v7 (rs ++ [r])) (g7 : wa.grownBy w7 vB.ownBlock) (f7 : ∀ b, v7.ownBlock = some b → vB.ownBlock = some b ∨ wa.heap.size ≤ b) :
  ∃ c', Turn (fun i => i = 10) c w c' w7 ∧ BlkS B c' w7 v7 (rs ++ [r]) (bs ++ [b]) := by
 obtain ⟨c', ht, ho⟩ := h.row.push ka o7 g7 f7
 refine ⟨c', ht, ho, by simp [h.len], fun i hi => ?_, fun i hi => ?_⟩
 ·rw [List.length_append, List.length_singleton] at hi
  rcases Nat.lt_or_ge i bs.length with q | q
  ·rw [nth_app_lt _ _ (by rw [h.len]; exact q), nth_app_lt _ _ q]; exact h.sc i q
  ·rw [nth_app_eq _ _ (by rw [h.len]; omega), nth_app_eq _ _ (by omega)]
   exact hs
 ·rw [List.length_append, List.length_singleton] at hi
  rcases Nat.lt_or_ge i bs.length with q | q
  ·rw [nth_app_lt _ _ (by rw [h.len]; exact q), nth_app_lt _ _ q]; exact (h.rows i q).turn ht (by omega) (by omega) (by omega)
  ·obtain rfl : i = bs.length := by omega
   rw [nth_app_eq _ _ h.len.symm, nth_app_eq _ _ rfl]
   exact hr.turn ht (by omega) (by omega) (by omega)
end
/-- the address of the k'th instruction; behind all: the end -/
def adr (l : List (Nat × Sp)) (e : Int) (k : Nat) : Int := if k < l.length then (nth l k).2.A else e
theorem chain_adr : ∀ {l : List (Nat × Sp)} {a e : Int}, Chain a (l.map (·.2)) e → adr l e 0 = a ∧ ∀ k, k < l.length → adr l e (k + 1) = (nth l k).2.A + (nth l k).2.Z
 | [], a, e, h => by
  simp only [List.map_nil, Chain] at h
  exact ⟨h.symm, fun k hk => absurd hk (Nat.not_lt_zero _)⟩
 | p :: r, a, e, h => by
  simp only [List.map_cons, Chain] at h
  obtain ⟨h1, h2, h3⟩ := h
  obtain ⟨i1, i2⟩ := chain_adr h3
  have hs : ∀ k, adr (p :: r) e (k + 1) = adr r e k := fun k => by
   unfold adr
   rw [List.length_cons]
   by_cases q : k < r.length
   ·rw [if_pos (by omega), if_pos q]; rfl
   ·rw [if_neg (by omega), if_neg q]
  refine ⟨?_, fun k hk => ?_⟩
  ·unfold adr
   rw [List.length_cons, if_pos (by omega)]
   exact h1
  ·rw [hs]
   cases k with
   | zero => rw [i1, ← h1]; rfl
   | succ k' =>
    rw [i2 k' (by rw [List.length_cons] at hk; omega)]
    rfl
/-- one instruction more -/
theorem gR_step {m : Img} {l : List (Nat × Sp)} {k : Nat} (h : k < l.length) (cl : List Bk) (ob : Option Bk) : gR m (l.drop k) cl ob = if (pbR m (nth l k).2 (ob.getD (newR (nth l k).1 (nth l k).2.A))).Ends = 0 then gR m (l.drop (k + 1)) cl (some (pbR m (nth l k).2 (ob.getD (newR (nth l k).1 (nth l k).2.A)))) else gR m (l.drop (k + 1)) (cl ++ [pbR m (nth l k).2 (ob.getD (newR (nth l k).1 (nth l k).2.A))]) none := by
 rw [drop_nth _ _ h]
 rfl
/-- a block that stays open is followed by an instruction -/
theorem open_next {m : Img} (h : Followed m) {k : Nat} (hk : k < (annS (allS m) m.Funcs.length).length) {b : Bk} (he : (pbR m (nth (annS (allS m) m.Funcs.length) k).2 b).Ends = 0) : k + 1 < (annS (allS m) m.Funcs.length).length := by
 rcases Nat.lt_or_ge (k + 1) (annS (allS m) m.Funcs.length).length with q | q
 ·exact q
 ·exfalso
  have hc := (chain_adr h.chain).2 k hk
  have e1 : adr (annS (allS m) m.Funcs.length) m.Text.length (k + 1) = m.Text.length := by unfold adr; rw [if_neg (by omega)]
  rw [e1] at hc
  have hl := h.isL_end
  unfold pbR at he
  split at he
  ·cases he
  ·split at he
   ·cases he
   ·split at he
    ·cases he
    ·split at he
     ·cases he
     ·rename_i hn
      rw [← hc] at hn
      exact hn hl
theorem Cur.cast {B : Nat} {c : Nat → Nat} {w : World} {g i : Nat} {r : Bv} {b b' : Bk} (h : Cur B c w g i r b) (e : b = b') : Cur B c w g i r b' := e ▸ h
theorem adr_at {l : List (Nat × Sp)} {e : Int} {k : Nat} (h : k < l.length) : adr l e k = (nth l k).2.A := if_pos h
theorem adr_lt {m : Img} (h : Followed m) {k : Nat} : ∀ {k' : Nat}, k < k' → k' ≤ (annS (allS m) m.Funcs.length).length → adr (annS (allS m) m.Funcs.length) m.Text.length k < adr (annS (allS m) m.Funcs.length) m.Text.length k'
 | 0, h1, _ => absurd h1 (Nat.not_lt_zero _)
 | k' + 1, h1, h2 => by
  have hs := (chain_adr h.chain).2 k' (by omega)
  have hz : 1 ≤ (nth (annS (allS m) m.Funcs.length) k').2.Z := (h.chain.mem _ (List.mem_map.2 ⟨_, nthMem (by omega), rfl⟩)).2.2
  have ha := adr_at (e := m.Text.length) (show k' < (annS (allS m) m.Funcs.length).length by omega)
  rcases Nat.lt_or_ge k k' with q | q
  ·have := adr_lt h q (by omega)
   omega
  ·obtain rfl : k = k' := by omega
   omega
theorem pbR_len (m : Img) (s : Sp) (b : Bk) : (pbR m s b).Code.length ≤ b.Code.length + 1 ∧ (pbR m s b).At.length ≤ b.At.length + 1 ∧ (pbR m s b).Lines.length ≤ b.Lines.length + 2 := by
 unfold pbR
 split
 ·simp
 ·split
  ·simp
  ·split
   ·simp
   ·split <;> simp
end Go.Proofs.YtnekiooaobnndaaDoor
end
