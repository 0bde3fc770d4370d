/-
Rows that the document's RecoveredOf keeps: where blocks beg
-/
import Derived.Test.YtgdamggkaklhjaaDoorFlDoc2
import Derived.Test.YtgdamggkaklhjaaDoorFlRec9
import Derived.Test.YtgdamggkaklhjaaDoorImgFault
set_option linter.all false
section
namespace Go.Proofs.YtgdamggkaklhjaaDoor
open Go.RowKit BH
set_option maxRecDepth 100000
theorem setAt {α : Type} [Inhabited α] (l : List α) (i : Nat) (x : α) {j : Nat} (hj : j < l.length) : nth (l.set i x) j = if i = j then x else nth l j := by
 rw [nth_eq _ _ (by rw [List.length_set]; exact hj), List.getElem_set]
 split
 ·rfl
 rw [nth_eq _ _ hj]
def bgArr (ks : List Int) (n : Nat) : List Bool := (List.range n).map fun x : Nat => decide ((x : Int) ∈ ks)
theorem bgArr_len (ks : List Int) (n : Nat) : (bgArr ks n).length = n := by simp [bgArr]
theorem bgArr_at (ks : List Int) {n j : Nat} (h : j < n) : nth (bgArr ks n) j = decide ((j : Int) ∈ ks) := nthRange (fun x : Nat => decide ((x : Int) ∈ ks)) h
theorem bgArr_nil (n : Nat) : bgArr [] n = List.replicate n false := nthExt (by rw [bgArr_len, List.length_replicate]) (fun j hj => by
 rw [bgArr_len] at hj
 rw [bgArr_at _ hj, nth_eq _ _ (by rw [List.length_replicate]; exact hj), List.getElem_replicate]
 simp)
theorem bgArr_put (ks : List Int) {n a : Nat} (_h : a < n) : (bgArr ks n).set a true = bgArr (ks ++ [(a : Int)]) n := nthExt (by rw [List.length_set, bgArr_len, bgArr_len]) (fun j hj => by
 rw [List.length_set, bgArr_len] at hj
 rw [setAt _ _ _ (by rw [bgArr_len]; exact hj), bgArr_at _ hj, bgArr_at _ hj]
 by_cases q : a = j
 ·subst q; rw [if_pos rfl]; simp
 rw [if_neg q]
 have : ¬ (j : Int) = (a : Int) := by omega
 simp [this])
def KeysAt (m : Img) (a : Nat) (ks : List Int) : Prop :=
 ∀ x : Int, x ∈ ks ↔ x ∈ m.Tables.flatten ∨ (∃ i, i < m.Funcs.length ∧ x = (nth m.Funcs i).Start) ∨ ∃ p ∈ annS (allS m) m.Funcs.length, p.2.A < a ∧ x ∈ keysP p.2
theorem KeysAt.zero {m : Img} (hg : ImgGood m) (hs : Swept m) {ks : List Int} (h : ks = m.Tables.flatten ++ (List.range m.Funcs.length).map fun i => (nth m.Funcs i).Start) : KeysAt m 0 ks := by
 intro x
 rw [h, List.mem_append, List.mem_map]
 constructor
 ·rintro (q | ⟨i, hi, rfl⟩)
  ·exact Or.inl q
  exact Or.inr (Or.inl ⟨i, List.mem_range.1 hi, rfl⟩)
 rintro (q | ⟨i, hi, rfl⟩ | ⟨p, hp, h1, -⟩)
 ·exact Or.inl q
 ·exact Or.inr ⟨i, List.mem_range.2 hi, rfl⟩
 have := (ann_in hg hs hp).2.2.fine.x0
 omega
theorem KeysAt.skip {m : Img} {a : Nat} {ks : List Int} (h : KeysAt m a ks) (hn : ∀ p ∈ annS (allS m) m.Funcs.length, p.2.A ≠ a) : KeysAt m (a + 1) ks := by
 intro x
 rw [h x]
 constructor
 ·rintro (q | q | ⟨p, hp, h1, h2⟩)
  ·exact Or.inl q
  ·exact Or.inr (Or.inl q)
  exact Or.inr (Or.inr ⟨p, hp, by omega, h2⟩)
 rintro (q | q | ⟨p, hp, h1, h2⟩)
 ·exact Or.inl q
 ·exact Or.inr (Or.inl q)
 exact Or.inr (Or.inr ⟨p, hp, by have := hn p hp; omega, h2⟩)
theorem KeysAt.step {m : Img} (hg : ImgGood m) (hs : Swept m) {a : Nat} {ks ls : List Int} (h : KeysAt m a ks) {p : Nat × Sp} (hp : p ∈ annS (allS m) m.Funcs.length) (ha : p.2.A = a) (hl : ∀ x, x ∈ ls ↔ x ∈ keysP p.2) : KeysAt m (a + 1) (ks ++ ls) := by
 intro x
 rw [List.mem_append, h x, hl x]
 constructor
 ·rintro ((q | q | ⟨p', H0, h1, h2⟩) | q)
  ·exact Or.inl q
  ·exact Or.inr (Or.inl q)
  ·exact Or.inr (Or.inr ⟨p', H0, by omega, h2⟩)
  exact Or.inr (Or.inr ⟨p, hp, by omega, q⟩)
 rintro (q | q | ⟨p', H0, h1, h2⟩)
 ·exact Or.inl (Or.inl q)
 ·exact Or.inl (Or.inr (Or.inl q))
 by_cases e : p'.2.A = a
 ·rw [ann_uniq hg hs H0 hp jo] at h2
  exact Or.inr h2
 exact Or.inl (Or.inr (Or.inr ⟨p', H0, by omega, h2⟩))
theorem KeysAt.all {m : Img} (hg : ImgGood m) (hs : Swept m) {ks : List Int} (h : KeysAt m m.Text.length ks) (n : Nat) : bgArr ks n = (List.range n).map fun x : Nat => isL m x := by
 unfold bgArr
 refine List.map_congr_left fun x _ => ?_
 have : (x : Int) ∈ ks ↔ isL m x = true := by
  rw [h x, isL_iff]
  constructor
  ·rintro (q | q | ⟨p, hp, -, h2⟩)
   ·exact Or.inl q
   ·exact Or.inr (Or.inl q)
   exact Or.inr (Or.inr ⟨p, hp, h2⟩)
  rintro (q | q | ⟨p, hp, h2⟩)
  ·exact Or.inl q
  ·exact Or.inr (Or.inl q)
  exact Or.inr (Or.inr ⟨p, hp, by have := (ann_in hg hs hp).2.2.fine.x1; omega, h2⟩)
 cases e : isL m (x : Int) with
 | true => exact decide_eq_true (this.2 e)
 | false => exact decide_eq_false fun q => by rw [this.1 q] at e; cases e
def plArr (m : Img) (a n : Nat) : List Int := (List.range n).map fun x : Nat => if x < a ∧ isL m x = true then (cntL m x : Int) else 0
theorem plArr_len (m : Img) (a n : Nat) : (plArr m a n).length = n := by simp [plArr]
theorem plArr_at (m : Img) (a : Nat) {n j : Nat} (h : j < n) : nth (plArr m a n) j = if j < a ∧ isL m j = true then (cntL m j : Int) else 0 := nthRange (fun x : Nat => if x < a ∧ isL m x = true then (cntL m x : Int) else 0) h
theorem plArr_nil (m : Img) (n : Nat) : plArr m 0 n = List.replicate n 0 := nthExt (by rw [plArr_len, List.length_replicate]) (fun j hj => by
 rw [plArr_len] at hj
 rw [plArr_at _ _ hj, nth_eq _ _ (by rw [List.length_replicate]; exact hj), List.getElem_replicate, if_neg jo])
theorem plArr_put {m : Img} {a n : Nat} (_h : a < n) (hl : isL m a = true) : (plArr m a n).set a (cntL m a : Int) = plArr m (a + 1) n := nthExt (by rw [List.length_set, plArr_len, plArr_len]) (fun j hj => by
 rw [List.length_set, plArr_len] at hj
 rw [setAt _ _ _ (by rw [plArr_len]; exact hj), plArr_at _ _ hj, plArr_at _ _ hj]
 by_cases q : a = j
 ·subst q; rw [if_pos rfl, if_pos ⟨Nat.lt_succ_self _, hl⟩]
 rw [if_neg q]
 by_cases q2 : j < a ∧ isL m j = true
 ·rw [if_pos q2, if_pos ⟨by omega, q2.2⟩]
 rw [if_neg q2, if_neg (fun z => q2 ⟨by omega, z.2⟩)])
theorem plArr_skip {m : Img} {a n : Nat} (hl : isL m a = false) : plArr m a n = plArr m (a + 1) n := nthExt (by rw [plArr_len, plArr_len]) (fun j hj => by
 rw [plArr_len] at hj
 rw [plArr_at _ _ hj, plArr_at _ _ hj]
 by_cases q : a = j
 ·subst q; rw [if_neg jo, if_neg (by rw [hl]; simp)]
 by_cases q2 : j < a ∧ isL m j = true
 ·rw [if_pos q2, if_pos ⟨by omega, q2.2⟩]
 rw [if_neg q2, if_neg (fun z => q2 ⟨by omega, z.2⟩)])
theorem plArr_all (m : Img) {n j : Nat} (h : j < n) : nth (plArr m m.Text.length n) j = plR m j := by
 rw [plArr_at _ _ h]
 unfold plR
 by_cases q : j < m.Text.length ∧ isL m j = true
 ·rw [if_pos q, if_pos ⟨q.2, by omega, by omega⟩, Int.toNat_natCast]
 rw [if_neg q, if_neg (fun z => q ⟨by omega, z.1⟩)]
theorem cntL_le (m : Img) : ∀ n, cntL m n ≤ n
 | 0 => Nat.le_refl _
 | n + 1 => by have := cntL_le m n; unfold cntL; split <;> omega
theorem turnKeeps {c c' : Nat → Nat} {w w' : World} (h : Turn (fun _ => False) c w c' w') : Keeps w w' := ⟨h.only.os, h.only.tape, h.only.output, h.only.size, fun b hb => h.only.block b hb fun q => q⟩
theorem ownR_neg {m : Img} {x : Int} (h : ownR m x < 0) : ∀ p ∈ annS (allS m) m.Funcs.length, p.2.A ≠ x := by
 intro p hp e
 have h1 := ownS_isSome hp
 rw [e] at h1
 unfold ownR at h
 cases q : ownS (allS m) m.Funcs.length x with
 | none => rw [q] at h1; cases h1
 | some v =>
  rw [q] at h
  obtain ⟨p', -, -, e2⟩ := ownS_some q
  have : (some v).getD (-1) = v := rfl
  rw [this] at h
  omega
theorem ownR_pos {m : Img} (hg : ImgGood m) (hs : Swept m) {x : Int} (h : ¬ ownR m x < 0) : ∃ p ∈ annS (allS m) m.Funcs.length, p.2.A = x ∧ ownR m x = (p.1 : Int) ∧ SpGood m.Text p.2 := by
 unfold ownR at h ⊢
 cases q : ownS (allS m) m.Funcs.length x with
 | none => rw [q] at h; exact absurd jd h
 | some v =>
  obtain ⟨p, hp, e1, e2⟩ := ownS_some q
  exact ⟨p, hp, e1, e2, (ann_in hg hs hp).2.2⟩
theorem ownR_ge (m : Img) (x : Int) : -1 ≤ ownR m x ∧ (ownR m x = -1 ↔ ownS (allS m) m.Funcs.length x = none) := by
 unfold ownR
 cases q : ownS (allS m) m.Funcs.length x with
 | none => exact ⟨Int.le_refl _, ⟨fun _ => rfl, fun _ => rfl⟩⟩
 | some v =>
  obtain ⟨p, -, -, e2⟩ := ownS_some q
  have e : (some v).getD (-1) = v := rfl
  rw [e]
  exact ⟨by omega, ⟨fun z => jo, fun z => (by cases z)⟩⟩
theorem ownR_is {m : Img} {x f : Int} (hf : 0 ≤ f) : (ownS (allS m) m.Funcs.length x = some f) ↔ ownR m x = f := by
 unfold ownR
 cases q : ownS (allS m) m.Funcs.length x with
 | none =>
  have e : (none : Option Int).getD (-1) = -1 := rfl
  rw [e]
  exact ⟨fun z => (by cases z), fun z => jo⟩
 | some v =>
  have e : (some v).getD (-1) = v := rfl
  rw [e]
  exact ⟨fun z => Option.some.inj z, fun z => by rw [z]⟩
set_option maxHeartbeats 10000000
structure Cur (B : Nat) (c : Nat → Nat) (w : World) (g i : Nat) (r : Bv) (b : Bk) : Prop where
 blk : BlkC 12 c w g (.cells (cbv r).toArray 92)
 sc : Scal r b
 rows : RowsB B c w i r b
section
variable {B : Nat} {c c' : Nat → Nat} {w w' w7 : World} {g i : Nat} {r r' : Bv} {b b' : Bk} {I : Nat → Prop} {s7 : Sle}
theorem Cur.turn (h : Cur B c w g i r b) (t : Turn I c w c' w') (h0 : ¬ I 12) (h1 : ¬ I (16 + 3 * i)) (h2 : ¬ I (17 + 3 * i)) (h3 : ¬ I (18 + 3 * i)) : Cur B c' w' g i r b := ⟨h.blk.turn t h0, h.sc, h.rows.turn t h1 h2 h3⟩
theorem Cur.keep (h : Cur B c w g i r b) (k : Keeps w w') : Cur B c w' g i r b := h.turn (k.turn (fun _ => False) c) (fun q => q) (fun q => q) (fun q => q) (fun q => q)
theorem Cur.cell (h : Cur B c w g i r b) {q : Nat} {u : Value} (hu : (cbv r)[q]? = some u) : w.cell? ⟨g, q, none⟩ = some u := h.blk.1.cell (by rw [List.getElem?_toArray]; exact hu)
theorem Cur.put (h : Cur B c w g i r b) (q : Nat) (u : Value) (hr : cbv r' = (cbv r).set q u) (hs : Scal r' b') (hcv : r'.cv = r.cv) (hav : r'.av = r.av) (hlv : r'.lv = r.lv) (hbc : b'.Code = b.Code) (hba : b'.At = b.At) (hbl : b'.Lines = b.Lines) :
  Cur B c (w.setCell ⟨g, q, none⟩ u) g i r' b' ∧ Turn (fun z => z = 12) c w c (w.setCell ⟨g, q, none⟩ u) := by
 obtain ⟨h1, h2⟩ := h.blk.set q u
 refine ⟨⟨?_, hs, ?_⟩, h2⟩
 ·rw [hr]
  rw [show ((cbv r).set q u).toArray = (cbv r).toArray.setIfInBounds q u by simp]
  exact h1
 have hR := h.rows.turn h2 jo jo jo
 unfold RowsB
 rw [hcv, hav, hlv, hbc, hba, hbl]
 exact hR
theorem Cur.setAt (h : Cur B c w g i r b) {x : Int} (ht : Turn (fun z => z = 17 + 3 * i) c w c' w7) (ho : OwnC (17 + 3 * i) c' w7 B 3 1 ci s7.v (b.At ++ [x])) :
  Cur B c' (w7.setCell ⟨g, 3, none⟩ (.slice s7.a s7.n s7.c)) g i { r with av := s7 } { b with At := b.At ++ [x] } ∧ Turn (fun z => z = 12 ∨ z = 17 + 3 * i) c w c' (w7.setCell ⟨g, 3, none⟩ (.slice s7.a s7.n s7.c)) := by
 obtain ⟨h1, h2⟩ := (h.blk.turn ht jo).set 3 (.slice s7.a s7.n s7.c)
 have H0 := (ht.mono (J := fun z => z = 12 ∨ z = 17 + 3 * i) fun z q => Or.inr q).trans (h2.mono fun z q => Or.inl q)
 exact ⟨⟨h1, h.sc, h.rows.1.turn H0 jo, ho.turn h2 jo, h.rows.2.2.turn H0 jo⟩, H0⟩
theorem Cur.setLn (h : Cur B c w g i r b) {x : Int} (ht : Turn (fun z => z = 18 + 3 * i) c w c' w7) (ho : OwnC (18 + 3 * i) c' w7 B 3 1 ci s7.v (b.Lines ++ [x])) :
  Cur B c' (w7.setCell ⟨g, 13, none⟩ (.slice s7.a s7.n s7.c)) g i { r with lv := s7 } { b with Lines := b.Lines ++ [x] } ∧ Turn (fun z => z = 12 ∨ z = 18 + 3 * i) c w c' (w7.setCell ⟨g, 13, none⟩ (.slice s7.a s7.n s7.c)) := by
 obtain ⟨h1, h2⟩ := (h.blk.turn ht jo).set 13 (.slice s7.a s7.n s7.c)
 have H0 := (ht.mono (J := fun z => z = 12 ∨ z = 18 + 3 * i) fun z q => Or.inr q).trans (h2.mono fun z q => Or.inl q)
 exact ⟨⟨h1, h.sc, h.rows.1.turn H0 jo, h.rows.2.1.turn H0 jo, ho.turn h2 jo⟩, H0⟩
theorem Cur.setCode (h : Cur B c w g i r b) {x : Ic} (ht : Turn (fun z => z = 16 + 3 * i) c w c' w7) (ho : OwnC (16 + 3 * i) c' w7 B 64 6 cic s7.v (b.Code ++ [x])) :
  Cur B c' (w7.setCell ⟨g, 2, none⟩ (.slice s7.a s7.n s7.c)) g i { r with cv := s7 } { b with Code := b.Code ++ [x] } ∧ Turn (fun z => z = 12 ∨ z = 16 + 3 * i) c w c' (w7.setCell ⟨g, 2, none⟩ (.slice s7.a s7.n s7.c)) := by
 obtain ⟨h1, h2⟩ := (h.blk.turn ht jo).set 2 (.slice s7.a s7.n s7.c)
 have H0 := (ht.mono (J := fun z => z = 12 ∨ z = 16 + 3 * i) fun z q => Or.inr q).trans (h2.mono fun z q => Or.inl q)
 exact ⟨⟨h1, h.sc, ho.turn h2 jo, h.rows.2.1.turn H0 jo, h.rows.2.2.turn H0 jo⟩, H0⟩
theorem BlkS.pushB {vB : Value} {rs : List Bv} {bs : List Bk} (h : BlkS B c w vB rs bs) (hs : Scal r b) (hr : RowsB B c w bs.length r b) {wa : World} {v7 : Value} (ka : Keeps w wa) (o7 : Own w7 B 92 14 cbv v7 (rs ++ [r])) (g7 : wa.grownBy w7 vB.ownBlock) (f7 : ∀ b, v7.ownBlock = some b → vB.ownBlock = some b ∨ wa.heap.size ≤ b) :
  ∃ c', Turn (fun i => i = 10) c w c' w7 ∧ BlkS B c' w7 v7 (rs ++ [r]) (bs ++ [b]) := by
 obtain ⟨c', ht, ho⟩ := h.row.push ka o7 g7 f7
 refine ⟨c', ht, ho, by simp [h.len], fun i hi => ?_, fun i hi => ?_⟩
 ·rw [List.length_append, List.length_singleton] at hi
  rcases Nat.lt_or_ge i bs.length with q | q
  ·rw [nth_app_lt _ _ (by rw [h.len]; exact q), nth_app_lt _ _ q]; exact h.sc i q
  rw [nth_app_eq _ _ (by rw [h.len]; omega), nth_app_eq _ _ jo]
  exact hs
 rw [List.length_append, List.length_singleton] at hi
 rcases Nat.lt_or_ge i bs.length with q | q
 ·rw [nth_app_lt _ _ (by rw [h.len]; exact q), nth_app_lt _ _ q]; exact (h.rows i q).turn ht jo jo jo
 obtain rfl : i = bs.length := by omega
 rw [nth_app_eq _ _ h.len.symm, nth_app_eq _ _ rfl]
 exact hr.turn ht jo jo jo
end
def adr (l : List (Nat × Sp)) (e : Int) (k : Nat) : Int := if k < l.length then (nth l k).2.A else e
theorem chain_adr : ∀ {l : List (Nat × Sp)} {a e : Int}, Chain a (l.map (·.2)) e → adr l e 0 = a ∧ ∀ k, k < l.length → adr l e (k + 1) = (nth l k).2.A + (nth l k).2.Z
 | [], a, e, h => by simp only [List.map_nil, Chain] at h; exact ⟨h.symm, fun k hk => absurd hk (Nat.not_lt_zero _)⟩
 | p :: r, a, e, h => by
  simp only [List.map_cons, Chain] at h
  obtain ⟨h1, h2, h3⟩ := h
  obtain ⟨i1, i2⟩ := chain_adr h3
  have hs : ∀ k, adr (p :: r) e (k + 1) = adr r e k := fun k => by
   unfold adr
   rw [List.length_cons]
   by_cases q : k < r.length
   ·rw [if_pos jo, if_pos q]; rfl
   rw [if_neg jo, if_neg q]
  refine ⟨?_, fun k hk => ?_⟩
  ·unfold adr
   rw [List.length_cons, if_pos jo]
   exact h1
  rw [hs]
  cases k with
  | zero => rw [i1, ← h1]; rfl
  | succ k' =>
   rw [i2 k' (by rw [List.length_cons] at hk; omega)]
   rfl
theorem gR_step {m : Img} {l : List (Nat × Sp)} {k : Nat} (h : k < l.length) (cl : List Bk) (ob : Option Bk) : gR m (l.drop k) cl ob = if (pbR m (nth l k).2 (ob.getD (newR (nth l k).1 (nth l k).2.A))).Ends = 0 then gR m (l.drop (k + 1)) cl (some (pbR m (nth l k).2 (ob.getD (newR (nth l k).1 (nth l k).2.A)))) else gR m (l.drop (k + 1)) (cl ++ [pbR m (nth l k).2 (ob.getD (newR (nth l k).1 (nth l k).2.A))]) none := by
 rw [drop_nth _ _ h]
 rfl
theorem open_next {m : Img} (h : Followed m) {k : Nat} (hk : k < (annS (allS m) m.Funcs.length).length) {b : Bk} (he : (pbR m (nth (annS (allS m) m.Funcs.length) k).2 b).Ends = 0) : k + 1 < (annS (allS m) m.Funcs.length).length := by
 rcases Nat.lt_or_ge (k + 1) (annS (allS m) m.Funcs.length).length with q | q
 ·exact q
 exfalso
 have hc := (chain_adr h.chain).2 k hk
 have e1 : adr (annS (allS m) m.Funcs.length) m.Text.length (k + 1) = m.Text.length := by unfold adr; rw [if_neg jo]
 rw [e1] at hc
 have hl := h.isL_end
 unfold pbR at he
 split at he
 ·cases he
 split at he
 ·cases he
 split at he
 ·cases he
 split at he
 ·cases he
 rename_i hn
 rw [← hc] at hn
 exact hn hl
theorem Cur.cast {B : Nat} {c : Nat → Nat} {w : World} {g i : Nat} {r : Bv} {b b' : Bk} (h : Cur B c w g i r b) (e : b = b') : Cur B c w g i r b' := e ▸ h
theorem adr_at {l : List (Nat × Sp)} {e : Int} {k : Nat} (h : k < l.length) : adr l e k = (nth l k).2.A := if_pos h
theorem adr_lt {m : Img} (h : Followed m) {k : Nat} : ∀ {k' : Nat}, k < k' → k' ≤ (annS (allS m) m.Funcs.length).length → adr (annS (allS m) m.Funcs.length) m.Text.length k < adr (annS (allS m) m.Funcs.length) m.Text.length k'
 | 0, h1, _ => absurd h1 (Nat.not_lt_zero _)
 | k' + 1, h1, h2 => by
  have hs := (chain_adr h.chain).2 k' jo
  have hz : 1 ≤ (nth (annS (allS m) m.Funcs.length) k').2.Z := (h.chain.mem _ (List.mem_map.2 ⟨_, nthMem jo, rfl⟩)).2.2
  have ha := adr_at (e := m.Text.length) (show k' < (annS (allS m) m.Funcs.length).length by omega)
  rcases Nat.lt_or_ge k k' with q | q
  ·have := adr_lt h q jo
   omega
  obtain rfl : k = k' := by omega
  omega
theorem pbR_len (m : Img) (s : Sp) (b : Bk) : (pbR m s b).Code.length ≤ b.Code.length + 1 ∧ (pbR m s b).At.length ≤ b.At.length + 1 ∧ (pbR m s b).Lines.length ≤ b.Lines.length + 2 := by
 unfold pbR
 split
 ·simp
 split
 ·simp
 split
 ·simp
 split <;> simp
set_option maxHeartbeats 1000000000
section
variable {w : World} {g : Nat} {T : TypeId} {rF rS rE rT rL lK lD lA lB lN : Int} {lLg : Bool} {ca aa la : Option Addr} {cn cc0 an ac ln lc : Nat}
theorem load_blk (hB : Blk w g (.cells (cbv ⟨rF, rS, ⟨ca, cn, cc0⟩, ⟨aa, an, ac⟩, ⟨lK, lD, lA, lB, lN, lLg⟩, rE, rT, rL, ⟨la, ln, lc⟩⟩).toArray T)) : (Instr.loadAt 92 (.pointer (some ⟨g, 0, none⟩))).run Tryd.prog w = .ok (.agg #[.int .i64 rF, .int .i64 rS, .slice ca cn cc0, .slice aa an ac, .int .i64 lK, .int .i64 lD, .int .i64 lA, .int .i64 lB, .int .i64 lN, .bool lLg, .int .i64 rE, .int .i64 rT, .int .i64 rL, .slice la ln lc]) w := by
 have c0 := jc w g 0 rF (hB.cell rfl)
 have c1 := jc w g 1 rS (hB.cell rfl)
 have c2 := jv w g 2 (.slice ca cn cc0) (hB.cell rfl)
 have c3 := jv w g 3 (.slice aa an ac) (hB.cell rfl)
 have c4 := jc w g 4 lK (hB.cell rfl)
 have c5 := jc w g 5 lD (hB.cell rfl)
 have c6 := jc w g 6 lA (hB.cell rfl)
 have c7 := jc w g 7 lB (hB.cell rfl)
 have c8 := jc w g 8 lN (hB.cell rfl)
 have c9 := jv w g 9 (.bool lLg) (hB.cell rfl)
 have H0 := jc w g 10 rE (hB.cell rfl)
 have H1 := jc w g 11 rT (hB.cell rfl)
 have H2 := jc w g 12 rL (hB.cell rfl)
 have H3 := jv w g 13 (.slice la ln lc) (hB.cell rfl)
 simp [go_sem, Instr.loadAt, c0, c1, c2, c3, c4, c5, c6, c7, c8, c9, H0, H1, H2, H3]
theorem wpList_loadBlk {ops : Array Oper} {Q : Exit → Act → World → Prop} {a : Act} {rest : List Oper} {o : Oper} (hg : o.guard = none) (x : Operand) (hop : o.op = Op.load 92 x) (hx : a.eval x = .pointer (some ⟨g, 0, none⟩)) (hB : Blk w g (.cells (cbv ⟨rF, rS, ⟨ca, cn, cc0⟩, ⟨aa, an, ac⟩, ⟨lK, lD, lA, lB, lN, lLg⟩, rE, rT, rL, ⟨la, ln, lc⟩⟩).toArray T))
  (hK : wpList Tryd.prog ops Q rest (a.put o.dst (.agg #[.int .i64 rF, .int .i64 rS, .slice ca cn cc0, .slice aa an ac, .int .i64 lK, .int .i64 lD, .int .i64 lA, .int .i64 lB, .int .i64 lN, .bool lLg, .int .i64 rE, .int .i64 rT, .int .i64 rL, .slice la ln lc])) w) : wpList Tryd.prog ops Q (o :: rest) a w := by
 refine wpList_plain hg fun K' hK' => ?_
 have H0 := load_blk hB
 unfold Oper.wp
 simp [execOp, hop, hx, H0, Result.andThen]
 exact hK' _ _ hK
theorem wpList_makeBlk {ops : Array Oper} {Q : Exit → Act → World → Prop} {a : Act} {rest : List Oper} {o : Oper} (hg : o.guard = none) (x : Tmp) (hop : o.op = Op.buildSlice 43 1 #[(0, .tmp x)]) (hx : a.eval (.tmp x) = .agg #[.int .i64 rF, .int .i64 rS, .slice ca cn cc0, .slice aa an ac, .int .i64 lK, .int .i64 lD, .int .i64 lA, .int .i64 lB, .int .i64 lN, .bool lLg, .int .i64 rE, .int .i64 rT, .int .i64 rL, .slice la ln lc])
  (hK : wpList Tryd.prog ops Q rest (a.put o.dst (.slice (some ⟨w.heap.size, 0, none⟩) 1 1)) (w.alloc (.cells #[.int .i64 rF, .int .i64 rS, .slice ca cn cc0, .slice aa an ac, .int .i64 lK, .int .i64 lD, .int .i64 lA, .int .i64 lB, .int .i64 lN, .bool lLg, .int .i64 rE, .int .i64 rT, .int .i64 rL, .slice la ln lc] 92))) : wpList Tryd.prog ops Q (o :: rest) a w := by
 refine wpList_plain hg fun K' hK' => ?_
 have H0 : a.tmps[x]?.getD undef = .agg #[.int .i64 rF, .int .i64 rS, .slice ca cn cc0, .slice aa an ac, .int .i64 lK, .int .i64 lD, .int .i64 lA, .int .i64 lB, .int .i64 lN, .bool lLg, .int .i64 rE, .int .i64 rT, .int .i64 rL, .slice la ln lc] := by simpa [Act.eval] using hx
 unfold Oper.wp
 simp [execOp, hop, H0, Result.andThen, go_sem]
 exact hK' _ _ hK
theorem run_loadIns {u0 u1 u2 u3 u4 u5 : Value} (hB : Blk w g (.cells #[u0, u1, u2, u3, u4, u5] T)) : (Instr.loadAt 64 (.pointer (some ⟨g, 0, none⟩))).run Tryd.prog w = .ok (.agg #[u0, u1, u2, u3, u4, u5]) w := by
 have c0 : w.cell? ⟨g, 0, none⟩ = some u0 := hB.cell rfl
 have c1 : w.cell? ⟨g, 1, none⟩ = some u1 := hB.cell rfl
 have c2 : w.cell? ⟨g, 2, none⟩ = some u2 := hB.cell rfl
 have c3 : w.cell? ⟨g, 3, none⟩ = some u3 := hB.cell rfl
 have c4 : w.cell? ⟨g, 4, none⟩ = some u4 := hB.cell rfl
 have c5 : w.cell? ⟨g, 5, none⟩ = some u5 := hB.cell rfl
 simp [go_sem, Instr.loadAt, c0, c1, c2, c3, c4, c5]
theorem wpList_loadIns {u0 u1 u2 u3 u4 u5 : Value} {ops : Array Oper} {Q : Exit → Act → World → Prop} {a : Act} {rest : List Oper} {o : Oper} (hg : o.guard = none) (x : Operand) (hop : o.op = Op.load 64 x) (hx : a.eval x = .pointer (some ⟨g, 0, none⟩)) (hB : Blk w g (.cells #[u0, u1, u2, u3, u4, u5] T))
  (hK : wpList Tryd.prog ops Q rest (a.put o.dst (.agg #[u0, u1, u2, u3, u4, u5])) w) : wpList Tryd.prog ops Q (o :: rest) a w := by
 refine wpList_plain hg fun K' hK' => ?_
 have H0 := run_loadIns hB
 unfold Oper.wp
 simp [execOp, hop, hx, H0, Result.andThen]
 exact hK' _ _ hK
theorem wpList_makeIns {u0 u1 u2 u3 u4 u5 : Value} {ops : Array Oper} {Q : Exit → Act → World → Prop} {a : Act} {rest : List Oper} {o : Oper} (hg : o.guard = none) (x : Tmp) (hop : o.op = Op.buildSlice 90 1 #[(0, .tmp x)]) (hx : a.eval (.tmp x) = .agg #[u0, u1, u2, u3, u4, u5])
  (hK : wpList Tryd.prog ops Q rest (a.put o.dst (.slice (some ⟨w.heap.size, 0, none⟩) 1 1)) (w.alloc (.cells #[u0, u1, u2, u3, u4, u5] 64))) : wpList Tryd.prog ops Q (o :: rest) a w := by
 refine wpList_plain hg fun K' hK' => ?_
 have H0 : a.tmps[x]?.getD undef = .agg #[u0, u1, u2, u3, u4, u5] := by simpa [Act.eval] using hx
 unfold Oper.wp
 simp [execOp, hop, H0, Result.andThen, go_sem]
 exact hK' _ _ hK
theorem run_loadImg {u0 u1 u2 u3 u4 u5 : Value} (hB : Blk w g (.cells #[u0, u1, u2, u3, u4, u5] T)) : (Instr.loadAt 28 (.pointer (some ⟨g, 0, none⟩))).run Tryd.prog w = .ok (.agg #[u0, u1, u2, u3, u4, u5]) w := by
 have c0 : w.cell? ⟨g, 0, none⟩ = some u0 := hB.cell rfl
 have c1 : w.cell? ⟨g, 1, none⟩ = some u1 := hB.cell rfl
 have c2 : w.cell? ⟨g, 2, none⟩ = some u2 := hB.cell rfl
 have c3 : w.cell? ⟨g, 3, none⟩ = some u3 := hB.cell rfl
 have c4 : w.cell? ⟨g, 4, none⟩ = some u4 := hB.cell rfl
 have c5 : w.cell? ⟨g, 5, none⟩ = some u5 := hB.cell rfl
 simp [go_sem, Instr.loadAt, c0, c1, c2, c3, c4, c5]
theorem wpList_loadImg {u0 u1 u2 u3 u4 u5 : Value} {ops : Array Oper} {Q : Exit → Act → World → Prop} {a : Act} {rest : List Oper} {o : Oper} (hg : o.guard = none) (x : Operand) (hop : o.op = Op.load 28 x) (hx : a.eval x = .pointer (some ⟨g, 0, none⟩)) (hB : Blk w g (.cells #[u0, u1, u2, u3, u4, u5] T))
  (hK : wpList Tryd.prog ops Q rest (a.put o.dst (.agg #[u0, u1, u2, u3, u4, u5])) w) : wpList Tryd.prog ops Q (o :: rest) a w := by
 refine wpList_plain hg fun K' hK' => ?_
 have H0 := run_loadImg hB
 unfold Oper.wp
 simp [execOp, hop, hx, H0, Result.andThen]
 exact hK' _ _ hK
end
theorem recRef_any {v : Value} {m : Img} {w : World} (hm : ImgAt w v m) : Calls Tryd.prog 16 #[v] w (FlAns m w) := by
 have SV := hm
 obtain ⟨v0, v1, v2, v3, v4, rfl, i0, i1, i2, i3, i4⟩ := hm
 obtain ⟨x0, Kj, rfl⟩ := Arr.form i0
 obtain ⟨x1, KQ, rfl⟩ := Arr.form i1
 obtain ⟨tv, SW, Uu⟩ := i2
 obtain ⟨x2, KR, rfl⟩ := Arr.form SW
 obtain ⟨x3, Mj, rfl⟩ := Arr.form i3
 obtain ⟨x4, Mk, rfl⟩ := Arr.form i4
 obtain ⟨v0, VA⟩ : ∃ z : Value, z = .slice x0 m.Text.length Kj := ⟨_, rfl⟩
 obtain ⟨v1, VB⟩ : ∃ z : Value, z = .slice x1 m.Funcs.length KQ := ⟨_, rfl⟩
 obtain ⟨v2, VC⟩ : ∃ z : Value, z = .slice x2 m.Tables.length KR := ⟨_, rfl⟩
 obtain ⟨TL, SX⟩ := jE (m.Text.length)
 obtain ⟨NF, SY⟩ := jE (m.Funcs.length)
 obtain ⟨NT, Pb⟩ := jE (m.Tables.length)
 obtain ⟨Pc, R8, Uv, Q4⟩ := hid4 SV (fun (W' : World) (hk : Keeps w W') => imageFault_any _ m W' (SV.keep hk)) i1 SW
 obtain ⟨Q5, Uw⟩ := hid2 Uu i0
 clear i0 i1 SW Uu i3 i4 SV VA VB VC
 rw [← SX, ← SY, ← Pb] at R8 Pc ⊢
 obtain ⟨HI, R9, Pd⟩ := hid3 SX SY Pb
 clear SX SY Pb
 obtain ⟨W, hW, Ux, PI, Uy, hsW⟩ := two_blocks' w (.cells #[.slice x0 TL Kj, .slice x1 NF KQ, .slice x2 NT KR, .slice x3 m.Data.length Mj, .slice x4 m.Lines.length Mk, .int .i64 m.Entry] 28) (.cells #[.slice none 0 0, .slice none 0 0, .slice none 0 0] 45)
 obtain ⟨HW, QU, Ku, K5⟩ := hid4 hW Ux PI Uy
 have m0 := (PI).cell (j := 0) rfl; have m1 := (PI).cell (j := 1) rfl; have m2 := (PI).cell (j := 2) rfl; have m3 := (PI).cell (j := 3) rfl; have m4 := (PI).cell (j := 4) rfl; have m5 := (PI).cell (j := 5) rfl
 clear hW Ux PI Uy
 obtain ⟨FE, SZ⟩ := jE (imgFault m)
 rw [← SZ] at R8
 have Mg := jH SZ
 clear SZ
 go_enter Tryd.func16, Tryd.ntmps16
 go_upto_region 1 with fail
 rw [← HW.out]
 clear HW
 by_cases h0 : FE = 0
 case neg =>
  have t0 : (FE != 0) = true := by simpa using h0
  have t0' : (FE == 0) = false := by simpa using h0
  go_wp2_with (go_at_call 37; refine (R8.out _ (QU.out.trans ku5)).mono ?_; rintro e wa ⟨rfl, Hm⟩; have q0 := (K5.out.keep Hm).cell (j := 0) rfl; have q1 := (K5.out.keep Hm).cell (j := 1) rfl; have q2 := (K5.out.keep Hm).cell (j := 2) rfl; have z0 := (K5.out.keep Hm).thawed 0; have z1 := (K5.out.keep Hm).thawed 1; have z2 := (K5.out.keep Hm).thawed 2; have lq := (K5.out.keep Hm).lt; have n0 := (Ku.out.keep Hm).cell (j := 0) rfl; have n1 := (Ku.out.keep Hm).cell (j := 1) rfl; have n2 := (Ku.out.keep Hm).cell (j := 2) rfl; have n3 := (Ku.out.keep Hm).cell (j := 3) rfl; have n4 := (Ku.out.keep Hm).cell (j := 4) rfl; have n5 := (Ku.out.keep Hm).cell (j := 5) rfl)
  obtain ⟨wf, Hr⟩ := jE ((((wa).setCell ⟨w.heap.size + 1, 0, none⟩ (.slice none 0 0)).setCell ⟨w.heap.size + 1, 1, none⟩ (.slice none 0 0)).setCell ⟨w.heap.size + 1, 2, none⟩ (.slice none 0 0))
  rw [← Hr]
  obtain ⟨HK, HA⟩ := put3 (K5.out.keep Hm) _ _ _ Hr
  have HH := jH (keepsPut (QU.out.trans Hm) jo HA)
  obtain ⟨e0, e1, e2⟩ := HK.k3
  clear Hr HK HA
  exact bodyPost_ret (v := .tuple #[.agg #[.slice none 0 0, .slice none 0 0, .slice none 0 0], .int .i64 FE]) (by simp [results, Tryd.results16, go_sem, e0, e1, e2]) rfl (FlAns.bad (⟨by rw [Mg.out]; exact recE_fault (by rw [← Mg.out]; exact h0), h0⟩) HH.out)
 case pos =>
 subst h0
 have hg := imgGood m Mg.out.symm
 by_cases hbig : 2000 < TL
 case pos =>
  have tb : decide ((2000 : Int) < (TL : Int)) = true := decide_eq_true jo
  go_wp2_with (go_at_call 37; refine (R8.out _ (QU.out.trans ku5)).mono ?_; rintro e wa ⟨rfl, Hm⟩; have q0 := (K5.out.keep Hm).cell (j := 0) rfl; have q1 := (K5.out.keep Hm).cell (j := 1) rfl; have q2 := (K5.out.keep Hm).cell (j := 2) rfl; have z0 := (K5.out.keep Hm).thawed 0; have z1 := (K5.out.keep Hm).thawed 1; have z2 := (K5.out.keep Hm).thawed 2; have lq := (K5.out.keep Hm).lt; have n0 := (Ku.out.keep Hm).cell (j := 0) rfl; have n1 := (Ku.out.keep Hm).cell (j := 1) rfl; have n2 := (Ku.out.keep Hm).cell (j := 2) rfl; have n3 := (Ku.out.keep Hm).cell (j := 3) rfl; have n4 := (Ku.out.keep Hm).cell (j := 4) rfl; have n5 := (Ku.out.keep Hm).cell (j := 5) rfl)
  obtain ⟨wf, Hr⟩ := jE ((((wa).setCell ⟨w.heap.size + 1, 0, none⟩ (.slice none 0 0)).setCell ⟨w.heap.size + 1, 1, none⟩ (.slice none 0 0)).setCell ⟨w.heap.size + 1, 2, none⟩ (.slice none 0 0))
  rw [← Hr]
  obtain ⟨HK, HA⟩ := put3 (K5.out.keep Hm) _ _ _ Hr
  have HH := jH (keepsPut (QU.out.trans Hm) jo HA)
  obtain ⟨e0, e1, e2⟩ := HK.k3
  clear Hr HK HA
  exact bodyPost_ret (v := .tuple #[.agg #[.slice none 0 0, .slice none 0 0, .slice none 0 0], .int .i64 1]) (by simp [results, Tryd.results16, go_sem, e0, e1, e2]) rfl (FlAns.bad (⟨recE_big Mg.out.symm (by rw [← HI.out]; exact hbig), by decide⟩) HH.out)
 case neg =>
 have tb : decide ((2000 : Int) < (TL : Int)) = false := decide_eq_false jo
 have T0 : TL ≤ 2000 := by omega
 have Uz : NF ≤ 40 := by rw [R9.out]; exact hg.funcs
 have UA : NT ≤ 20 := by rw [Pd.out]; exact hg.tabs
 have HG := jH hg
 have Kv : Hid (¬ 2000 < m.Text.length) := jH (by rw [← HI.out]; exact hbig)
 have PJ : Hid (m.Text.length ≤ 2000) := jH (by rw [← HI.out]; exact T0)
 have Ra := jH (fun (W' : World) (hk : Keeps w W') => funcOf_any (Pc.out.keep hk) HG.out PJ.out)
 obtain ⟨N1, T1⟩ := jE (m.Text.length + 1)
 have VD : TL < N1 := by have := HI.out; omega
 have VE : N1 ≤ 2001 := by have := HI.out; omega
 have T2 : IntKind.i64.wrap ((TL : Int) + 1) = (N1 : Int) := by rw [IntKind.wrap_i64]; have := HI.out; omega
 unfold FoAns at Ra
 rw [← T1] at Ra
 have VF := jH T1
 clear hg hbig T1
 go_upto_region 6 with (go_at_call 37; refine (R8.out _ (QU.out.trans ku5)).mono ?_; rintro e wa ⟨rfl, Hm⟩; have q0 := (K5.out.keep Hm).cell (j := 0) rfl; have q1 := (K5.out.keep Hm).cell (j := 1) rfl; have q2 := (K5.out.keep Hm).cell (j := 2) rfl; have z0 := (K5.out.keep Hm).thawed 0; have z1 := (K5.out.keep Hm).thawed 1; have z2 := (K5.out.keep Hm).thawed 2; have lq := (K5.out.keep Hm).lt; have n0 := (Ku.out.keep Hm).cell (j := 0) rfl; have n1 := (Ku.out.keep Hm).cell (j := 1) rfl; have n2 := (Ku.out.keep Hm).cell (j := 2) rfl; have n3 := (Ku.out.keep Hm).cell (j := 3) rfl; have n4 := (Ku.out.keep Hm).cell (j := 4) rfl; have n5 := (Ku.out.keep Hm).cell (j := 5) rfl)
 have Rb : Keeps w wa := QU.out.trans Hm
 have Hg := jH Rb
 have UB := Ku.out.keep Hm
 have UC := K5.out.keep Hm
 obtain ⟨HD, Hy⟩ := hid2 UB UC
 clear Rb UB UC tb m0 m1 m2 m3 m4 m5
 cases hsw : anyN (fun i => badF m.Text (nth m.Funcs i)) m.Funcs.length with
 | true =>
  obtain ⟨bi, UD, Pe⟩ := anyN_true hsw
  obtain ⟨KW, KS⟩ := hid2 (recB_f UD Pe) hsw
  clear Pe hsw UD q0 q1 q2 z0 z1 z2 lq
  go_wp2_with (go_at_call 38; refine (Ra.out _ (Hg.out.trans ku5)).mono ?_; rintro e wb ⟨VG, -, Ml⟩; obtain rfl := VG KS.out; have q0 := (Hy.out.keep Ml).cell (j := 0) rfl; have q1 := (Hy.out.keep Ml).cell (j := 1) rfl; have q2 := (Hy.out.keep Ml).cell (j := 2) rfl; have z0 := (Hy.out.keep Ml).thawed 0; have z1 := (Hy.out.keep Ml).thawed 1; have z2 := (Hy.out.keep Ml).thawed 2; have lq := (Hy.out.keep Ml).lt)
  obtain ⟨wf, Hr⟩ := jE ((((wb).setCell ⟨w.heap.size + 1, 0, none⟩ (.slice none 0 0)).setCell ⟨w.heap.size + 1, 1, none⟩ (.slice none 0 0)).setCell ⟨w.heap.size + 1, 2, none⟩ (.slice none 0 0))
  rw [← Hr]
  obtain ⟨HK, HA⟩ := put3 (Hy.out.keep Ml) _ _ _ Hr
  have HH := jH (keepsPut (Hg.out.trans Ml) jo HA)
  obtain ⟨e0, e1, e2⟩ := HK.k3
  clear Hr HK HA
  exact bodyPost_ret (v := .tuple #[.agg #[.slice none 0 0, .slice none 0 0, .slice none 0 0], .int .i64 9]) (by simp [results, Tryd.results16, go_sem, e0, e1, e2]) rfl (FlAns.bad (one_bad Mg.out.symm Kv.out KW.out) HH.out)
 | false =>
 have KS : Hid (Swept m) := jH hsw
 have T3 := jH hsw
 clear hsw q0 q1 q2 z0 z1 z2 lq
 go_upto_region 9 with (go_at_call 38; refine (Ra.out _ (Hg.out.trans ku5)).mono ?_; rintro e wb ⟨-, UE, Ml⟩; obtain ⟨gO, rfl, hO⟩ := UE T3.out)
 obtain ⟨c1, UF, UG⟩ := OwnC.fresh (fun _ => 0) 1 Ml hO (Nat.le_refl _)
 obtain ⟨VH, P1, VI⟩ := hid3 UG (UF (fun z => z ≠ 0)) Ml
 have n0 := (HD.out.keep Ml).cell (j := 0) rfl
 obtain ⟨ti, Rc, Rd, Re, Rf⟩ := infoParts info_boolD
 clear n1 n2 n3 n4 n5 hO UE UG UF Ra
 go_upto_region 10 with (at_make; refine wpList_make_full _ rfl _ _ 89 rfl wb.heap.size 4 ti (.bool false) 1 Tryd.underlying89 Rc Rd Re .i64 .i64 _ _ N1 rfl rfl rfl rfl (by rw [Rf]; omega) (by unfold maxLen; omega) (Nat.le_refl _) ?_; intro w2 PK Rg)
 have UH : Keeps wb w2 := below_grown Rg (Nat.le_refl _) fun q e => by cases e
 obtain ⟨c2, T4, SF⟩ := OwnC.fresh c1 2 UH (ownMadeG bV false rfl PK) (Nat.le_refl _)
 obtain ⟨gB, UI⟩ := jE (wb.heap.size)
 have Pe : wa.heap.size ≤ wb.heap.size := VI.out.size
 rw [← UI] at SF ⊢
 have Mz := jH (P1.out.trans (T4 (fun z => z ≠ 0)))
 have QV : Hid (OwnI 1 c2 w2 wa.heap.size (.slice (some ⟨gO, 0, none⟩) N1 N1) (ownArr (ownS (allS m) m.Funcs.length) N1)) := jH (VH.out.turn (T4 (fun _ => False)) (fun q => q))
 have UJ : Hid (OwnB 2 c2 w2 wa.heap.size (.slice (some ⟨gB, 0, none⟩) N1 N1) (bgArr (m.Tables.take 0 |>.flatten) N1)) := jH (by rw [List.take_zero, List.flatten_nil, bgArr_nil]; exact ⟨Own.mono SF.1 jo, SF.2⟩)
 clear UH T4 SF PK Rg UI n0 Rc Rd Re Rf T2 Pe
 go_wp2_with fail
 go_loopw [8] (fun s8 wr => ∃ (k : Nat) (c3 : Nat → Nat), k ≤ NT ∧ s8 = .int .i64 k ∧ Hid (Turn (fun z => z = 2) c2 w2 c3 wr) ∧ Hid (OwnB 2 c3 wr wa.heap.size (.slice (some ⟨gB, 0, none⟩) N1 N1) (bgArr (m.Tables.take k |>.flatten) N1)) ∧ Hid (∀ j, j < k → tblB m (ownS (allS m) m.Funcs.length) j = false)) (fun s8 _ => NT - (intOf s8).toNat)
 case atStart => exact ⟨0, c2, Nat.zero_le _, rfl, jH (Turn.refl _ _ _), UJ, jH (fun j hj => absurd hj (Nat.not_lt_zero _))⟩
 case round =>
 obtain ⟨k, c3, hk, rfl, Rh, SG, T5⟩ := hrel
 have Hd : Keeps wa wr := (Mz.out.trans (Rh.out.mono (J := (fun z => z ≠ 0)) fun z h => by omega)).below (Nat.le_refl _) (fun _ _ => rfl) (fun q => q rfl)
 have n2 := (HD.out.keep Hd).cell (j := 2) rfl
 have nl := (HD.out.keep Hd).lt
 by_cases hltA : k < NT
 case neg =>
  have VJ : decide ((k : Int) < (NT : Int)) = false := decide_eq_false jo
  have Ri : Hid (∀ j, j < m.Tables.length → tblB m (ownS (allS m) m.Funcs.length) j = false) := jH (fun j hj => T5.out j (by rw [← Pd.out] at hj; omega))
  have UK : Hid (OwnB 2 c3 wr wa.heap.size (.slice (some ⟨gB, 0, none⟩) N1 N1) (bgArr ((m.Tables.flatten ++ (List.range 0).map fun i => (nth m.Funcs i).Start)) N1)) := jH (by have z := SG.out; (rw [show k = m.Tables.length by rw [← Pd.out]; omega, List.take_length] at z); rw [List.range_zero, List.map_nil, List.append_nil]; exact z)
  clear SG UJ T5 Hd
  go_wp2_with fail
  clear n2 nl VJ
  go_loopw [10] (fun s10 wr => ∃ (i : Nat) (c4 : Nat → Nat), i ≤ NF ∧ s10 = .int .i64 i ∧ Hid (Turn (fun z => z = 2) c2 w2 c4 wr) ∧ Hid (OwnB 2 c4 wr wa.heap.size (.slice (some ⟨gB, 0, none⟩) N1 N1) (bgArr ((m.Tables.flatten ++ (List.range i).map fun i => (nth m.Funcs i).Start)) N1))) (fun s10 _ => NF - (intOf s10).toNat)
  case atStart => exact ⟨0, c3, Nat.zero_le _, rfl, Rh, UK⟩
  case round =>
  clear Rh UK
  obtain ⟨i, c4, hi, rfl, Pf, QW⟩ := hrel
  have Hd : Keeps wa wr := (Mz.out.trans (Pf.out.mono (J := (fun z => z ≠ 0)) fun z h => by omega)).below (Nat.le_refl _) (fun _ _ => rfl) (fun q => q rfl)
  have n1 := (HD.out.keep Hd).cell (j := 1) rfl
  have nl := (HD.out.keep Hd).lt
  by_cases hltB : i < NF
  case neg =>
   have VK : decide ((i : Int) < (NF : Int)) = false := decide_eq_false jo
   have Rj : KeysAt m 0 (m.Tables.flatten ++ (List.range i).map fun i => (nth m.Funcs i).Start) := KeysAt.zero HG.out KS.out (by rw [show i = m.Funcs.length by rw [← R9.out]; omega])
   have Rk := jH Rj
   clear Rj Hd
   go_wp2_with fail
   clear n1 nl VK
   go_loopw [11] (fun s11 wr => ∃ (a : Nat) (c5 : Nat → Nat) (ks : List Int), a ≤ TL ∧ s11 = .int .i64 a ∧ Hid (Turn (fun z => z = 2) c2 w2 c5 wr) ∧ Hid (OwnB 2 c5 wr wa.heap.size (.slice (some ⟨gB, 0, none⟩) N1 N1) (bgArr ks N1)) ∧ Hid (KeysAt m a ks) ∧ Hid (∀ j, j < a → atB m j = false)) (fun s11 _ => TL - (intOf s11).toNat)
   case atStart => exact ⟨0, c4, _, Nat.zero_le _, rfl, Pf, QW, Rk, jH (fun j hj => absurd hj (Nat.not_lt_zero _))⟩
   case round =>
   clear Pf QW Rk
   obtain ⟨a, c5, ks, ha, rfl, HV, Kl, P2, P3⟩ := hrel
   have Hd : Keeps wa wr := (Mz.out.trans (HV.out.mono (J := (fun z => z ≠ 0)) fun z h => by omega)).below (Nat.le_refl _) (fun _ _ => rfl) (fun q => q rfl)
   have n0 := (HD.out.keep Hd).cell (j := 0) rfl
   have nl := (HD.out.keep Hd).lt
   by_cases hltC : a < TL
   case neg =>
    as_aux_lemma =>
     have VL : decide ((a : Int) < (TL : Int)) = false := decide_eq_false jo
     have Rl : anyN (atB m) m.Text.length = false := anyN_no (fun j hj => P3.out j (by rw [← HI.out] at hj; omega))
     have Q6 : recB m = false := recB_no (fun j hj => KS.out.f hj) Ri.out (fun j hj => by have e := atB_any HG.out KS.out; rw [Rl] at e; exact anyN_false e.symm j hj)
     have Rm := followed Mg.out.symm Q6
     have UL : OwnB 2 c5 wr wa.heap.size (.slice (some ⟨gB, 0, none⟩) N1 N1) ((List.range N1).map fun x : Nat => isL m x) := by have z := Kl.out; (rw [KeysAt.all HG.out KS.out (by have q := P2.out; rw [show a = m.Text.length by rw [← HI.out]; omega] at q; exact q) N1] at z); exact z
     obtain ⟨wC, VM⟩ := jE wr
     subst VM
     obtain ⟨T6, HJ, VN, VO⟩ := hid4 Q6 Rm UL (Mz.out.trans (HV.out.mono (J := (fun z => z ≠ 0)) fun z h => by omega))
     have T7 := jH (QV.out.turn HV.out jd)
     have T2 : IntKind.i64.wrap ((TL : Int) + 1) = (N1 : Int) := by rw [IntKind.wrap_i64]; have := HI.out; have := VF.out; omega
     obtain ⟨ti, Rc, Rd, Re, Rf⟩ := infoParts info_int
     have T8 : wa.heap.size ≤ wC.heap.size := Hd.size
     clear Rl Q6 Rm UL Kl P2 P3 Hd
     go_upto_region 44 with (at_make; refine wpList_make_full _ rfl _ _ 25 rfl wC.heap.size 3 ti (.int .i64 0) 1 Tryd.underlying25 Rc Rd Re .i64 .i64 _ _ N1 rfl rfl rfl rfl (by rw [Rf]; omega) (by unfold maxLen; omega) (Nat.le_refl _) ?_; intro w3 PL Rn)
     have UM : Keeps wC w3 := below_grown Rn (Nat.le_refl _) fun q e => by cases e
     obtain ⟨c6, SH, SI⟩ := OwnC.fresh c5 3 UM (ownMadeG iV (0 : Int) rfl PL) (Nat.le_refl _)
     obtain ⟨gP, UN⟩ := jE (wC.heap.size)
     rw [← UN] at SI ⊢
     obtain ⟨KC, T9, Ro⟩ := hid3 (VO.out.trans (SH (fun z => z ≠ 0))) (T7.out.turn (SH (fun _ => False)) (fun q => q)) (VN.out.turn (SH (fun _ => False)) (fun q => q))
     have UO : Hid (OwnI 3 c6 w3 wa.heap.size (.slice (some ⟨gP, 0, none⟩) N1 N1) (plArr m 0 N1)) := jH (by rw [plArr_nil]; exact ⟨Own.mono SI.1 jo, SI.2⟩)
     clear UM SH SI PL Rn UN Rc Rd Re Rf T2 T8 n0 nl VL
     go_wp2_with fail
     go_loopw [18, 19] (fun s18 s19 wr => ∃ (a : Nat) (c7 : Nat → Nat), a ≤ TL ∧ s18 = .int .i64 (cntL m a : Int) ∧ s19 = .int .i64 a ∧ Hid (Turn (fun z => z = 3) c6 w3 c7 wr) ∧ Hid (OwnI 3 c7 wr wa.heap.size (.slice (some ⟨gP, 0, none⟩) N1 N1) (plArr m a N1))) (fun _ s19 _ => TL - (intOf s19).toNat)
     case atStart => exact ⟨0, c6, Nat.zero_le _, rfl, rfl, jH (Turn.refl _ _ _), UO⟩
     case round =>
     clear UO
     obtain ⟨a, c7, ha7, rfl, rfl, KF, Ta⟩ := hrel
     have Hd : Keeps wa wr := (KC.out.trans (KF.out.mono (J := (fun z => z ≠ 0)) fun z h => by omega)).below (Nat.le_refl _) (fun _ _ => rfl) (fun q => q rfl)
     have n0 := (HD.out.keep Hd).cell (j := 0) rfl
     have nl := (HD.out.keep Hd).lt
     obtain ⟨CN, Pg⟩ := jE (cntL m a)
     have VP : CN ≤ 2001 := by rw [Pg]; have := cntL_le m a; omega
     rw [← Pg]
     by_cases hltD : a < TL
     case neg =>
      have VQ : decide ((a : Int) < (TL : Int)) = false := decide_eq_false jo
      have UP : OwnI 3 c7 wr wa.heap.size (.slice (some ⟨gP, 0, none⟩) N1 N1) (plArr m TL N1) := by have z := Ta.out; (rw [show a = TL by omega] at z); exact z
      obtain ⟨Rp, QX⟩ := hid2 UP Hd
      clear UP Hd Pg
      go_upto_region 52 with fail
      obtain ⟨wE, cE, UQ, VR, Rq, Tb⟩ := one_paint wr c7 (.cells #[.slice none 0 0, .slice none 0 0, .slice none 0 0] 45) 4
      rw [← UQ]
      obtain ⟨ob, Tc⟩ := jE (wr.heap.size)
      rw [← Tc]
      rw [← Tc] at Tb
      obtain ⟨UR, US, Td, Te⟩ := hid4 ((KC.out.trans (KF.out.mono (J := (fun z => z ≠ 0)) fun z h => by omega)).trans (Rq (fun z => z ≠ 0))) (Rp.out.turn (Rq (fun _ => False)) (fun q => q)) ((Ro.out.turn KF.out jd).turn (Rq (fun _ => False)) (fun q => q)) ((T9.out.turn KF.out jd).turn (Rq (fun _ => False)) (fun q => q))
      have VS := jH Tb
      clear UQ VR Rq Tb Tc Rp n0 nl VQ
      go_wp2_with fail
      as_aux_lemma =>
      go_loopw [21] (fun s21 wr => ∃ (i : Nat) (c8 : Nat → Nat) (vF : Value), i ≤ NF ∧ s21 = .int .i64 i ∧ Hid (Turn (fun z => z = 4 ∨ z = 9) cE wE c8 wr) ∧ Hid (BlkC 4 c8 wr ob (.cells #[.slice none 0 0, .slice none 0 0, vF] 45)) ∧ Hid (OwnC 9 c8 wr wa.heap.size 3 1 ci vF ((List.range i).map fun i => plR m (nth m.Funcs i).Start))) (fun s21 _ => NF - (intOf s21).toNat)
      case atStart => exact ⟨0, cE, _, Nat.zero_le _, rfl, jH (Turn.refl _ _ _), VS, jH (OwnC.nil _ _ _ _ _ _ _)⟩
      case round =>
      obtain ⟨i, c8, vF, hi8, rfl, KD, P4, Rr⟩ := hrel
      obtain ⟨fa, Mw, UT⟩ := own_form' Rr.out.1
      rw [List.length_map, List.length_range] at UT
      subst UT
      have Hd : Keeps wa wr := (UR.out.trans (KD.out.mono (J := (fun z => z ≠ 0)) fun z h => by omega)).below (Nat.le_refl _) (fun _ _ => rfl) (fun q => q rfl)
      have n1 := (HD.out.keep Hd).cell (j := 1) rfl
      have nl := (HD.out.keep Hd).lt
      by_cases hltF : i < NF
      case neg =>
       have VT : decide ((i : Int) < (NF : Int)) = false := decide_eq_false jo
       obtain ⟨cF, VU⟩ : ∃ x : Nat → Nat, x = c8 := ⟨_, rfl⟩
       obtain ⟨wF, VV⟩ := jE wr
       subst VU VV
       have Tf : i = NF := by omega
       have Tg : Hid (BlkC 4 cF wF ob (.cells #[.slice none 0 0, .slice none 0 0, .slice fa NF Mw] 45)) := jH (by have z := P4.out; rw [Tf] at z; exact z)
       have Rs : Hid (OwnC 9 cF wF wa.heap.size 3 1 ci (.slice fa NF Mw) ((List.range m.Funcs.length).map fun i => plR m (nth m.Funcs i).Start)) := jH (by have z := Rr.out; rw [Tf] at z; rw [← R9.out]; exact z)
       obtain ⟨Th, Ph, MA, Pi⟩ := hid4 (UR.out.trans (KD.out.mono (J := (fun z => z ≠ 0)) fun z h => by omega)) (US.out.turn KD.out jd) (Td.out.turn KD.out jd) (Te.out.turn KD.out jd)
       clear Tf P4 Rr KD Hd
       go_wp2_with fail
       clear n1 nl VT
       as_aux_lemma =>
       go_loopw [22] (fun s22 wr => ∃ (k : Nat) (c9 : Nat → Nat) (vT : Value) (ts : List Sle), k ≤ NT ∧ s22 = .int .i64 k ∧ Hid (Turn (fun z => z = 4 ∨ z = 11 ∨ 1000000 ≤ z) cF wF c9 wr) ∧ Hid (BlkC 4 c9 wr ob (.cells #[.slice none 0 0, vT, .slice fa NF Mw] 45)) ∧ Hid (TabS wa.heap.size 1000000 c9 wr vT ts ((m.Tables.take k).map fun t => t.map (plR m)))) (fun s22 _ => NT - (intOf s22).toNat)
       case atStart => exact ⟨0, cF, _, [], Nat.zero_le _, rfl, jH (Turn.refl _ _ _), Tg, jH (TabS.nil _ _ _ _)⟩
       case round =>
       obtain ⟨k, c9, vT, ts, hk9, rfl, KG, Rt, SJ⟩ := hrel
       have Hd : Keeps wa wr := (Th.out.trans (KG.out.mono (J := (fun z => z ≠ 0)) fun z h => by omega)).below (Nat.le_refl _) (fun _ _ => rfl) (fun q => q rfl)
       have n2 := (HD.out.keep Hd).cell (j := 2) rfl
       have nl := (HD.out.keep Hd).lt
       by_cases hltG : k < NT
       case neg =>
        as_aux_lemma =>
         have VW : decide ((k : Int) < (NT : Int)) = false := decide_eq_false jo
         obtain ⟨cG, VX⟩ : ∃ x : Nat → Nat, x = c9 := ⟨_, rfl⟩
         obtain ⟨wG, VY⟩ := jE wr
         subst VX VY
         obtain ⟨ta, Q7, Ru⟩ := own_form' SJ.out.row.1
         obtain ⟨Q8, Rv⟩ := jE (ts.length)
         rw [← Rv] at Ru
         subst Ru
         have Rw : Hid (TabS wa.heap.size 1000000 cG wG (.slice ta Q8 Q7) ts (m.Tables.map fun t => t.map (plR m))) := jH (by have z := SJ.out; (rw [show k = m.Tables.length by rw [← Pd.out]; omega, List.take_length] at z); exact z)
         obtain ⟨Mm, VZ, Ti, Tj⟩ := hid4 (Th.out.trans (KG.out.mono (J := (fun z => z ≠ 0)) fun z h => by omega)) (Ph.out.turn KG.out jd) (MA.out.turn KG.out jd) (Pi.out.turn KG.out jd)
         have Rx := jH (Rs.out.turn KG.out jd)
         obtain ⟨SN, Tk⟩ := jE ((annS (allS m) m.Funcs.length).length)
         obtain ⟨RB, Tl⟩ := jE (gR m (annS (allS m) m.Funcs.length) [] none)
         have W0 : SN ≤ TL := by have z := HJ.out.chain.len; rw [List.length_map, ← Tk] at z; have := HI.out; omega
         obtain ⟨Q9, Ry⟩ := hid2 Tk Tl
         have W1 : Hid (gR m ((annS (allS m) m.Funcs.length).drop 0) [] none = RB) := jH (by rw [List.drop_zero]; exact Tl.symm)
         have W2 : Hid (((0 : Nat) : Int) = adr (annS (allS m) m.Funcs.length) TL 0) := jH (by rw [HI.out]; exact ((chain_adr HJ.out.chain).1).symm)
         clear Tk Tl SJ KG Rv Hd Ph MA Pi Rs
         have Ph := VZ
         have MA := Ti
         have Pi := Tj
         go_wp2_with fail
         clear n2 nl VW
         go_loopw [25] (fun s25 wr => ∃ (kk H4 : Nat) (co : Nat → Nat) (vB : Value) (rs : List Bv) (cl : List Bk), kk ≤ SN ∧ s25 = .int .i64 (H4 : Int) ∧ Hid ((H4 : Int) = adr (annS (allS m) m.Funcs.length) TL kk) ∧ Hid (Turn (fun z => z = 4 ∨ z = 10 ∨ z = 12 ∨ z = 13 ∨ (16 ≤ z ∧ z < 100000)) cG wG co wr) ∧ Hid (BlkC 4 co wr ob (.cells #[vB, .slice ta Q8 Q7, .slice fa NF Mw] 45)) ∧ Hid (BlkS wa.heap.size co wr vB rs cl) ∧ Hid (gR m ((annS (allS m) m.Funcs.length).drop kk) cl none = RB) ∧ Hid (cl.length ≤ kk)) (fun s25 _ => TL - (intOf s25).toNat)
         case atStart => exact ⟨0, 0, cG, _, [], [], Nat.zero_le _, rfl, W2, jH (Turn.refl _ _ _), Rt, jH (BlkS.nil _ _ _), W1, jH (Nat.le_refl _)⟩
         case round =>
         obtain ⟨kk, H4, co, vB, rs, cl, UU, rfl, Pj, HT, QY, Pk, SK, W3⟩ := hrel
         have Tm := W3.out
         obtain ⟨ba, QZ, Tn⟩ := own_form' Pk.out.row.1
         rw [Pk.out.len] at Tn
         obtain ⟨NB, Tp⟩ := jE (cl.length)
         rw [← Tp] at Tn Tm
         subst Tn
         have Rz := jH Tp
         clear Tp
         have Hd : Keeps wa wr := (Mm.out.trans (HT.out.mono (J := (fun z => z ≠ 0)) fun z h => by omega)).below (Nat.le_refl _) (fun _ _ => rfl) (fun q => q rfl)
         have n0 := (HD.out.keep Hd).cell (j := 0) rfl
         have nl := (HD.out.keep Hd).lt
         by_cases hltH : kk < SN
         case neg =>
          as_aux_lemma =>
           have SL : (H4 : Int) = TL := by rw [Pj.out]; unfold adr; rw [if_neg (by rw [← Q9.out]; exact hltH)]
           have tlH : decide ((H4 : Int) < (TL : Int)) = false := decide_eq_false jo
           have W4 : ¬ H4 < TL := by omega
           have SM : cl = RB := by have z := SK.out; (rw [List.drop_eq_nil_of_le (by rw [← Q9.out]; omega)] at z); exact z
           have UV : FlowAt wr (.agg #[.slice ba NB QZ, .slice ta Q8 Q7, .slice fa NF Mw]) (recF m) := by rw [← flR_is HJ.out]; (refine ⟨_, _, _, rfl, ?_, ((Rw.out.turn HT.out jo (fun i _ => by omega))).tabs, ((Rx.out.turn HT.out jo)).1.ints⟩); have z := Pk.out.blocks; rw [SM, Ry.out] at z; exact z
           have UW := QY.out
           obtain ⟨W5, ob1, ob2⟩ := UW.1.k3
           have RA := Hy.out.keep Hd
           obtain ⟨q0, q1, q2⟩ := (RA).k3
           obtain ⟨z0, z1, z2⟩ := (RA).t3
           have lq := RA.lt
           have UX : co (w.heap.size + 1) = 0 := (Mm.out.trans (HT.out.mono (J := (fun z => z ≠ 0)) fun z h => by omega)).col _ Hy.out.lt
           obtain ⟨W6, Tq, Tr, QX⟩ := hid4 UV RA UX Hd
           clear SL SM UV UW RA UX Hd
           go_wp2_with fail
           obtain ⟨wf, Hr⟩ := jE (((wr.setCell ⟨w.heap.size + 1, 0, none⟩ (.slice ba NB QZ)).setCell ⟨w.heap.size + 1, 1, none⟩ (.slice ta Q8 Q7)).setCell ⟨w.heap.size + 1, 2, none⟩ (.slice fa NF Mw))
           rw [← Hr]
           obtain ⟨HK, HA⟩ := put3 Tq.out _ _ _ Hr
           have HH := jH (keepsPut (Hg.out.trans QX.out) jo HA)
           obtain ⟨e0, e1, e2⟩ := HK.k3
           have SO : Turn (fun z => z = 0) co wr co wf := grown_turn HA (fun b e => by cases e; exact Tr.out)
           have W7 : Hid (FlowAt wf (.agg #[.slice ba NB QZ, .slice ta Q8 Q7, .slice fa NF Mw]) (recF m)) := jH (by
            have SM : cl = RB := by have z := SK.out; (rw [List.drop_eq_nil_of_le (by rw [← Q9.out]; omega)] at z); exact z
            rw [← flR_is HJ.out]
            refine ⟨_, _, _, rfl, ?_, ((Rw.out.turn HT.out jo (fun i _ => by omega)).turn SO jd (fun i _ => by omega)).tabs, ((Rx.out.turn HT.out jo).turn SO jd).1.ints⟩
            have z := (Pk.out.turn SO jd (fun i hi => by omega)).blocks
            rw [SM, Ry.out] at z
            exact z)
           clear Hr HK HA SO
           exact bodyPost_ret (v := .tuple #[.agg #[.slice ba NB QZ, .slice ta Q8 Q7, .slice fa NF Mw], .int .i64 0]) (by simp [results, Tryd.results16, go_sem, e0, e1, e2]) rfl (FlAns.fine (recE_good Mg.out.symm Kv.out T6.out) W7.out HH.out)
         case pos =>
         have MB : kk < (annS (allS m) m.Funcs.length).length := by rw [← Q9.out]; exact hltH
         obtain ⟨pp, Mh⟩ := jE (nth (annS (allS m) m.Funcs.length) kk)
         have Qa : pp ∈ annS (allS m) m.Funcs.length := by rw [Mh]; exact nthMem MB
         have PM : pp.2.A = (H4 : Int) := by rw [Pj.out, adr_at MB, Mh]
         have RC : ownR m (H4 : Int) = (pp.1 : Int) := by have z := (atB_spot HJ.out.good HJ.out.sw Qa).2; rw [PM] at z; exact z
         have H9 := (ann_in HJ.out.good HJ.out.sw Qa).2.2.fine
         rw [PM] at H9
         have W8 : (H4 : Int) < (TL : Int) := by have := H9.x1; have := HI.out; omega
         have W9 : (H4 : Int) < (N1 : Int) := by omega
         obtain ⟨o1, -, o3, -, -⟩ := ownC_cell (Pi.out.turn HT.out jo) (j := H4) (by rw [ownArr_len]; omega)
         rw [ownArr_at _ jo] at o1
         obtain ⟨FF, Ts⟩ : ∃ z : Int, z = (pp.1 : Int) := ⟨_, rfl⟩
         have KX : wr.cell? ⟨gO, H4, none⟩ = some (.int .i64 FF) := by have z := jc wr gO H4 ((ownS (allS m) m.Funcs.length (H4 : Int)).getD (-1)) o1; (rw [show (ownS (allS m) m.Funcs.length (H4 : Int)).getD (-1) = FF from RC.trans Ts.symm] at z); exact z
         have UY : gR m ((annS (allS m) m.Funcs.length).drop kk) cl (some (newR FF H4)) = RB := by
          have z := SK.out
          rw [gR_step MB] at z ⊢
          rw [← Mh] at z ⊢
          rw [Option.getD_none] at z
          rw [Option.getD_some, Ts, ← PM]
          exact z
         have UZ := jH UY
         clear MB Mh Qa PM RC H9 o1 Ts UY Hd
         go_upto_block 20 with fail
         obtain ⟨wO, cO, V0, Wa, SP, Tt⟩ := one_paint wr co (.cells #[.int .i64 FF, .int .i64 H4, .slice none 0 0, .slice none 0 0, .int .i64 0, .int .i64 0, .int .i64 0, .int .i64 0, .int .i64 0, .bool false, .int .i64 0, .int .i64 0, .int .i64 0, .slice none 0 0] 92) 12
         rw [← V0]
         obtain ⟨gb, Tu⟩ := jE (wr.heap.size)
         rw [← Tu]
         rw [← Tu] at Tt
         obtain ⟨RD, RE, RF⟩ := hid3 (HT.out.trans (SP (fun z => z = 4 ∨ z = 10 ∨ z = 12 ∨ z = 13 ∨ (16 ≤ z ∧ z < 100000)))) (QY.out.turn (SP (fun _ => False)) (fun q => q)) (Pk.out.turn (SP (fun _ => False)) (fun q => q) (fun _ _ q => q))
         have V1 : Hid (Cur wa.heap.size cO wO gb NB ⟨FF, H4, ⟨none, 0, 0⟩, ⟨none, 0, 0⟩, zIc, 0, 0, 0, ⟨none, 0, 0⟩⟩ (newR FF H4)) := jH ⟨Tt, ⟨rfl, rfl, rfl, rfl, rfl, rfl⟩, OwnC.nil _ _ _ _ _ _ _, OwnC.nil _ _ _ _ _ _ _, OwnC.nil _ _ _ _ _ _ _⟩
         have HT := RD
         have QY := RE
         have Pk := RF
         have V2 := hltH
         have Tv := Pj
         obtain ⟨k0, V3⟩ := jE kk
         obtain ⟨at0, RG⟩ := jE H4
         have RH : Hid (((newR FF H4).Ends = 0 → gR m ((annS (allS m) m.Funcs.length).drop kk) cl (some (newR FF H4)) = RB ∧ kk < SN) ∧ ((newR FF H4).Ends ≠ 0 → gR m ((annS (allS m) m.Funcs.length).drop kk) (cl ++ [newR FF H4]) none = RB ∧ k0 < kk)) := jH ⟨fun _ => ⟨UZ.out, hltH⟩, fun q => absurd rfl q⟩
         clear V0 Wa SP Tt Tu KX o3 n0 nl RD RE RF
         go_wp2_with fail
         go_loopw [25] (fun s25 wr => ∃ (kk H4 : Nat) (ci_ : Nat → Nat) (b : Bk) (r : Bv), kk ≤ SN ∧ s25 = .int .i64 (H4 : Int) ∧ Hid ((H4 : Int) = adr (annS (allS m) m.Funcs.length) TL kk) ∧ Hid (Turn (fun z => z = 12 ∨ z = 13 ∨ z = 16 + 3 * NB ∨ z = 17 + 3 * NB ∨ z = 18 + 3 * NB) cO wO ci_ wr) ∧ Hid (Cur wa.heap.size ci_ wr gb NB r b) ∧ Hid ((b.Ends = 0 → gR m ((annS (allS m) m.Funcs.length).drop kk) cl (some b) = RB ∧ kk < SN) ∧ (b.Ends ≠ 0 → gR m ((annS (allS m) m.Funcs.length).drop kk) (cl ++ [b]) none = RB ∧ k0 < kk)) ∧ Hid (k0 ≤ kk) ∧ Hid (b.Code.length ≤ kk ∧ b.At.length ≤ kk ∧ b.Lines.length ≤ 2 * kk)) (fun s25 _ => TL + 1 - (intOf s25).toNat)
         case atStart => exact ⟨kk, H4, cO, _, _, by omega, rfl, Pj, jH (Turn.refl _ _ _), V1, RH, jH jo, jH ⟨Nat.zero_le _, Nat.zero_le _, Nat.zero_le _⟩⟩
         case round =>
         clear Pj V1 RH UZ SK
         obtain ⟨wo, Wb⟩ : ∃ w' : World, w' = wO := ⟨_, rfl⟩
         obtain ⟨Tw, RI⟩ := hid2 V3 RG
         clear V3 RG Wb
         obtain ⟨kk, H4, cc, b, ⟨rF, rS, ⟨ca, cn, cc0⟩, ⟨aa, an, ac⟩, ⟨lK, lD, lA, lB, lN, lLg⟩, rE, rT, rL, ⟨la, ln, lc⟩⟩, UU, rfl, Pj, P1, Pl, V4, Kw, Kp⟩ := hrel
         have Qb := Pl.out.sc
         have SQ : rE = b.Ends := Qb.2.2.2.1
         have Kq := jc wr gb 10 rE (Pl.out.cell rfl)
         by_cases hE : rE = 0
         case neg =>
          as_aux_lemma =>
           have tE : (rE == 0) = false := by simpa using hE
           have PN := V4.out.2 (by rw [← SQ]; exact hE)
           have Tx := jH PN
           have Ty : wr.cell? ⟨ob, 0, none⟩ = some (.slice ba NB QZ) := (QY.out.turn P1.out jo).1.cell rfl
           have Tz := (QY.out.turn P1.out jo).1.lt
           have V5 := Pk.out.turnF P1.out jo (fun i h1 h2 => by have := Rz.out; omega)
           obtain ⟨V6, TA⟩ := hid2 V5 (show RowsB wa.heap.size cc wr cl.length ⟨rF, rS, ⟨ca, cn, cc0⟩, ⟨aa, an, ac⟩, ⟨lK, lD, lA, lB, lN, lLg⟩, rE, rT, rL, ⟨la, ln, lc⟩⟩ b by rw [← Rz.out]; exact Pl.out.rows)
           have RJ : Keeps wa wr := (Mm.out.trans ((HT.out.trans (P1.out.mono (J := (fun z => z = 4 ∨ z = 10 ∨ z = 12 ∨ z = 13 ∨ (16 ≤ z ∧ z < 100000))) fun z h => by omega)).mono (J := (fun z => z ≠ 0)) fun z h => by omega)).below (Nat.le_refl _) (fun _ _ => rfl) (fun q => q rfl)
           have RK := jH RJ
           clear RJ
           obtain ⟨RL, RM⟩ := jE (NB + 1)
           obtain ⟨RN, V7⟩ := hid2 (show (rs ++ [(⟨rF, rS, ⟨ca, cn, cc0⟩, ⟨aa, an, ac⟩, ⟨lK, lD, lA, lB, lN, lLg⟩, rE, rT, rL, ⟨la, ln, lc⟩⟩ : Bv)]).length = RL by rw [List.length_append, List.length_singleton, Pk.out.len, ← Rz.out, RM]) (show rs.length = NB by rw [Pk.out.len, Rz.out])
           have TB := adr_lt HJ.out (k := k0) (k' := kk) PN.2 (by rw [← Q9.out]; exact UU)
           rw [← HI.out, ← Pj.out, Tw.out, ← Tv.out, ← RI.out] at TB
           have Wc : RL ≤ kk := by have := PN.2; have := Tw.out; omega
           have TC : Hid (NB + 1 ≤ kk) := jH (by have := PN.2; have := Tw.out; omega)
           clear PN hE SQ V5 RM Qb
           go_wp2_with (first | ((with_reducible show wpList _ _ _ (_ :: _) _ _); refine wpList_loadBlk jr (.tmp 26) jr jr Pl.out.blk.1 ?_) | ((with_reducible show wpList _ _ _ (_ :: _) _ _); refine wpList_makeBlk jr 431 jr jr ?_) | (at_builtin; refine wpList_pushes jr (.tmp 430) (.tmp 432) 43 jr Tryd.underlying43 info_block jr jd (base := wa.heap.size) (f := cbv) (l := rs) jr (by exact V6.out.row.1.keep ku5) [⟨rF, rS, ⟨ca, cn, cc0⟩, ⟨aa, an, ac⟩, ⟨lK, lD, lA, lB, lN, lLg⟩, rE, rT, rL, ⟨la, ln, lc⟩⟩] _ _ jr jt cbv_len cbv_one (by simp only [jL, V7.out]; omega) (by simp only [jL, V7.out]; unfold maxLen; omega) (by have := RK.out.size; first | omega | (simp only [sz_alloc]; omega)) ?_; intro v7 w7 H1 Ha Hb Hc; obtain ⟨c7, HE, V8⟩ := V6.out.pushB Pl.out.sc TA.out (show Keeps wr _ from ku5) H1 Hb Hc; have H5 := (QY.out.turn P1.out jo).turn HE jd; have W5 := jv w7 ob 0 (.slice ba NB QZ) (H5.1.cell rfl); have Wd := H5.1.thawed 0; have obl := H5.1.lt; obtain ⟨b9, TD, e9⟩ := own_form' H1; rw [RN.out] at e9; subst e9; clear Ty Tz Kq tE; have TE := jH V8; have TF := jH HE; have TG := jH H5; clear V8 HE H5 H1 Ha Hb Hc))
           obtain ⟨V9, He⟩ := TG.out.set 0 (.slice b9 RL TD)
           have P4 : Hid (BlkC 4 c7 (w7.setCell ⟨ob, 0, none⟩ (.slice b9 RL TD)) ob (.cells #[.slice b9 RL TD, .slice ta Q8 Q7, .slice fa NF Mw] 45)) := jH V9
           obtain ⟨KD, We⟩ := hid2 (((HT.out.trans (P1.out.mono (J := (fun z => z = 4 ∨ z = 10 ∨ z = 12 ∨ z = 13 ∨ (16 ≤ z ∧ z < 100000))) fun z h => by omega)).trans (TF.out.mono (J := (fun z => z = 4 ∨ z = 10 ∨ z = 12 ∨ z = 13 ∨ (16 ≤ z ∧ z < 100000))) fun z h => by omega)).trans (He.mono (J := (fun z => z = 4 ∨ z = 10 ∨ z = 12 ∨ z = 13 ∨ (16 ≤ z ∧ z < 100000))) fun z h => by omega)) (TE.out.turn He jd (fun i hi => by omega))
           clear V9 He Wd
           go_roundw
           case rel => exact ⟨kk, H4, c7, _, _, _, by omega, by go_num, Pj, KD, P4, We, jH Tx.out.1, jH (by rw [List.length_append, List.length_singleton, ← Rz.out]; exact TC.out)⟩
           case measure => have Wf := RI.out; simp [intOf]; omega
         case pos =>
         have Va : b.Ends = 0 := by rw [← SQ]; exact hE
         obtain ⟨PN, Wg⟩ := V4.out.1 Va
         subst hE
         have MB : kk < (annS (allS m) m.Funcs.length).length := by rw [← Q9.out]; exact Wg
         obtain ⟨pp, Mh⟩ := jE (nth (annS (allS m) m.Funcs.length) kk)
         have Qa : pp ∈ annS (allS m) m.Funcs.length := by rw [Mh]; exact nthMem MB
         have PM : pp.2.A = (H4 : Int) := by rw [Pj.out, adr_at MB, Mh]
         have MC := (ann_in HJ.out.good HJ.out.sw Qa).2.2
         have H9 := MC.fine
         have Pm := MC.ok
         have MD := MC.z
         have ME := MC.i
         have Mn := (chain_adr HJ.out.chain).2 kk MB
         rw [← Mh, ← HI.out] at Mn
         have RO := fun q => HJ.out.to Qa q
         rw [PM] at H9 Pm MD ME Mn RO
         have z1 := H9.z1
         have z5 := H9.z5
         have ze := H9.ze
         have k1 := H9.k1
         have RP := H9.n0
         have RQ := H9.n1
         obtain ⟨⟨⟨K, D, A, B, N, Lg⟩, Z, E⟩, hX⟩ : ∃ X, X = decAns m.Text H4 := ⟨_, rfl⟩
         rw [← hX] at Pm MD ME z1 z5 ze k1 RP RQ
         dsimp only at Pm MD ME z1 z5 ze k1 RP RQ
         subst Pm
         have Qc : pp.2 = ⟨H4, Z, ⟨K, D, A, B, N, Lg⟩⟩ := by have e1 : pp.2 = ⟨pp.2.A, pp.2.Z, pp.2.I⟩ := rfl; rw [e1, PM, MD, ME]
         rw [Qc] at Mn RO
         dsimp only at Mn RO
         have RR : brN K = true ∨ K = 22 → 0 ≤ (H4 : Int) + N ∧ (H4 : Int) + N < TL := fun q => by
          obtain ⟨p', TH, e1, -⟩ := RO q
          have hm := (ann_in HJ.out.good HJ.out.sw TH).2.2.fine
          rw [e1] at hm
          have := hm.x0
          have := hm.x1
          have := HI.out
          omega
         have RS : ((pbR m ⟨(H4 : Int), Z, ⟨K, D, A, B, N, Lg⟩⟩ b).Ends = 0 → gR m ((annS (allS m) m.Funcs.length).drop (kk + 1)) cl (some (pbR m ⟨(H4 : Int), Z, ⟨K, D, A, B, N, Lg⟩⟩ b)) = RB ∧ kk + 1 < SN) ∧ ((pbR m ⟨(H4 : Int), Z, ⟨K, D, A, B, N, Lg⟩⟩ b).Ends ≠ 0 → gR m ((annS (allS m) m.Funcs.length).drop (kk + 1)) (cl ++ [pbR m ⟨(H4 : Int), Z, ⟨K, D, A, B, N, Lg⟩⟩ b]) none = RB ∧ k0 < kk + 1) := by
          have z := PN
          rw [gR_step MB, Option.getD_some, ← Mh, Qc] at z
          refine ⟨fun q => ?_, fun q => ?_⟩
          ·rw [if_pos q] at z
           have on := open_next HJ.out MB (b := b) (by rw [← Mh, Qc]; exact q)
           exact ⟨z, by rw [Q9.out]; exact on⟩
          rw [if_neg q] at z
          exact ⟨z, by have := Kw.out; omega⟩
         have TI := pbR_len m ⟨(H4 : Int), Z, ⟨K, D, A, B, N, Lg⟩⟩ b
         have PO := jH RS
         have KH : Hid ((pbR m ⟨(H4 : Int), Z, ⟨K, D, A, B, N, Lg⟩⟩ b).Code.length ≤ kk + 1 ∧ (pbR m ⟨(H4 : Int), Z, ⟨K, D, A, B, N, Lg⟩⟩ b).At.length ≤ kk + 1 ∧ (pbR m ⟨(H4 : Int), Z, ⟨K, D, A, B, N, Lg⟩⟩ b).Lines.length ≤ 2 * (kk + 1)) := jH (by have := Kp.out; omega)
         obtain ⟨KI, RT⟩ := hid2 Mn RR
         obtain ⟨LV, Vb⟩ := jE (lineAt m.Lines (H4 : Int) m.Lines.length)
         have Mo : Hid (lineAt m.Lines (H4 : Int) m.Lines.length = LV) := jH Vb.symm
         obtain ⟨Y, hY⟩ : ∃ Y : Nat, (Y : Int) = (H4 : Int) + Z := ⟨((H4 : Int) + Z).toNat, by omega⟩
         have HY := jH hY
         have hYT : Y ≤ TL := by have := HI.out; omega
         have wY : IntKind.i64.wrap ((H4 : Int) + Z) = (Y : Int) := jw
         have Wh : H4 < Y := by omega
         have Wi : (H4 : Int) + Z ≤ TL := by omega
         have Qd : Y < N1 := by omega
         have Qe : (Y : Int) < (N1 : Int) := by omega
         have RJ : Keeps wa wr := (Mm.out.trans ((HT.out.trans (P1.out.mono (J := (fun z => z = 4 ∨ z = 10 ∨ z = 12 ∨ z = 13 ∨ (16 ≤ z ∧ z < 100000))) fun z h => by omega)).mono (J := (fun z => z ≠ 0)) fun z h => by omega)).below (Nat.le_refl _) (fun _ _ => rfl) (fun q => q rfl)
         have RK := jH RJ
         clear RJ
         have MF : ∀ W', Keeps wr W' → Calls Tryd.prog 39 #[.slice x0 TL Kj, .int .i64 H4] W' (DecAns (decAns m.Text H4) W') := fun W' hk' => by (have z := instrAt_any _ m.Text H4 W' (Arr.keep Uw.out (Hg.out.trans (RK.out.trans hk')) : Bytes W' _ m.Text) (by have := PJ.out; omega)); rw [HI.out]; exact z
         rw [← hX] at MF
         unfold DecAns Ins.v insV at MF
         dsimp only at MF
         obtain ⟨TJ, KY⟩ := hid2 MF (fun W' => ends_any K D A B N Lg W' k1)
         unfold insV at KY
         obtain ⟨EN, KJ⟩ := jE (endsN K)
         have Kx : Hid (∀ W', Calls Tryd.prog 40 #[.agg #[.int .i64 K, .int .i64 D, .int .i64 A, .int .i64 B, .int .i64 N, .bool Lg]] W' fun e w' => e = .returned (.int .i64 EN) ∧ Keeps W' w') := jH (by rw [KJ]; exact KY.out)
         have Pn := jH KJ
         have n0 := (HD.out.keep RK.out).cell (j := 0) rfl
         have nl := (HD.out.keep RK.out).lt
         have RU : an = b.At.length := by obtain ⟨a', c', e⟩ := own_form' Pl.out.rows.2.1.1; injection e with e1 e2 e3
         have RV : ln = b.Lines.length := by obtain ⟨a', c', e⟩ := own_form' Pl.out.rows.2.2.1; injection e with e1 e2 e3
         have RW : cn = b.Code.length := by obtain ⟨a', c', e⟩ := own_form' Pl.out.rows.1.1; injection e with e1 e2 e3
         have Wj : an ≤ 5000 := by have := Kp.out; omega
         have Wk : ln ≤ 5000 := by have := Kp.out; omega
         have Wl : cn ≤ 5000 := by have := Kp.out; omega
         have Qf := jH RU
         have MG : Hid (ln = ({ b with At := b.At ++ [(H4 : Int)] } : Bk).Lines.length) := jH RV
         have Mp := jH RW
         clear PN MB Mh Qa PM MC H9 MD ME Mn RO hX Qc RR RS TI Vb hY MF KJ KY RU RV RW Va SQ Qb ze k1
         go_upto_region 70 with (go_at_call 39; refine (TJ.out _ ku5).mono ?_; rintro e wi ⟨rfl, PP⟩)
         obtain ⟨TK, cq, RX, TM, Qg, Qh⟩ := one_paint wi cc (.cells #[.int .i64 K, .int .i64 D, .int .i64 A, .int .i64 B, .int .i64 N, .bool Lg] 64) 13
         rw [← RX]
         obtain ⟨gq, Qi⟩ := jE (wi.heap.size)
         rw [← Qi]
         rw [← Qi] at Qh
         obtain ⟨RY, Mq, TO⟩ := hid3 ((P1.out.keep PP).trans (Qg (fun z => z = 12 ∨ z = 13 ∨ z = 16 + 3 * NB ∨ z = 17 + 3 * NB ∨ z = 18 + 3 * NB))) ((Pl.out.keep PP).turn (Qg (fun _ => False)) (fun q => q) (fun q => q) (fun q => q) (fun q => q)) Qh
         clear RX TM Qg Qh Qi n0 nl Kq PP
         have RZ : Keeps wa TK := (Mm.out.trans ((HT.out.trans (RY.out.mono (J := (fun z => z = 4 ∨ z = 10 ∨ z = 12 ∨ z = 13 ∨ (16 ≤ z ∧ z < 100000))) fun z h => by omega)).mono (J := (fun z => z ≠ 0)) fun z h => by omega)).below (Nat.le_refl _) (fun _ _ => rfl) (fun q => q rfl)
         have TP := jH RZ
         clear RZ
         have g3 := jv TK gb 3 (.slice aa an ac) (Mq.out.cell rfl)
         have gl := Mq.out.blk.1.lt
         obtain ⟨KK, S0⟩ := jE (an + 1)
         have TQ := jH (show (b.At ++ [(H4 : Int)]).length = KK by rw [List.length_append, List.length_singleton, S0, Qf.out])
         clear S0
         go_upto_region 71 with (at_builtin; refine wpList_pushes jr (.tmp 327) (.tmp 329) 25 jr Tryd.underlying25 info_int jr jd (base := wa.heap.size) (f := ci) (l := b.At) jr (by exact (Mq.out.keep ku5).rows.2.1.1) [(H4 : Int)] _ _ jr jt ci_len ci_one (by simp only [jL, ← Qf.out]; omega) (by simp only [jL, ← Qf.out]; unfold maxLen; omega) (by have := TP.out.size; first | omega | (simp only [sz_alloc]; omega)) ?_; intro v7 w7 H1 Ha Hb Hc; obtain ⟨a9, KU, e7⟩ := own_form' H1; rw [TQ.out] at e7; subst e7; obtain ⟨c7, HE, K7⟩ := Mq.out.rows.2.1.push (show Keeps TK _ from ku5) H1 Hb Hc; have H5 := Mq.out.blk.turn HE jo; have g3 := jv w7 gb 3 (.slice aa an ac) (H5.1.cell rfl); have f3 := H5.1.thawed 3; have gl := H5.1.lt)
         obtain ⟨Hk, He⟩ := Mq.out.setAt (s7 := ⟨a9, KK, KU⟩) HE K7
         obtain ⟨P5, Qj⟩ : ∃ w', w' = w7.setCell ⟨gb, 3, none⟩ (.slice a9 KK KU) := ⟨_, rfl⟩
         rw [← Qj] at Hk He
         rw [← Qj]
         obtain ⟨MH, S1, TR⟩ := hid3 Hk (RY.out.trans (He.mono (J := (fun z => z = 12 ∨ z = 13 ∨ z = 16 + 3 * NB ∨ z = 17 + 3 * NB ∨ z = 18 + 3 * NB)) fun z h => by omega)) (TO.out.turn He jo)
         clear Hk He Qj H5 g3 f3 gl HE K7 H1 Ha Hb Hc
         go_upto_region 71 with fail
         have S2 : Keeps wa P5 := (Mm.out.trans ((HT.out.trans (S1.out.mono (J := (fun z => z = 4 ∨ z = 10 ∨ z = 12 ∨ z = 13 ∨ (16 ≤ z ∧ z < 100000))) fun z h => by omega)).mono (J := (fun z => z ≠ 0)) fun z h => by omega)).below (Nat.le_refl _) (fun _ _ => rfl) (fun q => q rfl)
         have Qk := jH S2
         clear S2
         have hd : Keeps P5 P5.drew := (Keeps.refl _).drew
         have K6 := jv P5.drew gb 13 (.slice la ln lc) (MH.out.cell rfl)
         have Ho := (HD.out.keep Qk.out).keep hd
         have v0 := jv P5.drew w.heap.size 0 (.slice x0 TL Kj) (Ho.cell rfl)
         have v1 := jv P5.drew w.heap.size 1 (.slice x1 NF KQ) (Ho.cell rfl)
         have v2 := jv P5.drew w.heap.size 2 (.slice x2 NT KR) (Ho.cell rfl)
         have v3 := jv P5.drew w.heap.size 3 (.slice x3 m.Data.length Mj) (Ho.cell rfl)
         have v4 := jv P5.drew w.heap.size 4 (.slice x4 m.Lines.length Mk) (Ho.cell rfl)
         have v5 := jc P5.drew w.heap.size 5 m.Entry (Ho.cell rfl)
         have Hf := lineOf_any _ m (H4 : Int) _ (Pc.out.keep (Hg.out.trans (Qk.out.trans hd)))
         rw [Mo.out] at Hf
         have Hp := jH Hf
         clear Ho Hf
         refine wp_region_head (S := Cells [(gb, 13, .slice la ln lc), (w.heap.size, 0, .slice x0 TL Kj), (w.heap.size, 1, .slice x1 NF KQ), (w.heap.size, 2, .slice x2 NT KR), (w.heap.size, 3, .slice x3 m.Data.length Mj), (w.heap.size, 4, .slice x4 m.Lines.length Mk), (w.heap.size, 5, .int .i64 m.Entry)]) 6 jx jx jx jx jd jx ?hS19 (fun H0 => ?_)
         case hS19 => exact ⟨K6, v0, v1, v2, v3, v4, v5, trivial⟩
         simp only [jU]
         refine jp 0 H0 ?_
         refine jp 1 H0 ?_
         refine jp 2 H0 ?_
         refine jp 3 H0 ?_
         refine readyC 4 ?_
         intro K' hK
         go_simp
         go_at_call 42
         refine Hp.out.mono ?_
         rintro e wz ⟨rfl, Ky⟩
         refine goOn hK (H0.keep Ky) (fun hHeld2 => ?_)
         clear hK K' H0
         have H0 := hHeld2
         clear hHeld2 Hp
         have Kz := jH (hd.trans Ky)
         clear Ky hd K6 v0 v1 v2 v3 v4 v5
         refine readyC 5 ?_
         intro K hK
         go_simp
         refine goOn hK (Cells.keep H0 ((Keeps.refl _).alloc _)) ?_
         clear hK K H0
         intro H0
         refine wpAnyH_done jx ?_ _
         dsimp only [TailQ]
         clear H0
         obtain ⟨Hz, HN⟩ := jE (ln + 1)
         have Km := jH (show (b.Lines ++ [LV]).length = Hz by rw [List.length_append, List.length_singleton, HN, MG.out])
         clear HN
         go_upto_region 72 with (at_builtin; refine wpList_pushes jr (.tmp 333) (.tmp 337) 25 jr Tryd.underlying25 info_int jr jd (base := wa.heap.size) (f := ci) (l := b.Lines) jr (by exact (MH.out.keep (Kz.out.trans (by repeat (with_reducible (first | assumption | exact Keeps.refl _ | refine Keeps.alloc ?_ _ | refine Keeps.drew ?_))))).rows.2.2.1) [LV] _ _ jr jt ci_len ci_one (by simp only [jL, ← MG.out]; omega) (by simp only [jL, ← MG.out]; unfold maxLen; omega) (by have := Qk.out.size; have := Kz.out.size; first | omega | (simp only [sz_alloc]; omega)) ?_; intro v7 w7 H1 Ha Hb Hc; obtain ⟨HU, Hh, e7⟩ := own_form' H1; rw [Km.out] at e7; subst e7; obtain ⟨c7, HE, K7⟩ := MH.out.rows.2.2.push (Kz.out.trans ku5) H1 Hb Hc; have H5 := MH.out.blk.turn HE jo; have K6 := jv w7 gb 13 (.slice la ln lc) (H5.1.cell rfl); have Po := H5.1.thawed 13; have gl := H5.1.lt)
         obtain ⟨Hk, He⟩ := MH.out.setLn (s7 := ⟨HU, Hz, Hh⟩) HE K7
         obtain ⟨R0, Ql⟩ : ∃ w', w' = w7.setCell ⟨gb, 13, none⟩ (.slice HU Hz Hh) := ⟨_, rfl⟩
         rw [← Ql] at Hk He
         rw [← Ql]
         obtain ⟨Mr, TS, KL⟩ := hid3 Hk (S1.out.trans (He.mono (J := (fun z => z = 12 ∨ z = 13 ∨ z = 16 + 3 * NB ∨ z = 17 + 3 * NB ∨ z = 18 + 3 * NB)) fun z h => by omega)) (TR.out.turn He jo)
         clear Hk He Ql H5 K6 Po gl HE K7 H1 Ha Hb Hc
         have PQ : Hid (Hz = (b.Lines ++ [LV]).length) := jH (by rw [← Km.out])
         have H5 := Mr.out.blk.1
         have H7 := Mr.out.sc
         have u0 := jc R0 gq 0 K ((KL.out.1).cell rfl)
         have u1 := jc R0 gq 1 D ((KL.out.1).cell rfl)
         have u2 := jc R0 gq 2 A ((KL.out.1).cell rfl)
         have u3 := jc R0 gq 3 B ((KL.out.1).cell rfl)
         have u4 := jc R0 gq 4 N ((KL.out.1).cell rfl)
         have u5 := jv R0 gq 5 (.bool Lg) ((KL.out.1).cell rfl)
         have ul := (KL.out.1).lt
         go_upto_region 73 with (go_at_call 40; refine (Kx.out _).mono ?_; rintro e we ⟨rfl, H3⟩; have gx := jc we gb 10 0 ((Mr.out.keep H3).blk.1.cell rfl); have fx := (Mr.out.keep H3).blk.1.thawed 10; have gl := (Mr.out.keep H3).blk.1.lt)
         obtain ⟨Qm, Pp⟩ := (Mr.out.keep H3).put (r' := ⟨rF, rS, ⟨ca, cn, cc0⟩, ⟨a9, KK, KU⟩, ⟨lK, lD, lA, lB, lN, lLg⟩, EN, rT, rL, ⟨HU, Hz, Hh⟩⟩) (b' := { b with At := b.At ++ [(H4 : Int)], Lines := b.Lines ++ [LV], Ends := EN }) 10 (.int .i64 EN) rfl ⟨H7.1, H7.2.1, H7.2.2.1, rfl, H7.2.2.2.2.1, H7.2.2.2.2.2⟩ rfl rfl rfl rfl rfl rfl
         obtain ⟨Hj, Qn⟩ : ∃ w', w' = we.setCell ⟨gb, 10, none⟩ (.int .i64 EN) := ⟨_, rfl⟩
         rw [← Qn] at Qm Pp
         rw [← Qn]
         obtain ⟨HL, KZ, H6⟩ := hid3 Qm ((TS.out.keep H3).trans (Pp.mono (J := (fun z => z = 12 ∨ z = 13 ∨ z = 16 + 3 * NB ∨ z = 17 + 3 * NB ∨ z = 18 + 3 * NB)) fun z h => by omega)) ((KL.out.keep H3).turn Pp jo)
         clear Qm Pp Qn gx fx gl H7 H5 H3 u0 u1 u2 u3 u4 u5 ul
         by_cases hb4 : brN K = true
         case pos =>
          have TT : EN = 4 := by rw [Pn.out]; unfold endsN; rw [if_neg (brN_st hb4), if_neg (fun q => by rw [q] at hb4; revert hb4; decide), if_pos hb4]
          have Wm := RT.out (Or.inl hb4)
          have TU := jH hb4
          clear hb4
          as_aux_lemma =>
          subst TT
          have u0 := jc Hj gq 0 K ((H6.out.1).cell rfl)
          have u1 := jc Hj gq 1 D ((H6.out.1).cell rfl)
          have u2 := jc Hj gq 2 A ((H6.out.1).cell rfl)
          have u3 := jc Hj gq 3 B ((H6.out.1).cell rfl)
          have u4 := jc Hj gq 4 N ((H6.out.1).cell rfl)
          have u5 := jv Hj gq 5 (.bool Lg) ((H6.out.1).cell rfl)
          have ul := (H6.out.1).lt
          have H5 := HL.out.blk.1
          have e4 := jc Hj gb 4 lK (H5.cell rfl)
          have e5 := jc Hj gb 5 lD (H5.cell rfl)
          have e6 := jc Hj gb 6 lA (H5.cell rfl)
          have e7 := jc Hj gb 7 lB (H5.cell rfl)
          have e8 := jc Hj gb 8 lN (H5.cell rfl)
          have e9 := jv Hj gb 9 (.bool lLg) (H5.cell rfl)
          have Kq := jc Hj gb 10 4 (H5.cell rfl)
          have f4 := H5.thawed 4
          have f5 := H5.thawed 5
          have f6 := H5.thawed 6
          have f7 := H5.thawed 7
          have f8 := H5.thawed 8
          have f9 := H5.thawed 9
          have gl := H5.lt
          have H7 := HL.out.sc
          go_upto_region 84 with fail
          obtain ⟨s0, t0⟩ := (HL.out).put (r' := ⟨rF, rS, ⟨ca, cn, cc0⟩, ⟨a9, KK, KU⟩, ⟨K, lD, lA, lB, lN, lLg⟩, 4, rT, rL, ⟨HU, Hz, Hh⟩⟩) (b' := { b with At := b.At ++ [(H4 : Int)], Lines := b.Lines ++ [LV], Ends := 4, Last := ⟨K, lD, lA, lB, lN, lLg⟩ }) 4 (.int .i64 K) rfl ⟨H7.1, H7.2.1, rfl, H7.2.2.2.1, H7.2.2.2.2.1, H7.2.2.2.2.2⟩ rfl rfl rfl rfl rfl rfl
          obtain ⟨s1, t1⟩ := (s0).put (r' := ⟨rF, rS, ⟨ca, cn, cc0⟩, ⟨a9, KK, KU⟩, ⟨K, 0, lA, lB, lN, lLg⟩, 4, rT, rL, ⟨HU, Hz, Hh⟩⟩) (b' := { b with At := b.At ++ [(H4 : Int)], Lines := b.Lines ++ [LV], Ends := 4, Last := ⟨K, 0, lA, lB, lN, lLg⟩ }) 5 (.int .i64 0) rfl ⟨H7.1, H7.2.1, rfl, H7.2.2.2.1, H7.2.2.2.2.1, H7.2.2.2.2.2⟩ rfl rfl rfl rfl rfl rfl
          obtain ⟨s2, t2⟩ := (s1).put (r' := ⟨rF, rS, ⟨ca, cn, cc0⟩, ⟨a9, KK, KU⟩, ⟨K, 0, A, lB, lN, lLg⟩, 4, rT, rL, ⟨HU, Hz, Hh⟩⟩) (b' := { b with At := b.At ++ [(H4 : Int)], Lines := b.Lines ++ [LV], Ends := 4, Last := ⟨K, 0, A, lB, lN, lLg⟩ }) 6 (.int .i64 A) rfl ⟨H7.1, H7.2.1, rfl, H7.2.2.2.1, H7.2.2.2.2.1, H7.2.2.2.2.2⟩ rfl rfl rfl rfl rfl rfl
          obtain ⟨s3, t3⟩ := (s2).put (r' := ⟨rF, rS, ⟨ca, cn, cc0⟩, ⟨a9, KK, KU⟩, ⟨K, 0, A, B, lN, lLg⟩, 4, rT, rL, ⟨HU, Hz, Hh⟩⟩) (b' := { b with At := b.At ++ [(H4 : Int)], Lines := b.Lines ++ [LV], Ends := 4, Last := ⟨K, 0, A, B, lN, lLg⟩ }) 7 (.int .i64 B) rfl ⟨H7.1, H7.2.1, rfl, H7.2.2.2.1, H7.2.2.2.2.1, H7.2.2.2.2.2⟩ rfl rfl rfl rfl rfl rfl
          obtain ⟨s4, t4⟩ := (s3).put (r' := ⟨rF, rS, ⟨ca, cn, cc0⟩, ⟨a9, KK, KU⟩, ⟨K, 0, A, B, 0, lLg⟩, 4, rT, rL, ⟨HU, Hz, Hh⟩⟩) (b' := { b with At := b.At ++ [(H4 : Int)], Lines := b.Lines ++ [LV], Ends := 4, Last := ⟨K, 0, A, B, 0, lLg⟩ }) 8 (.int .i64 0) rfl ⟨H7.1, H7.2.1, rfl, H7.2.2.2.1, H7.2.2.2.2.1, H7.2.2.2.2.2⟩ rfl rfl rfl rfl rfl rfl
          obtain ⟨s5, t5⟩ := (s4).put (r' := ⟨rF, rS, ⟨ca, cn, cc0⟩, ⟨a9, KK, KU⟩, ⟨K, 0, A, B, 0, false⟩, 4, rT, rL, ⟨HU, Hz, Hh⟩⟩) (b' := { b with At := b.At ++ [(H4 : Int)], Lines := b.Lines ++ [LV], Ends := 4, Last := ⟨K, 0, A, B, 0, false⟩ }) 9 (.bool false) rfl ⟨H7.1, H7.2.1, rfl, H7.2.2.2.1, H7.2.2.2.2.1, H7.2.2.2.2.2⟩ rfl rfl rfl rfl rfl rfl
          obtain ⟨Kn, K8⟩ : ∃ w', w' = (((((Hj.setCell ⟨gb, 4, none⟩ (.int .i64 K)).setCell ⟨gb, 5, none⟩ (.int .i64 0)).setCell ⟨gb, 6, none⟩ (.int .i64 A)).setCell ⟨gb, 7, none⟩ (.int .i64 B)).setCell ⟨gb, 8, none⟩ (.int .i64 0)).setCell ⟨gb, 9, none⟩ (.bool false) := ⟨_, rfl⟩
          rw [← K8] at s5 t5
          rw [← K8]
          have K9 := jH s5
          have TV := (((((t0).trans t1).trans t2).trans t3).trans t4).trans t5
          obtain ⟨M0, Hw⟩ := hid2 (KZ.out.trans (TV.mono (J := (fun z => z = 12 ∨ z = 13 ∨ z = 16 + 3 * NB ∨ z = 17 + 3 * NB ∨ z = 18 + 3 * NB)) fun z h => by omega)) (H6.out.turn TV jo)
          clear s0 t0 s1 t1 s2 t2 s3 t3 s4 t4 s5 t5 K8 H5 e4 e5 e6 e7 e8 e9 Kq f4 f5 f6 f7 f8 f9 gl H7 TV u0 u1 u2 u3 u4 u5 ul
          obtain ⟨R1, hX⟩ : ∃ X : Nat, (H4 : Int) + N = (X : Int) := ⟨((H4 : Int) + N).toNat, by omega⟩
          have HB : R1 < N1 := by omega
          have MI : (R1 : Int) < (N1 : Int) := by omega
          have wX : IntKind.i64.wrap ((H4 : Int) + N) = (R1 : Int) := jw
          obtain ⟨p1, -, p3, -, -⟩ := ownC_cell (Ph.out.turn ((HT.out.trans (M0.out.mono (J := (fun z => z = 4 ∨ z = 10 ∨ z = 12 ∨ z = 13 ∨ (16 ≤ z ∧ z < 100000))) fun z h => by omega))) jo) (j := R1) (by rw [plArr_len]; exact HB)
          rw [HI.out, plArr_all _ HB] at p1
          obtain ⟨KM, HX⟩ := jE (plR m R1)
          rw [← HX] at p1
          have Ka : Kn.cell? ⟨gP, R1, none⟩ = some (.int .i64 KM) := p1
          have S3 : Hid (plR m ((H4 : Int) + N) = KM) := jH (by rw [hX, HX])
          have u0 := jc Kn gq 0 K ((Hw.out.1).cell rfl)
          have u1 := jc Kn gq 1 D ((Hw.out.1).cell rfl)
          have u2 := jc Kn gq 2 A ((Hw.out.1).cell rfl)
          have u3 := jc Kn gq 3 B ((Hw.out.1).cell rfl)
          have u4 := jc Kn gq 4 N ((Hw.out.1).cell rfl)
          have u5 := jv Kn gq 5 (.bool Lg) ((Hw.out.1).cell rfl)
          have ul := (Hw.out.1).lt
          have H5 := K9.out.blk.1
          have gx := jc Kn gb 11 rT (H5.cell rfl)
          have fx := H5.thawed 11
          have gl := H5.lt
          have H7 := K9.out.sc
          clear hX HX p1
          go_upto_region 85 with fail
          obtain ⟨Hk, He⟩ := K9.out.put (r' := ⟨rF, rS, ⟨ca, cn, cc0⟩, ⟨a9, KK, KU⟩, ⟨K, 0, A, B, 0, false⟩, 4, KM, rL, ⟨HU, Hz, Hh⟩⟩) (b' := { b with At := b.At ++ [(H4 : Int)], Lines := b.Lines ++ [LV], Ends := 4, Last := ⟨K, 0, A, B, 0, false⟩, To := KM }) 11 (.int .i64 KM) rfl ⟨H7.1, H7.2.1, H7.2.2.1, H7.2.2.2.1, rfl, H7.2.2.2.2.2⟩ rfl rfl rfl rfl rfl rfl
          obtain ⟨HC, Kb⟩ : ∃ w', w' = Kn.setCell ⟨gb, 11, none⟩ (.int .i64 KM) := ⟨_, rfl⟩
          rw [← Kb] at Hk He
          rw [← Kb]
          obtain ⟨Hl, HO, HP⟩ := hid3 Hk (M0.out.trans (He.mono (J := (fun z => z = 12 ∨ z = 13 ∨ z = 16 + 3 * NB ∨ z = 17 + 3 * NB ∨ z = 18 + 3 * NB)) fun z h => by omega)) (Hw.out.turn He jo)
          clear Hk He Kb H5 gx fx gl H7 wX p3 Ka MI u0 u1 u2 u3 u4 u5 ul
          have HB : Y < N1 := Qd
          have MI : (Y : Int) < (N1 : Int) := Qe
          have hX := HY.out.symm
          have wX := wY
          obtain ⟨p1, -, p3, -, -⟩ := ownC_cell (Ph.out.turn ((HT.out.trans (HO.out.mono (J := (fun z => z = 4 ∨ z = 10 ∨ z = 12 ∨ z = 13 ∨ (16 ≤ z ∧ z < 100000))) fun z h => by omega))) jo) (j := Y) (by rw [plArr_len]; exact HB)
          rw [HI.out, plArr_all _ HB] at p1
          obtain ⟨Ms, HX⟩ := jE (plR m Y)
          rw [← HX] at p1
          have Ka : HC.cell? ⟨gP, Y, none⟩ = some (.int .i64 Ms) := p1
          have S4 : Hid (plR m ((H4 : Int) + Z) = Ms) := jH (by rw [hX, HX])
          have u0 := jc HC gq 0 K ((HP.out.1).cell rfl)
          have u1 := jc HC gq 1 D ((HP.out.1).cell rfl)
          have u2 := jc HC gq 2 A ((HP.out.1).cell rfl)
          have u3 := jc HC gq 3 B ((HP.out.1).cell rfl)
          have u4 := jc HC gq 4 N ((HP.out.1).cell rfl)
          have u5 := jv HC gq 5 (.bool Lg) ((HP.out.1).cell rfl)
          have ul := (HP.out.1).lt
          have H5 := Hl.out.blk.1
          have gx := jc HC gb 12 rL (H5.cell rfl)
          have fx := H5.thawed 12
          have gl := H5.lt
          have H7 := Hl.out.sc
          clear hX HX p1
          go_upto_region 88 with fail
          obtain ⟨Hk, He⟩ := Hl.out.put (r' := ⟨rF, rS, ⟨ca, cn, cc0⟩, ⟨a9, KK, KU⟩, ⟨K, 0, A, B, 0, false⟩, 4, KM, Ms, ⟨HU, Hz, Hh⟩⟩) (b' := { b with At := b.At ++ [(H4 : Int)], Lines := b.Lines ++ [LV], Ends := 4, Last := ⟨K, 0, A, B, 0, false⟩, To := KM, Else := Ms }) 12 (.int .i64 Ms) rfl ⟨H7.1, H7.2.1, H7.2.2.1, H7.2.2.2.1, H7.2.2.2.2.1, rfl⟩ rfl rfl rfl rfl rfl rfl
          obtain ⟨Kk, Hx⟩ : ∃ w', w' = HC.setCell ⟨gb, 12, none⟩ (.int .i64 Ms) := ⟨_, rfl⟩
          rw [← Hx] at Hk He
          rw [← Hx]
          obtain ⟨HZ, Kc, Ht⟩ := hid3 Hk (HO.out.trans (He.mono (J := (fun z => z = 12 ∨ z = 13 ∨ z = 16 + 3 * NB ∨ z = 17 + 3 * NB ∨ z = 18 + 3 * NB)) fun z h => by omega)) (HP.out.turn He jo)
          clear Hk He Hx H5 gx fx gl H7 wX p3 Ka MI u0 u1 u2 u3 u4 u5 ul
          have M1 := jH (HZ.out.cast (show _ = pbR m ⟨(H4 : Int), Z, ⟨K, D, A, B, N, Lg⟩⟩ b from by unfold pbR; rw [if_pos TU.out]; rw [Mo.out]; dsimp only; rw [S3.out, S4.out]))
          go_wp2_with fail
          go_roundw
          case rel => exact ⟨kk + 1, Y, _, pbR m ⟨(H4 : Int), Z, ⟨K, D, A, B, N, Lg⟩⟩ b, _, by omega, by go_num, jH (by rw [KI.out, HY.out]), Kc, M1, PO, jH (by have := Kw.out; omega), KH⟩
          case measure => exact jm
         case neg =>
         have M2 := jH hb4
         by_cases P6 : K = 22
         case pos =>
          have TW : EN = 3 := by rw [Pn.out, P6]; decide
          have Wm := RT.out (Or.inr P6)
          have TX := jH P6
          clear P6 hb4
          as_aux_lemma =>
          subst TW
          have u0 := jc Hj gq 0 K ((H6.out.1).cell rfl)
          have u1 := jc Hj gq 1 D ((H6.out.1).cell rfl)
          have u2 := jc Hj gq 2 A ((H6.out.1).cell rfl)
          have u3 := jc Hj gq 3 B ((H6.out.1).cell rfl)
          have u4 := jc Hj gq 4 N ((H6.out.1).cell rfl)
          have u5 := jv Hj gq 5 (.bool Lg) ((H6.out.1).cell rfl)
          have ul := (H6.out.1).lt
          have Kq := jc Hj gb 10 3 (HL.out.blk.1.cell rfl)
          obtain ⟨R2, hX⟩ : ∃ X : Nat, (H4 : Int) + N = (X : Int) := ⟨((H4 : Int) + N).toNat, by omega⟩
          have HB : R2 < N1 := by omega
          have MI : (R2 : Int) < (N1 : Int) := by omega
          have wX : IntKind.i64.wrap ((H4 : Int) + N) = (R2 : Int) := jw
          obtain ⟨p1, -, p3, -, -⟩ := ownC_cell (Ph.out.turn ((HT.out.trans (KZ.out.mono (J := (fun z => z = 4 ∨ z = 10 ∨ z = 12 ∨ z = 13 ∨ (16 ≤ z ∧ z < 100000))) fun z h => by omega))) jo) (j := R2) (by rw [plArr_len]; exact HB)
          rw [HI.out, plArr_all _ HB] at p1
          obtain ⟨Mt, HX⟩ := jE (plR m R2)
          rw [← HX] at p1
          have Ka : Hj.cell? ⟨gP, R2, none⟩ = some (.int .i64 Mt) := p1
          have S5 : Hid (plR m ((H4 : Int) + N) = Mt) := jH (by rw [hX, HX])
          have u0 := jc Hj gq 0 K ((H6.out.1).cell rfl)
          have u1 := jc Hj gq 1 D ((H6.out.1).cell rfl)
          have u2 := jc Hj gq 2 A ((H6.out.1).cell rfl)
          have u3 := jc Hj gq 3 B ((H6.out.1).cell rfl)
          have u4 := jc Hj gq 4 N ((H6.out.1).cell rfl)
          have u5 := jv Hj gq 5 (.bool Lg) ((H6.out.1).cell rfl)
          have ul := (H6.out.1).lt
          have H5 := HL.out.blk.1
          have gx := jc Hj gb 11 rT (H5.cell rfl)
          have fx := H5.thawed 11
          have gl := H5.lt
          have H7 := HL.out.sc
          clear hX HX p1
          go_upto_region 88 with fail
          clear Kq
          obtain ⟨Hk, He⟩ := HL.out.put (r' := ⟨rF, rS, ⟨ca, cn, cc0⟩, ⟨a9, KK, KU⟩, ⟨lK, lD, lA, lB, lN, lLg⟩, 3, Mt, rL, ⟨HU, Hz, Hh⟩⟩) (b' := { b with At := b.At ++ [(H4 : Int)], Lines := b.Lines ++ [LV], Ends := 3, To := Mt }) 11 (.int .i64 Mt) rfl ⟨H7.1, H7.2.1, H7.2.2.1, H7.2.2.2.1, rfl, H7.2.2.2.2.2⟩ rfl rfl rfl rfl rfl rfl
          obtain ⟨Kn, K8⟩ : ∃ w', w' = Hj.setCell ⟨gb, 11, none⟩ (.int .i64 Mt) := ⟨_, rfl⟩
          rw [← K8] at Hk He
          rw [← K8]
          obtain ⟨K9, M0, Hw⟩ := hid3 Hk (KZ.out.trans (He.mono (J := (fun z => z = 12 ∨ z = 13 ∨ z = 16 + 3 * NB ∨ z = 17 + 3 * NB ∨ z = 18 + 3 * NB)) fun z h => by omega)) (H6.out.turn He jo)
          clear Hk He K8 H5 gx fx gl H7 wX p3 Ka MI u0 u1 u2 u3 u4 u5 ul
          have M1 := jH (K9.out.cast (show _ = pbR m ⟨(H4 : Int), Z, ⟨K, D, A, B, N, Lg⟩⟩ b from by unfold pbR; rw [if_neg M2.out, if_pos TX.out]; rw [Mo.out]; dsimp only; rw [S5.out]))
          go_wp2_with fail
          go_roundw
          case rel => exact ⟨kk + 1, Y, _, pbR m ⟨(H4 : Int), Z, ⟨K, D, A, B, N, Lg⟩⟩ b, _, by omega, by go_num, jH (by rw [KI.out, HY.out]), M0, M1, PO, jH (by have := Kw.out; omega), KH⟩
          case measure => exact jm
         case neg =>
         have Mu := jH P6
         have Qo : Hid (stN K = true → EN = 1) := jH (fun q => by rw [Pn.out]; unfold endsN; rw [if_pos q])
         have MJ : Hid (¬ stN K = true → EN = 0) := jH (fun q => by rw [Pn.out]; unfold endsN; rw [if_neg q, if_neg P6, if_neg hb4])
         have TY : EN ≠ 4 ∧ EN ≠ 3 := by
          by_cases q : stN K = true
          ·rw [Qo.out q]; exact ⟨by decide, by decide⟩
          rw [MJ.out q]; exact ⟨by decide, by decide⟩
         have Mx : (EN == 4) = false := by simpa using TY.1
         have P7 : (EN == 3) = false := by simpa using TY.2
         clear hb4 P6 TY
         by_cases Hu : K = 23
         case pos =>
          as_aux_lemma =>
          have tk : (K == 23) = true := by simpa using Hu
          obtain ⟨FA, Qp⟩ := jE (fnAt m ((H4 : Int) + N))
          have M3 : Hid (plainI m ⟨(H4 : Int), Z, ⟨K, D, A, B, N, Lg⟩⟩ = (⟨K, D, A, B, FA, Lg⟩ : Ic)) := jH (by unfold plainI; rw [if_pos Hu, Qp]; rfl)
          have MK : Keeps wa Hj := (Mm.out.trans ((HT.out.trans (KZ.out.mono (J := (fun z => z = 4 ∨ z = 10 ∨ z = 12 ∨ z = 13 ∨ (16 ≤ z ∧ z < 100000))) fun z h => by omega)).mono (J := (fun z => z ≠ 0)) fun z h => by omega)).below (Nat.le_refl _) (fun _ _ => rfl) (fun q => q rfl)
          have Pq := jH MK
          clear MK
          have SR : Hid (∀ W', Keeps Hj W' → Calls Tryd.prog 41 #[.agg #[.slice x0 TL Kj, .slice x1 NF KQ, .slice x2 NT KR, .slice x3 m.Data.length Mj, .slice x4 m.Lines.length Mk, .int .i64 m.Entry], .int .i64 ((H4 : Int) + N)] W' fun e w' => e = .returned (.int .i64 FA) ∧ Keeps W' w') := jH (fun W' hk' => by rw [Qp]; exact calledBy_any (Pc.out.keep (Hg.out.trans (Pq.out.trans hk'))) HG.out.funcs)
          have Qq := jH Hu
          have Kq := jc Hj gb 10 EN (HL.out.blk.1.cell rfl)
          have u0 := jc Hj gq 0 K ((H6.out.1).cell rfl)
          have u1 := jc Hj gq 1 D ((H6.out.1).cell rfl)
          have u2 := jc Hj gq 2 A ((H6.out.1).cell rfl)
          have u3 := jc Hj gq 3 B ((H6.out.1).cell rfl)
          have u4 := jc Hj gq 4 N ((H6.out.1).cell rfl)
          have u5 := jv Hj gq 5 (.bool Lg) ((H6.out.1).cell rfl)
          have ul := (H6.out.1).lt
          have Ho := HD.out.keep Pq.out
          obtain ⟨n0, n1, n2, n3, n4, n5⟩ := Ho.k6
          have nl := Ho.lt
          have Vc : IntKind.i64.wrap ((H4 : Int) + N) = (H4 : Int) + N := jw
          have Wn := jH Ho
          clear Hu Qp Ho
          go_upto_region 76 with (first | ((with_reducible show wpList _ _ _ (_ :: _) _ _); refine wpList_loadImg jr (.tmp 1) jr jr Wn.out ?_) | (go_at_call 41; refine (SR.out _ ku5).mono ?_; rintro e wy ⟨rfl, Qr⟩; have y4 := (H6.out.keep Qr).1.cell (j := 4) rfl; have yf := (H6.out.keep Qr).1.thawed 4; have yl := (H6.out.keep Qr).1.lt))
          obtain ⟨Kn, K8⟩ : ∃ w', w' = wy.setCell ⟨gq, 4, none⟩ (.int .i64 FA) := ⟨_, rfl⟩
          obtain ⟨Qs, Pr⟩ := (H6.out.keep Qr).set 4 (.int .i64 FA)
          rw [← K8] at Qs Pr
          rw [← K8]
          obtain ⟨Hw, M0, K9⟩ := hid3 (show BlkC 13 _ Kn gq (.cells #[.int .i64 K, .int .i64 D, .int .i64 A, .int .i64 B, .int .i64 FA, .bool Lg] 64) from Qs) ((KZ.out.keep Qr).trans (Pr.mono (J := (fun z => z = 12 ∨ z = 13 ∨ z = 16 + 3 * NB ∨ z = 17 + 3 * NB ∨ z = 18 + 3 * NB)) fun z h => by omega)) ((HL.out.keep Qr).turn Pr jo jo jo jo)
          clear tk Kq Qs Pr K8 Qr y4 yf yl n0 n1 n2 n3 n4 n5 nl Vc u0 u1 u2 u3 u4 u5 ul
          have u0 := jc Kn gq 0 K ((Hw.out.1).cell rfl)
          have u1 := jc Kn gq 1 D ((Hw.out.1).cell rfl)
          have u2 := jc Kn gq 2 A ((Hw.out.1).cell rfl)
          have u3 := jc Kn gq 3 B ((Hw.out.1).cell rfl)
          have u4 := jc Kn gq 4 FA ((Hw.out.1).cell rfl)
          have u5 := jv Kn gq 5 (.bool Lg) ((Hw.out.1).cell rfl)
          have ul := (Hw.out.1).lt
          have H5 := K9.out.blk.1
          have e2 := jv Kn gb 2 (.slice ca cn cc0) (H5.cell rfl)
          obtain ⟨ML, MM⟩ := jE (cn + 1)
          have Qt := jH (show (b.Code ++ [(⟨K, D, A, B, FA, Lg⟩ : Ic)]).length = ML by rw [List.length_append, List.length_singleton, MM, Mp.out])
          clear MM H5
          have S6 : Keeps wa Kn := (Mm.out.trans ((HT.out.trans (M0.out.mono (J := (fun z => z = 4 ∨ z = 10 ∨ z = 12 ∨ z = 13 ∨ (16 ≤ z ∧ z < 100000))) fun z h => by omega)).mono (J := (fun z => z ≠ 0)) fun z h => by omega)).below (Nat.le_refl _) (fun _ _ => rfl) (fun q => q rfl)
          have TZ := jH S6
          clear S6
          go_upto_region 77 with (first | ((with_reducible show wpList _ _ _ (_ :: _) _ _); refine wpList_loadIns jr (.tmp 27) jr jr Hw.out.1 ?_) | ((with_reducible show wpList _ _ _ (_ :: _) _ _); refine wpList_makeIns jr 357 jr jr ?_) | (at_builtin; refine wpList_pushes jr (.tmp 356) (.tmp 358) 90 jr Tryd.underlying90 info_instr jr jd (base := wa.heap.size) (f := cic) (l := b.Code) jr (by exact (K9.out.keep ku5).rows.1.1) [⟨K, D, A, B, FA, Lg⟩] _ _ jr jt cic_len cic_one (by simp only [jL, ← Mp.out]; omega) (by simp only [jL, ← Mp.out]; unfold maxLen; omega) (by have := TZ.out.size; first | omega | (simp only [sz_alloc]; omega)) ?_; intro v7 w7 H1 Ha Hb Hc; obtain ⟨k9, Ps, e7⟩ := own_form' H1; rw [Qt.out] at e7; subst e7; obtain ⟨c7, HE, K7⟩ := K9.out.rows.1.push (show Keeps Kn _ from ku5) H1 Hb Hc; have H5 := K9.out.blk.turn HE jo; have g2 := jv w7 gb 2 (.slice ca cn cc0) (H5.1.cell rfl); have f2 := H5.1.thawed 2; have gl := H5.1.lt))
          obtain ⟨Hk, He⟩ := K9.out.setCode (s7 := ⟨k9, ML, Ps⟩) HE K7
          obtain ⟨HC, Kb⟩ : ∃ w', w' = w7.setCell ⟨gb, 2, none⟩ (.slice k9 ML Ps) := ⟨_, rfl⟩
          rw [← Kb] at Hk He
          rw [← Kb]
          obtain ⟨Hl, HO, HP⟩ := hid3 Hk (M0.out.trans (He.mono (J := (fun z => z = 12 ∨ z = 13 ∨ z = 16 + 3 * NB ∨ z = 17 + 3 * NB ∨ z = 18 + 3 * NB)) fun z h => by omega)) (Hw.out.turn He jo)
          clear Hk He Kb H5 g2 f2 gl HE K7 H1 Ha Hb Hc e2 u0 u1 u2 u3 u4 u5 ul
          have M4 : Hz = (b.Lines ++ [LV]).length := PQ.out
          have Hv := jH M4
          have S7 : Hz ≤ 10000 := by have := Kp.out.2.2; rw [M4, List.length_append, List.length_singleton]; omega
          clear M4
          have Kq := jc HC gb 10 EN (Hl.out.blk.1.cell rfl)
          by_cases hst : stN K = true
          case pos =>
           have U0 := Qo.out hst
           subst U0
           have Pt := jH hst
           clear hst
           go_upto_region 81 with fail
           clear Kq
           have MN : Keeps wa HC := (Mm.out.trans ((HT.out.trans (HO.out.mono (J := (fun z => z = 4 ∨ z = 10 ∨ z = 12 ∨ z = 13 ∨ (16 ≤ z ∧ z < 100000))) fun z h => by omega)).mono (J := (fun z => z ≠ 0)) fun z h => by omega)).below (Nat.le_refl _) (fun _ _ => rfl) (fun q => q rfl)
           have M5 := jH MN
           clear MN
           have hd : Keeps HC HC.drew := (Keeps.refl _).drew
           have K6 := jv HC.drew gb 13 (.slice HU Hz Hh) (Hl.out.cell rfl)
           have Ho := (HD.out.keep M5.out).keep hd
           have v0 := jv HC.drew w.heap.size 0 (.slice x0 TL Kj) (Ho.cell rfl)
           have v1 := jv HC.drew w.heap.size 1 (.slice x1 NF KQ) (Ho.cell rfl)
           have v2 := jv HC.drew w.heap.size 2 (.slice x2 NT KR) (Ho.cell rfl)
           have v3 := jv HC.drew w.heap.size 3 (.slice x3 m.Data.length Mj) (Ho.cell rfl)
           have v4 := jv HC.drew w.heap.size 4 (.slice x4 m.Lines.length Mk) (Ho.cell rfl)
           have v5 := jc HC.drew w.heap.size 5 m.Entry (Ho.cell rfl)
           have Hf := lineOf_any _ m (H4 : Int) _ (Pc.out.keep (Hg.out.trans (M5.out.trans hd)))
           rw [Mo.out] at Hf
           have Hp := jH Hf
           clear Ho Hf
           refine wp_region_head (S := Cells [(gb, 13, .slice HU Hz Hh), (w.heap.size, 0, .slice x0 TL Kj), (w.heap.size, 1, .slice x1 NF KQ), (w.heap.size, 2, .slice x2 NT KR), (w.heap.size, 3, .slice x3 m.Data.length Mj), (w.heap.size, 4, .slice x4 m.Lines.length Mk), (w.heap.size, 5, .int .i64 m.Entry)]) 6 jx jx jx jx jd jx ?hS20 (fun H0 => ?_)
           case hS20 => exact ⟨K6, v0, v1, v2, v3, v4, v5, trivial⟩
           simp only [jU]
           refine jp 0 H0 ?_
           refine jp 1 H0 ?_
           refine jp 2 H0 ?_
           refine jp 3 H0 ?_
           refine readyC 4 ?_
           intro K' hK
           go_simp
           go_at_call 42
           refine Hp.out.mono ?_
           rintro e wz ⟨rfl, Ky⟩
           refine goOn hK (H0.keep Ky) (fun hHeld2 => ?_)
           clear hK K' H0
           have H0 := hHeld2
           clear hHeld2 Hp
           have Kz := jH (hd.trans Ky)
           clear Ky hd K6 v0 v1 v2 v3 v4 v5
           refine readyC 5 ?_
           intro K hK
           go_simp
           refine goOn hK (Cells.keep H0 ((Keeps.refl _).alloc _)) ?_
           clear hK K H0
           intro H0
           refine wpAnyH_done jx ?_ _
           dsimp only [TailQ]
           clear H0
           obtain ⟨M6, HN⟩ := jE (Hz + 1)
           have Km := jH (show ((b.Lines ++ [LV]) ++ [LV]).length = M6 by rw [List.length_append, List.length_singleton, HN, Hv.out])
           clear HN
           go_upto_region 88 with (at_builtin; refine wpList_pushes jr (.tmp 384) (.tmp 388) 25 jr Tryd.underlying25 info_int jr jd (base := wa.heap.size) (f := ci) (l := (b.Lines ++ [LV])) jr (by exact (Hl.out.keep (Kz.out.trans (by repeat (with_reducible (first | assumption | exact Keeps.refl _ | refine Keeps.alloc ?_ _ | refine Keeps.drew ?_))))).rows.2.2.1) [LV] _ _ jr jt ci_len ci_one (by simp only [jL, ← Hv.out]; omega) (by simp only [jL, ← Hv.out]; unfold maxLen; omega) (by have := M5.out.size; have := Kz.out.size; first | omega | (simp only [sz_alloc]; omega)) ?_; intro v7 w7 H1 Ha Hb Hc; obtain ⟨MO, Kd, e7⟩ := own_form' H1; rw [Km.out] at e7; subst e7; obtain ⟨c7, HE, K7⟩ := Hl.out.rows.2.2.push (Kz.out.trans ku5) H1 Hb Hc; have H5 := Hl.out.blk.turn HE jo; have K6 := jv w7 gb 13 (.slice HU Hz Hh) (H5.1.cell rfl); have Po := H5.1.thawed 13; have gl := H5.1.lt)
           obtain ⟨Hk, He⟩ := Hl.out.setLn (s7 := ⟨MO, M6, Kd⟩) HE K7
           obtain ⟨Kk, Hx⟩ : ∃ w', w' = w7.setCell ⟨gb, 13, none⟩ (.slice MO M6 Kd) := ⟨_, rfl⟩
           rw [← Hx] at Hk He
           rw [← Hx]
           obtain ⟨HZ, Kc, Ht⟩ := hid3 Hk (HO.out.trans (He.mono (J := (fun z => z = 12 ∨ z = 13 ∨ z = 16 + 3 * NB ∨ z = 17 + 3 * NB ∨ z = 18 + 3 * NB)) fun z h => by omega)) (HP.out.turn He jo)
           clear Hk He Hx H5 K6 Po gl HE K7 H1 Ha Hb Hc
           have M1 := jH (HZ.out.cast (show _ = pbR m ⟨(H4 : Int), Z, ⟨K, D, A, B, N, Lg⟩⟩ b from by unfold pbR; rw [if_neg M2.out, if_neg Mu.out, if_pos Pt.out]; rw [Mo.out, M3.out]))
           go_wp2_with fail
           go_roundw
           case rel => exact ⟨kk + 1, Y, _, pbR m ⟨(H4 : Int), Z, ⟨K, D, A, B, N, Lg⟩⟩ b, _, by omega, by go_num, jH (by rw [KI.out, HY.out]), Kc, M1, PO, jH (by have := Kw.out; omega), KH⟩
           case measure => exact jm
          case neg =>
          have U1 := MJ.out hst
          subst U1
          have Pt := jH hst
          clear hst
          obtain ⟨Pu, -, U2, -, -⟩ := ownC_cell (MA.out.turn (HT.out.trans (HO.out.mono (J := (fun z => z = 4 ∨ z = 10 ∨ z = 12 ∨ z = 13 ∨ (16 ≤ z ∧ z < 100000))) fun z h => by omega)) jo) (j := Y) (by simp; omega)
          rw [nthRange (fun x : Nat => isL m x) jo] at Pu
          obtain ⟨BY, Qu⟩ := jE (isL m Y)
          rw [← Qu] at Pu
          have Qv : HC.cell? ⟨gB, Y, none⟩ = some (.bool BY) := Pu
          have S8 := jH Qu
          clear Pu Qu
          cases BY with
          | false =>
           have Qw : Hid (¬ isL m ((H4 : Int) + Z) = true) := jH (by rw [← HY.out, ← S8.out]; decide)
           have M1 := jH (Hl.out.cast (show _ = pbR m ⟨(H4 : Int), Z, ⟨K, D, A, B, N, Lg⟩⟩ b from by unfold pbR; rw [if_neg M2.out, if_neg Mu.out, if_neg Pt.out, if_neg Qw.out]; rw [Mo.out, M3.out]))
           go_wp2_with fail
           go_roundw
           case rel => exact ⟨kk + 1, Y, _, pbR m ⟨(H4 : Int), Z, ⟨K, D, A, B, N, Lg⟩⟩ b, _, by omega, by go_num, jH (by rw [KI.out, HY.out]), HO, M1, PO, jH (by have := Kw.out; omega), KH⟩
           case measure => exact jm
          | true =>
           have Qw : Hid (isL m ((H4 : Int) + Z) = true) := jH (by rw [← HY.out, ← S8.out])
           have H5 := Hl.out.blk.1
           have U3 := H5.thawed 10
           have gl := H5.lt
           have H7 := Hl.out.sc
           go_upto_region 79 with fail
           obtain ⟨M7, KA⟩ := Hl.out.put (r' := ⟨rF, rS, ⟨k9, ML, Ps⟩, ⟨a9, KK, KU⟩, ⟨lK, lD, lA, lB, lN, lLg⟩, 2, rT, rL, ⟨HU, Hz, Hh⟩⟩) (b' := { b with At := b.At ++ [(H4 : Int)], Lines := b.Lines ++ [LV], Ends := 2, Code := b.Code ++ [(⟨K, D, A, B, FA, Lg⟩ : Ic)] }) 10 (.int .i64 2) rfl ⟨H7.1, H7.2.1, H7.2.2.1, rfl, H7.2.2.2.2.1, H7.2.2.2.2.2⟩ rfl rfl rfl rfl rfl rfl
           obtain ⟨Kk, Hx⟩ : ∃ w', w' = HC.setCell ⟨gb, 10, none⟩ (.int .i64 2) := ⟨_, rfl⟩
           rw [← Hx] at M7 KA
           rw [← Hx]
           obtain ⟨HZ, Kc, Ht⟩ := hid3 M7 (HO.out.trans (KA.mono (J := (fun z => z = 12 ∨ z = 13 ∨ z = 16 + 3 * NB ∨ z = 17 + 3 * NB ∨ z = 18 + 3 * NB)) fun z h => by omega)) (HP.out.turn KA jo)
           clear M7 KA Hx H5 Kq U3 gl H7 Qv U2
           have HB : Y < N1 := Qd
           have MI : (Y : Int) < (N1 : Int) := Qe
           have hX := HY.out.symm
           have wX := wY
           obtain ⟨p1, -, p3, -, -⟩ := ownC_cell (Ph.out.turn ((HT.out.trans (Kc.out.mono (J := (fun z => z = 4 ∨ z = 10 ∨ z = 12 ∨ z = 13 ∨ (16 ≤ z ∧ z < 100000))) fun z h => by omega))) jo) (j := Y) (by rw [plArr_len]; exact HB)
           rw [HI.out, plArr_all _ HB] at p1
           obtain ⟨K0, HX⟩ := jE (plR m Y)
           rw [← HX] at p1
           have Ka : Kk.cell? ⟨gP, Y, none⟩ = some (.int .i64 K0) := p1
           have MP : Hid (plR m ((H4 : Int) + Z) = K0) := jH (by rw [hX, HX])
           have u0 := jc Kk gq 0 K ((Ht.out.1).cell rfl)
           have u1 := jc Kk gq 1 D ((Ht.out.1).cell rfl)
           have u2 := jc Kk gq 2 A ((Ht.out.1).cell rfl)
           have u3 := jc Kk gq 3 B ((Ht.out.1).cell rfl)
           have u4 := jc Kk gq 4 FA ((Ht.out.1).cell rfl)
           have u5 := jv Kk gq 5 (.bool Lg) ((Ht.out.1).cell rfl)
           have ul := (Ht.out.1).lt
           have H5 := HZ.out.blk.1
           have gx := jc Kk gb 11 rT (H5.cell rfl)
           have fx := H5.thawed 11
           have gl := H5.lt
           have H7 := HZ.out.sc
           clear hX HX p1
           go_upto_region 80 with fail
           obtain ⟨Hk, He⟩ := HZ.out.put (r' := ⟨rF, rS, ⟨k9, ML, Ps⟩, ⟨a9, KK, KU⟩, ⟨lK, lD, lA, lB, lN, lLg⟩, 2, K0, rL, ⟨HU, Hz, Hh⟩⟩) (b' := { b with At := b.At ++ [(H4 : Int)], Lines := b.Lines ++ [LV], Ends := 2, Code := b.Code ++ [(⟨K, D, A, B, FA, Lg⟩ : Ic)] , To := K0 }) 11 (.int .i64 K0) rfl ⟨H7.1, H7.2.1, H7.2.2.1, H7.2.2.2.1, rfl, H7.2.2.2.2.2⟩ rfl rfl rfl rfl rfl rfl
           obtain ⟨Ke, M8⟩ : ∃ w', w' = Kk.setCell ⟨gb, 11, none⟩ (.int .i64 K0) := ⟨_, rfl⟩
           rw [← M8] at Hk He
           rw [← M8]
           obtain ⟨K1, MQ, Qx⟩ := hid3 Hk (Kc.out.trans (He.mono (J := (fun z => z = 12 ∨ z = 13 ∨ z = 16 + 3 * NB ∨ z = 17 + 3 * NB ∨ z = 18 + 3 * NB)) fun z h => by omega)) (Ht.out.turn He jo)
           clear Hk He M8 H5 gx fx gl H7 wX p3 Ka MI u0 u1 u2 u3 u4 u5 ul
           have Kq := jc Ke gb 10 2 (K1.out.blk.1.cell rfl)
           go_upto_region 81 with fail
           clear Kq
           have MR : Keeps wa Ke := (Mm.out.trans ((HT.out.trans (MQ.out.mono (J := (fun z => z = 4 ∨ z = 10 ∨ z = 12 ∨ z = 13 ∨ (16 ≤ z ∧ z < 100000))) fun z h => by omega)).mono (J := (fun z => z ≠ 0)) fun z h => by omega)).below (Nat.le_refl _) (fun _ _ => rfl) (fun q => q rfl)
           have M9 := jH MR
           clear MR
           have hd : Keeps Ke Ke.drew := (Keeps.refl _).drew
           have K6 := jv Ke.drew gb 13 (.slice HU Hz Hh) (K1.out.cell rfl)
           have Ho := (HD.out.keep M9.out).keep hd
           have v0 := jv Ke.drew w.heap.size 0 (.slice x0 TL Kj) (Ho.cell rfl)
           have v1 := jv Ke.drew w.heap.size 1 (.slice x1 NF KQ) (Ho.cell rfl)
           have v2 := jv Ke.drew w.heap.size 2 (.slice x2 NT KR) (Ho.cell rfl)
           have v3 := jv Ke.drew w.heap.size 3 (.slice x3 m.Data.length Mj) (Ho.cell rfl)
           have v4 := jv Ke.drew w.heap.size 4 (.slice x4 m.Lines.length Mk) (Ho.cell rfl)
           have v5 := jc Ke.drew w.heap.size 5 m.Entry (Ho.cell rfl)
           have Hf := lineOf_any _ m (H4 : Int) _ (Pc.out.keep (Hg.out.trans (M9.out.trans hd)))
           rw [Mo.out] at Hf
           have Hp := jH Hf
           clear Ho Hf
           refine wp_region_head (S := Cells [(gb, 13, .slice HU Hz Hh), (w.heap.size, 0, .slice x0 TL Kj), (w.heap.size, 1, .slice x1 NF KQ), (w.heap.size, 2, .slice x2 NT KR), (w.heap.size, 3, .slice x3 m.Data.length Mj), (w.heap.size, 4, .slice x4 m.Lines.length Mk), (w.heap.size, 5, .int .i64 m.Entry)]) 6 jx jx jx jx jd jx ?hS21 (fun H0 => ?_)
           case hS21 => exact ⟨K6, v0, v1, v2, v3, v4, v5, trivial⟩
           simp only [jU]
           refine jp 0 H0 ?_
           refine jp 1 H0 ?_
           refine jp 2 H0 ?_
           refine jp 3 H0 ?_
           refine readyC 4 ?_
           intro K' hK
           go_simp
           go_at_call 42
           refine Hp.out.mono ?_
           rintro e wz ⟨rfl, Ky⟩
           refine goOn hK (H0.keep Ky) (fun hHeld2 => ?_)
           clear hK K' H0
           have H0 := hHeld2
           clear hHeld2 Hp
           have Kz := jH (hd.trans Ky)
           clear Ky hd K6 v0 v1 v2 v3 v4 v5
           refine readyC 5 ?_
           intro K hK
           go_simp
           refine goOn hK (Cells.keep H0 ((Keeps.refl _).alloc _)) ?_
           clear hK K H0
           intro H0
           refine wpAnyH_done jx ?_ _
           dsimp only [TailQ]
           clear H0
           obtain ⟨M6, HN⟩ := jE (Hz + 1)
           have Km := jH (show ((b.Lines ++ [LV]) ++ [LV]).length = M6 by rw [List.length_append, List.length_singleton, HN, Hv.out])
           clear HN
           go_upto_region 88 with (at_builtin; refine wpList_pushes jr (.tmp 384) (.tmp 388) 25 jr Tryd.underlying25 info_int jr jd (base := wa.heap.size) (f := ci) (l := (b.Lines ++ [LV])) jr (by exact (K1.out.keep (Kz.out.trans (by repeat (with_reducible (first | assumption | exact Keeps.refl _ | refine Keeps.alloc ?_ _ | refine Keeps.drew ?_))))).rows.2.2.1) [LV] _ _ jr jt ci_len ci_one (by simp only [jL, ← Hv.out]; omega) (by simp only [jL, ← Hv.out]; unfold maxLen; omega) (by have := M9.out.size; have := Kz.out.size; first | omega | (simp only [sz_alloc]; omega)) ?_; intro v7 w7 H1 Ha Hb Hc; obtain ⟨MO, Kd, e7⟩ := own_form' H1; rw [Km.out] at e7; subst e7; obtain ⟨c7, HE, K7⟩ := K1.out.rows.2.2.push (Kz.out.trans ku5) H1 Hb Hc; have H5 := K1.out.blk.turn HE jo; have K6 := jv w7 gb 13 (.slice HU Hz Hh) (H5.1.cell rfl); have Po := H5.1.thawed 13; have gl := H5.1.lt)
           obtain ⟨Hk, He⟩ := K1.out.setLn (s7 := ⟨MO, M6, Kd⟩) HE K7
           obtain ⟨Wo, Ma⟩ : ∃ w', w' = w7.setCell ⟨gb, 13, none⟩ (.slice MO M6 Kd) := ⟨_, rfl⟩
           rw [← Ma] at Hk He
           rw [← Ma]
           obtain ⟨Qy, Qz, U4⟩ := hid3 Hk (MQ.out.trans (He.mono (J := (fun z => z = 12 ∨ z = 13 ∨ z = 16 + 3 * NB ∨ z = 17 + 3 * NB ∨ z = 18 + 3 * NB)) fun z h => by omega)) (Qx.out.turn He jo)
           clear Hk He Ma H5 K6 Po gl HE K7 H1 Ha Hb Hc
           have M1 := jH (Qy.out.cast (show _ = pbR m ⟨(H4 : Int), Z, ⟨K, D, A, B, N, Lg⟩⟩ b from by unfold pbR; rw [if_neg M2.out, if_neg Mu.out, if_neg Pt.out, if_pos Qw.out]; rw [Mo.out, M3.out]; dsimp only; rw [MP.out]))
           go_wp2_with fail
           go_roundw
           case rel => exact ⟨kk + 1, Y, _, pbR m ⟨(H4 : Int), Z, ⟨K, D, A, B, N, Lg⟩⟩ b, _, by omega, by go_num, jH (by rw [KI.out, HY.out]), Qz, M1, PO, jH (by have := Kw.out; omega), KH⟩
           case measure => exact jm
         case neg =>
         as_aux_lemma =>
         have tk : (K == 23) = false := by simpa using Hu
         have M3 : Hid (plainI m ⟨(H4 : Int), Z, ⟨K, D, A, B, N, Lg⟩⟩ = (⟨K, D, A, B, N, Lg⟩ : Ic)) := jH (by unfold plainI; rw [if_neg Hu]; rfl)
         clear Hu
         have Kq := jc Hj gb 10 EN (HL.out.blk.1.cell rfl)
         have u0 := jc Hj gq 0 K ((H6.out.1).cell rfl)
         have u1 := jc Hj gq 1 D ((H6.out.1).cell rfl)
         have u2 := jc Hj gq 2 A ((H6.out.1).cell rfl)
         have u3 := jc Hj gq 3 B ((H6.out.1).cell rfl)
         have u4 := jc Hj gq 4 N ((H6.out.1).cell rfl)
         have u5 := jv Hj gq 5 (.bool Lg) ((H6.out.1).cell rfl)
         have ul := (H6.out.1).lt
         go_upto_region 76 with fail
         clear tk Kq u0 u1 u2 u3 u4 u5 ul
         have u0 := jc Hj gq 0 K ((H6.out.1).cell rfl)
         have u1 := jc Hj gq 1 D ((H6.out.1).cell rfl)
         have u2 := jc Hj gq 2 A ((H6.out.1).cell rfl)
         have u3 := jc Hj gq 3 B ((H6.out.1).cell rfl)
         have u4 := jc Hj gq 4 N ((H6.out.1).cell rfl)
         have u5 := jv Hj gq 5 (.bool Lg) ((H6.out.1).cell rfl)
         have ul := (H6.out.1).lt
         have H5 := HL.out.blk.1
         have e2 := jv Hj gb 2 (.slice ca cn cc0) (H5.cell rfl)
         obtain ⟨ML, MM⟩ := jE (cn + 1)
         have Qt := jH (show (b.Code ++ [(⟨K, D, A, B, N, Lg⟩ : Ic)]).length = ML by rw [List.length_append, List.length_singleton, MM, Mp.out])
         clear MM H5
         have MK : Keeps wa Hj := (Mm.out.trans ((HT.out.trans (KZ.out.mono (J := (fun z => z = 4 ∨ z = 10 ∨ z = 12 ∨ z = 13 ∨ (16 ≤ z ∧ z < 100000))) fun z h => by omega)).mono (J := (fun z => z ≠ 0)) fun z h => by omega)).below (Nat.le_refl _) (fun _ _ => rfl) (fun q => q rfl)
         have Pq := jH MK
         clear MK
         go_upto_region 77 with (first | ((with_reducible show wpList _ _ _ (_ :: _) _ _); refine wpList_loadIns jr (.tmp 27) jr jr H6.out.1 ?_) | ((with_reducible show wpList _ _ _ (_ :: _) _ _); refine wpList_makeIns jr 357 jr jr ?_) | (at_builtin; refine wpList_pushes jr (.tmp 356) (.tmp 358) 90 jr Tryd.underlying90 info_instr jr jd (base := wa.heap.size) (f := cic) (l := b.Code) jr (by exact (HL.out.keep ku5).rows.1.1) [⟨K, D, A, B, N, Lg⟩] _ _ jr jt cic_len cic_one (by simp only [jL, ← Mp.out]; omega) (by simp only [jL, ← Mp.out]; unfold maxLen; omega) (by have := Pq.out.size; first | omega | (simp only [sz_alloc]; omega)) ?_; intro v7 w7 H1 Ha Hb Hc; obtain ⟨k9, Ps, e7⟩ := own_form' H1; rw [Qt.out] at e7; subst e7; obtain ⟨c7, HE, K7⟩ := HL.out.rows.1.push (show Keeps Hj _ from ku5) H1 Hb Hc; have H5 := HL.out.blk.turn HE jo; have g2 := jv w7 gb 2 (.slice ca cn cc0) (H5.1.cell rfl); have f2 := H5.1.thawed 2; have gl := H5.1.lt))
         obtain ⟨Hk, He⟩ := HL.out.setCode (s7 := ⟨k9, ML, Ps⟩) HE K7
         obtain ⟨HC, Kb⟩ : ∃ w', w' = w7.setCell ⟨gb, 2, none⟩ (.slice k9 ML Ps) := ⟨_, rfl⟩
         rw [← Kb] at Hk He
         rw [← Kb]
         obtain ⟨Hl, HO, HP⟩ := hid3 Hk (KZ.out.trans (He.mono (J := (fun z => z = 12 ∨ z = 13 ∨ z = 16 + 3 * NB ∨ z = 17 + 3 * NB ∨ z = 18 + 3 * NB)) fun z h => by omega)) (H6.out.turn He jo)
         clear Hk He Kb H5 g2 f2 gl HE K7 H1 Ha Hb Hc e2 u0 u1 u2 u3 u4 u5 ul
         have M4 : Hz = (b.Lines ++ [LV]).length := PQ.out
         have Hv := jH M4
         have S7 : Hz ≤ 10000 := by have := Kp.out.2.2; rw [M4, List.length_append, List.length_singleton]; omega
         clear M4
         have Kq := jc HC gb 10 EN (Hl.out.blk.1.cell rfl)
         by_cases hst : stN K = true
         case pos =>
          have U0 := Qo.out hst
          subst U0
          have Pt := jH hst
          clear hst
          go_upto_region 81 with fail
          clear Kq
          have MN : Keeps wa HC := (Mm.out.trans ((HT.out.trans (HO.out.mono (J := (fun z => z = 4 ∨ z = 10 ∨ z = 12 ∨ z = 13 ∨ (16 ≤ z ∧ z < 100000))) fun z h => by omega)).mono (J := (fun z => z ≠ 0)) fun z h => by omega)).below (Nat.le_refl _) (fun _ _ => rfl) (fun q => q rfl)
          have M5 := jH MN
          clear MN
          have hd : Keeps HC HC.drew := (Keeps.refl _).drew
          have K6 := jv HC.drew gb 13 (.slice HU Hz Hh) (Hl.out.cell rfl)
          have Ho := (HD.out.keep M5.out).keep hd
          have v0 := jv HC.drew w.heap.size 0 (.slice x0 TL Kj) (Ho.cell rfl)
          have v1 := jv HC.drew w.heap.size 1 (.slice x1 NF KQ) (Ho.cell rfl)
          have v2 := jv HC.drew w.heap.size 2 (.slice x2 NT KR) (Ho.cell rfl)
          have v3 := jv HC.drew w.heap.size 3 (.slice x3 m.Data.length Mj) (Ho.cell rfl)
          have v4 := jv HC.drew w.heap.size 4 (.slice x4 m.Lines.length Mk) (Ho.cell rfl)
          have v5 := jc HC.drew w.heap.size 5 m.Entry (Ho.cell rfl)
          have Hf := lineOf_any _ m (H4 : Int) _ (Pc.out.keep (Hg.out.trans (M5.out.trans hd)))
          rw [Mo.out] at Hf
          have Hp := jH Hf
          clear Ho Hf
          refine wp_region_head (S := Cells [(gb, 13, .slice HU Hz Hh), (w.heap.size, 0, .slice x0 TL Kj), (w.heap.size, 1, .slice x1 NF KQ), (w.heap.size, 2, .slice x2 NT KR), (w.heap.size, 3, .slice x3 m.Data.length Mj), (w.heap.size, 4, .slice x4 m.Lines.length Mk), (w.heap.size, 5, .int .i64 m.Entry)]) 6 jx jx jx jx jd jx ?hS22 (fun H0 => ?_)
          case hS22 => exact ⟨K6, v0, v1, v2, v3, v4, v5, trivial⟩
          simp only [jU]
          refine jp 0 H0 ?_
          refine jp 1 H0 ?_
          refine jp 2 H0 ?_
          refine jp 3 H0 ?_
          refine readyC 4 ?_
          intro K' hK
          go_simp
          go_at_call 42
          refine Hp.out.mono ?_
          rintro e wz ⟨rfl, Ky⟩
          refine goOn hK (H0.keep Ky) (fun hHeld2 => ?_)
          clear hK K' H0
          have H0 := hHeld2
          clear hHeld2 Hp
          have Kz := jH (hd.trans Ky)
          clear Ky hd K6 v0 v1 v2 v3 v4 v5
          refine readyC 5 ?_
          intro K hK
          go_simp
          refine goOn hK (Cells.keep H0 ((Keeps.refl _).alloc _)) ?_
          clear hK K H0
          intro H0
          refine wpAnyH_done jx ?_ _
          dsimp only [TailQ]
          clear H0
          obtain ⟨M6, HN⟩ := jE (Hz + 1)
          have Km := jH (show ((b.Lines ++ [LV]) ++ [LV]).length = M6 by rw [List.length_append, List.length_singleton, HN, Hv.out])
          clear HN
          go_upto_region 88 with (at_builtin; refine wpList_pushes jr (.tmp 384) (.tmp 388) 25 jr Tryd.underlying25 info_int jr jd (base := wa.heap.size) (f := ci) (l := (b.Lines ++ [LV])) jr (by exact (Hl.out.keep (Kz.out.trans (by repeat (with_reducible (first | assumption | exact Keeps.refl _ | refine Keeps.alloc ?_ _ | refine Keeps.drew ?_))))).rows.2.2.1) [LV] _ _ jr jt ci_len ci_one (by simp only [jL, ← Hv.out]; omega) (by simp only [jL, ← Hv.out]; unfold maxLen; omega) (by have := M5.out.size; have := Kz.out.size; first | omega | (simp only [sz_alloc]; omega)) ?_; intro v7 w7 H1 Ha Hb Hc; obtain ⟨MO, Kd, e7⟩ := own_form' H1; rw [Km.out] at e7; subst e7; obtain ⟨c7, HE, K7⟩ := Hl.out.rows.2.2.push (Kz.out.trans ku5) H1 Hb Hc; have H5 := Hl.out.blk.turn HE jo; have K6 := jv w7 gb 13 (.slice HU Hz Hh) (H5.1.cell rfl); have Po := H5.1.thawed 13; have gl := H5.1.lt)
          obtain ⟨Hk, He⟩ := Hl.out.setLn (s7 := ⟨MO, M6, Kd⟩) HE K7
          obtain ⟨Kk, Hx⟩ : ∃ w', w' = w7.setCell ⟨gb, 13, none⟩ (.slice MO M6 Kd) := ⟨_, rfl⟩
          rw [← Hx] at Hk He
          rw [← Hx]
          obtain ⟨HZ, Kc, Ht⟩ := hid3 Hk (HO.out.trans (He.mono (J := (fun z => z = 12 ∨ z = 13 ∨ z = 16 + 3 * NB ∨ z = 17 + 3 * NB ∨ z = 18 + 3 * NB)) fun z h => by omega)) (HP.out.turn He jo)
          clear Hk He Hx H5 K6 Po gl HE K7 H1 Ha Hb Hc
          have M1 := jH (HZ.out.cast (show _ = pbR m ⟨(H4 : Int), Z, ⟨K, D, A, B, N, Lg⟩⟩ b from by unfold pbR; rw [if_neg M2.out, if_neg Mu.out, if_pos Pt.out]; rw [Mo.out, M3.out]))
          go_wp2_with fail
          go_roundw
          case rel => exact ⟨kk + 1, Y, _, pbR m ⟨(H4 : Int), Z, ⟨K, D, A, B, N, Lg⟩⟩ b, _, by omega, by go_num, jH (by rw [KI.out, HY.out]), Kc, M1, PO, jH (by have := Kw.out; omega), KH⟩
          case measure => exact jm
         case neg =>
         have U1 := MJ.out hst
         subst U1
         have Pt := jH hst
         clear hst
         obtain ⟨Pu, -, U2, -, -⟩ := ownC_cell (MA.out.turn (HT.out.trans (HO.out.mono (J := (fun z => z = 4 ∨ z = 10 ∨ z = 12 ∨ z = 13 ∨ (16 ≤ z ∧ z < 100000))) fun z h => by omega)) jo) (j := Y) (by simp; omega)
         rw [nthRange (fun x : Nat => isL m x) jo] at Pu
         obtain ⟨BY, Qu⟩ := jE (isL m Y)
         rw [← Qu] at Pu
         have Qv : HC.cell? ⟨gB, Y, none⟩ = some (.bool BY) := Pu
         have S8 := jH Qu
         clear Pu Qu
         cases BY with
         | false =>
          have Qw : Hid (¬ isL m ((H4 : Int) + Z) = true) := jH (by rw [← HY.out, ← S8.out]; decide)
          have M1 := jH (Hl.out.cast (show _ = pbR m ⟨(H4 : Int), Z, ⟨K, D, A, B, N, Lg⟩⟩ b from by unfold pbR; rw [if_neg M2.out, if_neg Mu.out, if_neg Pt.out, if_neg Qw.out]; rw [Mo.out, M3.out]))
          go_wp2_with fail
          go_roundw
          case rel => exact ⟨kk + 1, Y, _, pbR m ⟨(H4 : Int), Z, ⟨K, D, A, B, N, Lg⟩⟩ b, _, by omega, by go_num, jH (by rw [KI.out, HY.out]), HO, M1, PO, jH (by have := Kw.out; omega), KH⟩
          case measure => exact jm
         | true =>
          have Qw : Hid (isL m ((H4 : Int) + Z) = true) := jH (by rw [← HY.out, ← S8.out])
          have H5 := Hl.out.blk.1
          have U3 := H5.thawed 10
          have gl := H5.lt
          have H7 := Hl.out.sc
          go_upto_region 79 with fail
          obtain ⟨M7, KA⟩ := Hl.out.put (r' := ⟨rF, rS, ⟨k9, ML, Ps⟩, ⟨a9, KK, KU⟩, ⟨lK, lD, lA, lB, lN, lLg⟩, 2, rT, rL, ⟨HU, Hz, Hh⟩⟩) (b' := { b with At := b.At ++ [(H4 : Int)], Lines := b.Lines ++ [LV], Ends := 2, Code := b.Code ++ [(⟨K, D, A, B, N, Lg⟩ : Ic)] }) 10 (.int .i64 2) rfl ⟨H7.1, H7.2.1, H7.2.2.1, rfl, H7.2.2.2.2.1, H7.2.2.2.2.2⟩ rfl rfl rfl rfl rfl rfl
          obtain ⟨Kk, Hx⟩ : ∃ w', w' = HC.setCell ⟨gb, 10, none⟩ (.int .i64 2) := ⟨_, rfl⟩
          rw [← Hx] at M7 KA
          rw [← Hx]
          obtain ⟨HZ, Kc, Ht⟩ := hid3 M7 (HO.out.trans (KA.mono (J := (fun z => z = 12 ∨ z = 13 ∨ z = 16 + 3 * NB ∨ z = 17 + 3 * NB ∨ z = 18 + 3 * NB)) fun z h => by omega)) (HP.out.turn KA jo)
          clear M7 KA Hx H5 Kq U3 gl H7 Qv U2
          have HB : Y < N1 := Qd
          have MI : (Y : Int) < (N1 : Int) := Qe
          have hX := HY.out.symm
          have wX := wY
          obtain ⟨p1, -, p3, -, -⟩ := ownC_cell (Ph.out.turn ((HT.out.trans (Kc.out.mono (J := (fun z => z = 4 ∨ z = 10 ∨ z = 12 ∨ z = 13 ∨ (16 ≤ z ∧ z < 100000))) fun z h => by omega))) jo) (j := Y) (by rw [plArr_len]; exact HB)
          rw [HI.out, plArr_all _ HB] at p1
          obtain ⟨K0, HX⟩ := jE (plR m Y)
          rw [← HX] at p1
          have Ka : Kk.cell? ⟨gP, Y, none⟩ = some (.int .i64 K0) := p1
          have MP : Hid (plR m ((H4 : Int) + Z) = K0) := jH (by rw [hX, HX])
          have u0 := jc Kk gq 0 K ((Ht.out.1).cell rfl)
          have u1 := jc Kk gq 1 D ((Ht.out.1).cell rfl)
          have u2 := jc Kk gq 2 A ((Ht.out.1).cell rfl)
          have u3 := jc Kk gq 3 B ((Ht.out.1).cell rfl)
          have u4 := jc Kk gq 4 N ((Ht.out.1).cell rfl)
          have u5 := jv Kk gq 5 (.bool Lg) ((Ht.out.1).cell rfl)
          have ul := (Ht.out.1).lt
          have H5 := HZ.out.blk.1
          have gx := jc Kk gb 11 rT (H5.cell rfl)
          have fx := H5.thawed 11
          have gl := H5.lt
          have H7 := HZ.out.sc
          clear hX HX p1
          go_upto_region 80 with fail
          obtain ⟨Hk, He⟩ := HZ.out.put (r' := ⟨rF, rS, ⟨k9, ML, Ps⟩, ⟨a9, KK, KU⟩, ⟨lK, lD, lA, lB, lN, lLg⟩, 2, K0, rL, ⟨HU, Hz, Hh⟩⟩) (b' := { b with At := b.At ++ [(H4 : Int)], Lines := b.Lines ++ [LV], Ends := 2, Code := b.Code ++ [(⟨K, D, A, B, N, Lg⟩ : Ic)] , To := K0 }) 11 (.int .i64 K0) rfl ⟨H7.1, H7.2.1, H7.2.2.1, H7.2.2.2.1, rfl, H7.2.2.2.2.2⟩ rfl rfl rfl rfl rfl rfl
          obtain ⟨Ke, M8⟩ : ∃ w', w' = Kk.setCell ⟨gb, 11, none⟩ (.int .i64 K0) := ⟨_, rfl⟩
          rw [← M8] at Hk He
          rw [← M8]
          obtain ⟨K1, MQ, Qx⟩ := hid3 Hk (Kc.out.trans (He.mono (J := (fun z => z = 12 ∨ z = 13 ∨ z = 16 + 3 * NB ∨ z = 17 + 3 * NB ∨ z = 18 + 3 * NB)) fun z h => by omega)) (Ht.out.turn He jo)
          clear Hk He M8 H5 gx fx gl H7 wX p3 Ka MI u0 u1 u2 u3 u4 u5 ul
          have Kq := jc Ke gb 10 2 (K1.out.blk.1.cell rfl)
          go_upto_region 81 with fail
          clear Kq
          have MR : Keeps wa Ke := (Mm.out.trans ((HT.out.trans (MQ.out.mono (J := (fun z => z = 4 ∨ z = 10 ∨ z = 12 ∨ z = 13 ∨ (16 ≤ z ∧ z < 100000))) fun z h => by omega)).mono (J := (fun z => z ≠ 0)) fun z h => by omega)).below (Nat.le_refl _) (fun _ _ => rfl) (fun q => q rfl)
          have M9 := jH MR
          clear MR
          have hd : Keeps Ke Ke.drew := (Keeps.refl _).drew
          have K6 := jv Ke.drew gb 13 (.slice HU Hz Hh) (K1.out.cell rfl)
          have Ho := (HD.out.keep M9.out).keep hd
          have v0 := jv Ke.drew w.heap.size 0 (.slice x0 TL Kj) (Ho.cell rfl)
          have v1 := jv Ke.drew w.heap.size 1 (.slice x1 NF KQ) (Ho.cell rfl)
          have v2 := jv Ke.drew w.heap.size 2 (.slice x2 NT KR) (Ho.cell rfl)
          have v3 := jv Ke.drew w.heap.size 3 (.slice x3 m.Data.length Mj) (Ho.cell rfl)
          have v4 := jv Ke.drew w.heap.size 4 (.slice x4 m.Lines.length Mk) (Ho.cell rfl)
          have v5 := jc Ke.drew w.heap.size 5 m.Entry (Ho.cell rfl)
          have Hf := lineOf_any _ m (H4 : Int) _ (Pc.out.keep (Hg.out.trans (M9.out.trans hd)))
          rw [Mo.out] at Hf
          have Hp := jH Hf
          clear Ho Hf
          refine wp_region_head (S := Cells [(gb, 13, .slice HU Hz Hh), (w.heap.size, 0, .slice x0 TL Kj), (w.heap.size, 1, .slice x1 NF KQ), (w.heap.size, 2, .slice x2 NT KR), (w.heap.size, 3, .slice x3 m.Data.length Mj), (w.heap.size, 4, .slice x4 m.Lines.length Mk), (w.heap.size, 5, .int .i64 m.Entry)]) 6 jx jx jx jx jd jx ?hS23 (fun H0 => ?_)
          case hS23 => exact ⟨K6, v0, v1, v2, v3, v4, v5, trivial⟩
          simp only [jU]
          refine jp 0 H0 ?_
          refine jp 1 H0 ?_
          refine jp 2 H0 ?_
          refine jp 3 H0 ?_
          refine readyC 4 ?_
          intro K' hK
          go_simp
          go_at_call 42
          refine Hp.out.mono ?_
          rintro e wz ⟨rfl, Ky⟩
          refine goOn hK (H0.keep Ky) (fun hHeld2 => ?_)
          clear hK K' H0
          have H0 := hHeld2
          clear hHeld2 Hp
          have Kz := jH (hd.trans Ky)
          clear Ky hd K6 v0 v1 v2 v3 v4 v5
          refine readyC 5 ?_
          intro K hK
          go_simp
          refine goOn hK (Cells.keep H0 ((Keeps.refl _).alloc _)) ?_
          clear hK K H0
          intro H0
          refine wpAnyH_done jx ?_ _
          dsimp only [TailQ]
          clear H0
          obtain ⟨M6, HN⟩ := jE (Hz + 1)
          have Km := jH (show ((b.Lines ++ [LV]) ++ [LV]).length = M6 by rw [List.length_append, List.length_singleton, HN, Hv.out])
          clear HN
          go_upto_region 88 with (at_builtin; refine wpList_pushes jr (.tmp 384) (.tmp 388) 25 jr Tryd.underlying25 info_int jr jd (base := wa.heap.size) (f := ci) (l := (b.Lines ++ [LV])) jr (by exact (K1.out.keep (Kz.out.trans (by repeat (with_reducible (first | assumption | exact Keeps.refl _ | refine Keeps.alloc ?_ _ | refine Keeps.drew ?_))))).rows.2.2.1) [LV] _ _ jr jt ci_len ci_one (by simp only [jL, ← Hv.out]; omega) (by simp only [jL, ← Hv.out]; unfold maxLen; omega) (by have := M9.out.size; have := Kz.out.size; first | omega | (simp only [sz_alloc]; omega)) ?_; intro v7 w7 H1 Ha Hb Hc; obtain ⟨MO, Kd, e7⟩ := own_form' H1; rw [Km.out] at e7; subst e7; obtain ⟨c7, HE, K7⟩ := K1.out.rows.2.2.push (Kz.out.trans ku5) H1 Hb Hc; have H5 := K1.out.blk.turn HE jo; have K6 := jv w7 gb 13 (.slice HU Hz Hh) (H5.1.cell rfl); have Po := H5.1.thawed 13; have gl := H5.1.lt)
          obtain ⟨Hk, He⟩ := K1.out.setLn (s7 := ⟨MO, M6, Kd⟩) HE K7
          obtain ⟨Wo, Ma⟩ : ∃ w', w' = w7.setCell ⟨gb, 13, none⟩ (.slice MO M6 Kd) := ⟨_, rfl⟩
          rw [← Ma] at Hk He
          rw [← Ma]
          obtain ⟨Qy, Qz, U4⟩ := hid3 Hk (MQ.out.trans (He.mono (J := (fun z => z = 12 ∨ z = 13 ∨ z = 16 + 3 * NB ∨ z = 17 + 3 * NB ∨ z = 18 + 3 * NB)) fun z h => by omega)) (Qx.out.turn He jo)
          clear Hk He Ma H5 K6 Po gl HE K7 H1 Ha Hb Hc
          have M1 := jH (Qy.out.cast (show _ = pbR m ⟨(H4 : Int), Z, ⟨K, D, A, B, N, Lg⟩⟩ b from by unfold pbR; rw [if_neg M2.out, if_neg Mu.out, if_neg Pt.out, if_pos Qw.out]; rw [Mo.out, M3.out]; dsimp only; rw [MP.out]))
          go_wp2_with fail
          go_roundw
          case rel => exact ⟨kk + 1, Y, _, pbR m ⟨(H4 : Int), Z, ⟨K, D, A, B, N, Lg⟩⟩ b, _, by omega, by go_num, jH (by rw [KI.out, HY.out]), Qz, M1, PO, jH (by have := Kw.out; omega), KH⟩
          case measure => exact jm
       case pos =>
       have Wp : (k : Int) < (NT : Int) := by omega
       have P8 : k < m.Tables.length := by rw [← Pd.out]; exact hltG
       obtain ⟨_, _, te, -, -, -, t4⟩ := Q4.out
       injection te with te1 te2 te3
       subst te1 te3
       obtain ⟨tb, Pv, S9, tc⟩ := t4 jo
       subst S9
       obtain ⟨sa, Mb, MS, s1, s2, s3, s4⟩ := Q5.out k P8
       obtain ⟨LT, KN⟩ := jE (nth m.Tables k)
       obtain ⟨TN, KV⟩ := jE (LT.length)
       rw [← KN, ← KV] at MS s4
       have Sa : Hid (∀ W', Keeps wa W' → W'.cell? ⟨tb, Pv + k, none⟩ = some (.slice sa TN Mb)) := jH (fun W' hk' => by (have z := (Hg.out.trans hk').cell (tc k 0 P8 jd)); (try dsimp only at z); rw [MS] at z; simpa using z)
       have HQ := HG.out.tab k P8
       rw [← KN, ← KV] at HQ
       have PR : TN ≤ 20 := HQ.1
       obtain ⟨KT, Vd⟩ := jE (1000000 + k)
       obtain ⟨wp, Wq⟩ := jE wr
       subst Wq
       obtain ⟨QA, PS, Sb, Sc⟩ := hid4 KN KV HQ s4
       obtain ⟨Sd, HKP⟩ := hid2 Vd Hd
       clear MS s1 s2 s3 s4 tc t4 te2 KN KV HQ Hd Vd
       go_wp2_with fail
       clear n2 nl
       go_loopw [23, 24] (fun s23 s24 wn => ∃ (j : Nat) (PT : List Int) (Se : Nat → Nat), j ≤ TN ∧ s24 = .int .i64 j ∧ Hid (PT = (LT.take j).map (plR m)) ∧ Hid (Turn (fun z => z = KT) c9 wp Se wn) ∧ Hid (OwnC KT Se wn wa.heap.size 3 1 ci s23 PT)) (fun _ s24 _ => TN - (intOf s24).toNat)
       case atStart => exact ⟨0, [], c9, Nat.zero_le _, rfl, jH rfl, jH (Turn.refl _ _ _), jH (OwnC.nil _ _ _ _ _ _ _)⟩
       case round =>
       obtain ⟨j, PT, Se, hj, rfl, U5, Mc, Pw⟩ := hrel
       obtain ⟨a6, U6, e6⟩ := own_form' Pw.out.1
       obtain ⟨NA, SS⟩ := jE (PT.length)
       rw [← SS] at e6
       subst e6
       have Wr : NA ≤ 20 := by rw [SS, U5.out, List.length_map, List.length_take]; omega
       have Ve := jH SS
       clear SS
       have KO : Turn (fun z => z = 4 ∨ z = 11 ∨ 1000000 ≤ z) cF wF Se wr := KG.out.trans (Mc.out.mono fun z h => by have := Sd.out; omega)
       have Hd : Keeps wa wr := (Th.out.trans (KO.mono (J := (fun z => z ≠ 0)) fun z h => by omega)).below (Nat.le_refl _) (fun _ _ => rfl) (fun q => q rfl)
       have n2 := (HD.out.keep Hd).cell (j := 2) rfl
       have nl := (HD.out.keep Hd).lt
       have y0 := Sa.out _ Hd
       have yl := lt_of_cell y0
       by_cases hlt10 : j < TN
       case neg =>
        have Ws : decide ((j : Int) < (TN : Int)) = false := decide_eq_false jo
        have Sf : PT = LT.map (plR m) := by rw [U5.out, show j = LT.length by rw [← PS.out]; omega, List.take_length]
        have Px := SJ.out.turn Mc.out (by have := Sd.out; omega) (fun z hz => by have h1 := Sd.out; rw [List.length_map, List.length_take] at hz; omega)
        have Pe := Rt.out.turn Mc.out (by have := Sd.out; omega)
        obtain ⟨Wt, Wu, Ru⟩ := own_form' Px.row.1
        obtain ⟨NS, Sg⟩ := jE (ts.length)
        rw [← Sg] at Ru
        subst Ru
        have Wv : NS ≤ 20 := by rw [Sg, Px.len, List.length_map, List.length_take]; omega
        have o1 := jv wr ob 1 (.slice Wt NS Wu) (Pe.1.cell rfl)
        have olt := Pe.1.lt
        obtain ⟨ST, Sh⟩ := jE (NS + 1)
        obtain ⟨RN, SU, Si, Ww⟩ := hid4 (show (ts ++ [(⟨a6, NA, U6⟩ : Sle)]).length = ST by rw [List.length_append, List.length_singleton, Sh, Sg]) Sg Px Pe
        have U7 := jH Sf
        have Vf : ((m.Tables.take k).map fun t => t.map (plR m)).length = k := by rw [List.length_map, List.length_take]; omega
        have Vg : OwnC (1000000 + ((m.Tables.take k).map fun t => t.map (plR m)).length) Se wr wa.heap.size 3 1 ci (⟨a6, NA, U6⟩ : Sle).v PT := by rw [Vf, ← Sd.out]; exact Pw.out
        obtain ⟨T7, Sj, QX⟩ := hid3 Vg KO Hd
        have Vh : wa.heap.size ≤ wr.heap.size := Hd.size
        clear Px Pe Sf Sg Vf Vg KO Hd Sh
        go_wp2_with (at_builtin; refine wpList_pushes jr (.tmp 299) (.tmp 301) 24 jr Tryd.underlying24 info_ints jr jd (base := wa.heap.size) (f := sle) (l := ts) jr (by exact Si.out.row.1.keep ku5) [⟨a6, NA, U6⟩] _ _ jr jt sle_len sle_one (by simp only [jL, ← SU.out]; omega) (by simp only [jL, ← SU.out]; unfold maxLen; omega) (by first | omega | (simp only [sz_alloc]; omega)) ?_; intro v7 w7 H1 Ha Hb Hc; obtain ⟨Vi, QB, PU⟩ := Si.out.push jo T7.out (show Keeps wr _ from ku5) H1 Hb Hc; have MT := Ww.out.turn QB jd; have o1 := MT.1.cell (j := 1) rfl; have Wx := MT.1.thawed 1; have Wy := MT.1.lt; obtain ⟨U8, U9, e7⟩ := own_form' H1; rw [RN.out] at e7; subst e7)
        obtain ⟨Sk, QC⟩ := MT.set 1 (.slice U8 ST U9)
        have Ua : Hid (BlkC 4 Vi (w7.setCell ⟨ob, 1, none⟩ (.slice U8 ST U9)) ob (.cells #[.slice none 0 0, .slice U8 ST U9, .slice fa NF Mw] 45)) := jH Sk
        obtain ⟨Ub, Sl⟩ := hid2 ((Sj.out.trans (QB.mono (J := fun z => z = 4 ∨ z = 11 ∨ 1000000 ≤ z) fun z h => Or.inr (Or.inl h))).trans (QC.mono fun z h => Or.inl h)) (PU.turn QC jd (fun z _ => by omega))
        clear Sk QC H1 Ha Hb Hc QB MT o1 Wx Wy PU Mc n2 nl y0 yl
        go_roundw
        case rel => exact ⟨k + 1, Vi, _, _, by omega, by go_num, Ub, Ua, jH (by rw [take_succ_nth _ _ P8, List.map_append, List.map_singleton, ← QA.out, ← U7.out]; exact Sl.out)⟩
        case measure => exact jm
       case pos =>
       have Vj : (j : Int) < (TN : Int) := by omega
       obtain ⟨ab, PW, Sm, KB⟩ := Sc.out jo
       subst Sm
       obtain ⟨x, hx⟩ := jE (nth LT j)
       have Py := Sb.out.2 j hlt10
       rw [← hx] at Py
       have P9 := PJ.out
       obtain ⟨X, hX⟩ : ∃ X : Nat, x = (X : Int) := ⟨x.toNat, by omega⟩
       have y1 : wr.cell? ⟨ab, PW + j, none⟩ = some (.int .i64 X) := by (have z := (Hg.out.trans Hd).cell (KB j 0 hlt10 jd)); (try dsimp only at z); rw [← hx, hX] at z; simpa using z
       have HB : X < N1 := by have := HI.out; omega
       have Pz : (X : Int) < (N1 : Int) := by omega
       obtain ⟨p1, -, p3, -, -⟩ := ownC_cell (Ph.out.turn KO jd) (j := X) (by rw [plArr_len]; exact HB)
       rw [HI.out, plArr_all _ HB] at p1
       obtain ⟨PX, HX⟩ := jE (plR m X)
       rw [← HX] at p1
       have Ka : wr.cell? ⟨gP, X, none⟩ = some (.int .i64 PX) := p1
       have Uc : Hid (plR m (nth LT j) = PX) := jH (by rw [← hx, hX, HX])
       have Vh : wa.heap.size ≤ wr.heap.size := Hd.size
       clear KB Py P9 hx hX HX p1 Hd KO
       go_wp2_with (at_builtin; refine wpList_pushes jr (.tmp 284) (.tmp 296) 25 jr Tryd.underlying25 info_int jr jd (base := wa.heap.size) (f := ci) (l := PT) jr (by exact Pw.out.1.keep ku5) [PX] _ _ jr jt ci_len ci_one (by simp only [jL, ← Ve.out]; omega) (by simp only [jL, ← Ve.out]; unfold maxLen; omega) (by first | omega | (simp only [sz_alloc]; omega)) ?_; intro v7 w7 H1 Ha Hb Hc; obtain ⟨Wz, Sn, So⟩ := Pw.out.push (show Keeps wr _ from ku5) H1 Hb Hc; have Ud := jH (Mc.out.trans Sn); have Ue := jH So; clear Sn So H1 Ha Hb Hc)
       go_roundw
       case rel => exact ⟨j + 1, PT ++ [PX], Wz, by omega, by go_num, jH (by rw [take_succ_nth _ _ (by rw [← PS.out]; exact hlt10), List.map_append, ← U5.out, List.map_singleton, Uc.out]), Ud, Ue⟩
       case measure => exact jm
      case pos =>
      have WA : (i : Int) < (NF : Int) := by omega
      have QD : i < m.Funcs.length := by rw [← R9.out]; exact hltF
      obtain ⟨_, _, fe, -, -, -, f4⟩ := Uv.out
      injection fe with fe1 fe2 fe3
      subst fe1 fe3
      obtain ⟨fb, R3, PY, fc⟩ := f4 jo
      subst PY
      have HA := (HG.out.func i QD).2.2
      have QE := sumF_mono HG.out (show 0 ≤ i by omega) (Nat.le_of_lt QD)
      have QF : sumF m 0 = 0 := rfl
      have P9 := PJ.out
      obtain ⟨X, hX⟩ : ∃ X : Nat, (nth m.Funcs i).Start = (X : Int) := ⟨(nth m.Funcs i).Start.toNat, by omega⟩
      have HB : X < N1 := by have := HI.out; omega
      have Pz : (X : Int) < (N1 : Int) := by omega
      have d1 : wr.drew.cell? ⟨fb, R3 + i * 3 + 1, none⟩ = some (.int .i64 X) := by rw [← hX]; exact (Hg.out.trans Hd).cell (fc i 1 QD jd)
      obtain ⟨p1, -, p3, -, -⟩ := ownC_cell (US.out.turn KD.out jd) (j := X) (by rw [plArr_len]; exact HB)
      rw [HI.out, plArr_all _ HB] at p1
      obtain ⟨PX, HX⟩ := jE (plR m X)
      rw [← HX] at p1
      have Ka : wr.drew.cell? ⟨gP, X, none⟩ = some (.int .i64 PX) := p1
      have Uc : Hid (plR m (nth m.Funcs i).Start = PX) := jH (by rw [hX, HX])
      have Vk := jv wr.drew w.heap.size 1 (.slice (some ⟨fb, R3, none⟩) NF KQ) n1
      have Vl := jv wr.drew ob 2 (.slice fa i Mw) (P4.out.1.cell rfl)
      obtain ⟨I1, Vm⟩ := jE (i + 1)
      obtain ⟨RN, Vn⟩ := hid2 (show (((List.range i).map fun i => plR m (nth m.Funcs i).Start) ++ [PX]).length = I1 by rw [List.length_append, List.length_singleton, List.length_map, List.length_range, Vm]) (show ((List.range i).map fun i => plR m (nth m.Funcs i).Start).length = i by rw [List.length_map, List.length_range])
      have Vh : wa.heap.size ≤ wr.heap.size := Hd.size
      clear HA QE QF P9 hX HX p1 Hd fc f4 fe2 Vm
      go_upto_region 55 with fail
      clear n1 nl p3
      refine wp_region_head (S := Cells [(ob, 2, .slice fa i Mw), (w.heap.size, 1, .slice (some ⟨fb, R3, none⟩) NF KQ), (fb, R3 + i * 3 + 1, .int .i64 X), (gP, X, .int .i64 PX)]) 12 jx jx jx jx jd jx ?hS24 (fun H0 => ?_)
      case hS24 => exact ⟨Vl, Vk, d1, Ka, trivial⟩
      simp only [jU]
      refine jp 0 H0 ?_
      refine jp 1 H0 ?_
      refine jp 2 H0 ?_
      refine jp 3 H0 ?_
      refine jp 4 H0 ?_
      refine jp 5 H0 ?_
      refine jp 6 H0 ?_
      refine jp 7 H0 ?_
      refine jp 8 H0 ?_
      refine jp 9 H0 ?_
      refine jp 10 H0 ?_
      refine readyC 11 ?_
      intro K hK
      go_simp
      refine goOn hK (Cells.keep H0 ((Keeps.refl _).alloc _)) ?_
      clear hK K H0
      intro H0
      refine wpAnyH_done jx ?_ _
      dsimp only [TailQ]
      clear H0 Vl Vk d1 Ka
      go_upto_region 54 with (at_builtin; refine wpList_pushes jr (.tmp 254) (.tmp 264) 25 jr Tryd.underlying25 info_int jr jd (base := wa.heap.size) (f := ci) (l := (List.range i).map fun i => plR m (nth m.Funcs i).Start) jr (by exact Rr.out.1.keep ku5) [PX] _ _ jr jt ci_len ci_one (by simp only [jL, Vn.out]; omega) (by simp only [jL, Vn.out]; unfold maxLen; omega) (by first | omega | (simp only [sz_alloc, sz_drew]; omega)) ?_; intro v7 w7 H1 Ha Hb Hc; obtain ⟨c9, Uf, Vo⟩ := Rr.out.push (show Keeps wr _ from ku5) H1 Hb Hc; have Sp := P4.out.turn Uf jd; have o2 := Sp.1.cell (j := 2) rfl; have WB := Sp.1.thawed 2; have WC := Sp.1.lt; obtain ⟨Ug, Uh, e9⟩ := own_form' H1; rw [RN.out] at e9; subst e9)
      obtain ⟨Sq, QG⟩ := Sp.set 2 (.slice Ug I1 Uh)
      have Ui : Hid (BlkC 4 c9 (w7.setCell ⟨ob, 2, none⟩ (.slice Ug I1 Uh)) ob (.cells #[.slice none 0 0, .slice none 0 0, .slice Ug I1 Uh] 45)) := jH Sq
      obtain ⟨Mc, Uj⟩ := hid2 ((KD.out.trans (Uf.mono (J := fun z => z = 4 ∨ z = 9) fun z h => Or.inr h)).trans (QG.mono fun z h => Or.inl h)) (Vo.turn QG jd)
      clear Sq QG H1 Ha Hb Hc Uf Vo Sp o2 WB WC
      go_wp2_with fail
      go_roundw
      case rel => exact ⟨i + 1, c9, _, by omega, by go_num, Mc, Ui, jH (by rw [List.range_succ, List.map_append, List.map_singleton, Uc.out]; exact Uj.out)⟩
      case measure => exact jm
     case pos =>
     have WD : (a : Int) < (TL : Int) := by omega
     have WE : (a : Int) < (N1 : Int) := by omega
     obtain ⟨b1, -, b3, -, -⟩ := ownC_cell (Ro.out.turn KF.out jd) (j := a) (by simp; omega)
     rw [nthRange (fun x : Nat => isL m x) jo] at b1
     obtain ⟨BA, QH⟩ := jE (isL m a)
     rw [← QH] at b1
     have Mi : wr.cell? ⟨gB, a, none⟩ = some (.bool BA) := b1
     obtain ⟨p1, p2, p3, p4, p5⟩ := ownC_cell Ta.out (j := a) (by rw [plArr_len]; omega)
     obtain ⟨PV, Uk⟩ := jE (nth (plArr m a N1) a)
     rw [← Uk] at p1
     have Ka : wr.cell? ⟨gP, a, none⟩ = some (.int .i64 PV) := p1
     have wCN : IntKind.i64.wrap ((CN : Int) + 1) = ((CN + 1 : Nat) : Int) := jw
     cases BA with
     | false =>
      have QI := Ta.out
      rw [plArr_skip QH.symm] at QI
      have Ul := jH QI
      have Um : Hid (cntL m (a + 1) = CN) := jH (by rw [Pg]; show cntL m a + (if isL m a = true then 1 else 0) = _; rw [← QH]; rfl)
      clear QI QH Pg Uk p1 b1 p4 p5 Hd
      go_wp2_with fail
      go_roundw
      case rel => exact ⟨a + 1, c7, by omega, by rw [Um.out], by go_num, KF, Ul⟩
      case measure => exact jm
     | true =>
      have QI := p4 (CN : Int)
      rw [Pg, plArr_put jo QH.symm] at QI
      have Ul : Hid (OwnI 3 c7 (wr.setCell ⟨gP, a, none⟩ (.int .i64 CN)) wa.heap.size (.slice (some ⟨gP, 0, none⟩) N1 N1) (plArr m (a + 1) N1)) := jH (by rw [Pg]; exact QI)
      have KD := jH (KF.out.trans ((p5 (iV (CN : Int))).mono (J := fun z => z = 3) fun z h => h))
      have Um : Hid (cntL m (a + 1) = CN + 1) := jH (by rw [Pg]; show cntL m a + (if isL m a = true then 1 else 0) = _; rw [← QH]; rfl)
      clear QI QH Pg Uk p1 b1 p4 p5 Hd
      go_wp2_with fail
      go_roundw
      case rel => exact ⟨a + 1, c7, by omega, by rw [Um.out]; rfl, by go_num, KD, Ul⟩
      case measure => exact jm
   case pos =>
   have WF : (a : Int) < (TL : Int) := by omega
   have WE : (a : Int) < (N1 : Int) := by omega
   obtain ⟨o1, -, o3, -, -⟩ := ownC_cell (QV.out.turn HV.out jd) (j := a) (by rw [ownArr_len]; omega)
   rw [ownArr_at _ jo] at o1
   obtain ⟨FI, PZ⟩ := jE (ownR m a)
   have KX : wr.cell? ⟨gO, a, none⟩ = some (.int .i64 FI) := by rw [PZ]; exact o1
   by_cases hown : FI < 0
   case pos =>
    have Vp : decide (FI < 0) = true := decide_eq_true hown
    have Vq := P2.out.skip (ownR_neg (by rw [← PZ]; exact hown))
    have SL : atB m a = false := by unfold atB; rw [if_pos (by rw [← PZ]; exact hown)]
    have Un := jH Vq
    have Uo := jH SL
    clear Vq SL hown PZ o1 Hd
    go_wp2_with fail
    go_roundw
    case rel => exact ⟨a + 1, c5, ks, by omega, by go_num, HV, Kl, Un, jH (fun j hj => by
     rcases Nat.lt_or_ge j a with z | z
     ·exact P3.out j z
     obtain rfl : j = a := by omega
     exact Uo.out)⟩
    case measure => exact jm
   case neg =>
   have Vp : decide (FI < 0) = false := decide_eq_false hown
   obtain ⟨pp, Mh, QJ, RC, MC⟩ := ownR_pos HG.out KS.out (x := (a : Int)) (by rw [← PZ]; exact hown)
   have Kr : atB m a = spB m (ownS (allS m) m.Funcs.length) (ownR m a) ⟨a, (decAns m.Text a).2.1, (decAns m.Text a).1⟩ := by unfold atB; rw [if_neg (by rw [← PZ]; exact hown)]
   have Up := PZ
   rw [← Up] at Kr RC
   have WG : 0 ≤ FI := by omega
   clear PZ
   have H9 := MC.fine
   rw [QJ] at H9
   have Pm := MC.ok
   rw [QJ] at Pm
   have MD := MC.z
   rw [QJ] at MD
   have ME := MC.i
   rw [QJ] at ME
   have z1 := H9.z1
   have z5 := H9.z5
   have ze := H9.ze
   have k1 := H9.k1
   have Vr := H9.k24
   have RP := H9.n0
   have RQ := H9.n1
   have Uq := H9.nt
   obtain ⟨⟨⟨K, D, A, B, N, Lg⟩, Z, E⟩, hX⟩ : ∃ X, X = decAns m.Text a := ⟨_, rfl⟩
   rw [← hX] at Kr z1 z5 ze k1 Vr RP RQ Uq Pm MD ME
   dsimp only at Kr z1 z5 ze k1 Vr RP RQ Uq Pm MD ME
   subst Pm
   have MF : ∀ W', Keeps wr W' → Calls Tryd.prog 39 #[.slice x0 TL Kj, .int .i64 a] W' (DecAns (decAns m.Text a) W') := fun W' hk' => by (have z := instrAt_any _ m.Text a W' (Arr.keep Uw.out (Hg.out.trans (Hd.trans hk')) : Bytes W' _ m.Text) (by have := PJ.out; omega)); rw [HI.out]; exact z
   rw [← hX] at MF
   unfold DecAns Ins.v insV at MF
   dsimp only at MF
   have Qc : pp.2 = ⟨a, Z, ⟨K, D, A, B, N, Lg⟩⟩ := by have e1 : pp.2 = ⟨pp.2.A, pp.2.Z, pp.2.I⟩ := rfl; rw [e1, QJ, MD, ME]
   have Vs : keysP pp.2 = if brN K = true ∨ K = 22 then [(a : Int) + N, (a : Int) + Z] else if stN K = true then [(a : Int) + Z] else [] := by rw [Qc]; rfl
   have Sr : spB m (ownS (allS m) m.Funcs.length) FI ⟨a, Z, ⟨K, D, A, B, N, Lg⟩⟩ = if brN K = true ∨ K = 22 then !decide (ownS (allS m) m.Funcs.length ((a : Int) + N) = some FI) else if K = 24 then decide (N < m.Tables.length) && anyN (fun k => !decide (ownS (allS m) m.Funcs.length (nth (nth m.Tables N.toNat) k) = some FI)) (nth m.Tables N.toNat).length else if K = 23 then !(anyN (fnP m ((a : Int) + N)) m.Funcs.length) else false := rfl
   have Q0 : spB m (ownS (allS m) m.Funcs.length) FI ⟨a, Z, ⟨K, D, A, B, N, Lg⟩⟩ = true → recB m = true := fun q => by have e := atB_any HG.out KS.out; (rw [anyN_yes (p := atB m) (k := a) (by rw [← HI.out]; exact hltC) (by rw [Kr]; exact q)] at e); unfold recB; rw [← e]; simp
   have Ss : ¬ (0 ≤ (a : Int) + N ∧ (a : Int) + N ≤ TL) → ¬ (ownS (allS m) m.Funcs.length ((a : Int) + N) = some FI) := fun q e => by
    obtain ⟨p', TH, e1, -⟩ := ownS_some e
    have hm := (ann_in HG.out KS.out TH).2.2.fine
    rw [e1] at hm
    have := hm.x0
    have := hm.x1
    have := HI.out
    exact q jo
   have Vc : IntKind.i64.wrap ((a : Int) + N) = (a : Int) + N := jw
   obtain ⟨QK, QL, Ko, HR⟩ := hid4 Mh QJ Vs Sr
   obtain ⟨Md, Ks, St, WH⟩ := hid4 Kr Q0 Ss MF
   have QM : Hid ((ownS (allS m) m.Funcs.length (a : Int)).getD (-1) = FI) := jH Up.symm
   have KY := jH (fun W' => ends_any K D A B N Lg W' k1)
   unfold insV at KY
   obtain ⟨EN, KJ⟩ := jE (endsN K)
   have Kx : Hid (∀ W', Calls Tryd.prog 40 #[.agg #[.int .i64 K, .int .i64 D, .int .i64 A, .int .i64 B, .int .i64 N, .bool Lg]] W' fun e w' => e = .returned (.int .i64 EN) ∧ Keeps W' w') := jH (by rw [KJ]; exact KY.out)
   have Wi : (a : Int) + Z ≤ TL := by have := HI.out; omega
   clear Mh QJ RC MC Vs Sr Kr Q0 Ss MF Up H9 hX Qc MD ME KY o1 hown ze
   go_upto_region 28 with (go_at_call 39; refine (WH.out _ ku5).mono ?_; rintro e wi ⟨rfl, PP⟩)
   obtain ⟨wq, cq, Vt, Vu, Ur, MU⟩ := one_paint wi c5 (.cells #[.int .i64 K, .int .i64 D, .int .i64 A, .int .i64 B, .int .i64 N, .bool Lg] 64) 7
   rw [← Vt]
   obtain ⟨gq, Qi⟩ := jE (wi.heap.size)
   rw [← Qi]
   rw [← Qi] at MU
   obtain ⟨R4, R5, Hn, R6⟩ := hid4 ((HV.out.keep PP).trans (Ur (fun z => z = 2))) ((Kl.out.keep PP).turn (Ur (fun _ => False)) (fun q => q)) MU.1 MU.2
   have R7 := jH (Hd.trans (PP.trans Vu))
   have u0 := jc wq gq 0 K ((MU.1).cell rfl)
   have u1 := jc wq gq 1 D ((MU.1).cell rfl)
   have u2 := jc wq gq 2 A ((MU.1).cell rfl)
   have u3 := jc wq gq 3 B ((MU.1).cell rfl)
   have u4 := jc wq gq 4 N ((MU.1).cell rfl)
   have u5 := jv wq gq 5 (.bool Lg) ((MU.1).cell rfl)
   have ul := MU.1.lt
   clear Vt Qi MU Ur Vu PP Hd HV Kl n0 nl Vp o3 KX
   by_cases hj : brN K = true ∨ K = 22
   case pos =>
    have Hu : K ≠ 23 := by rcases hj with q | q; (unfold brN at q; simp at q; omega); omega
    have K3 : K ≠ 24 := by rcases hj with q | q; (unfold brN at q; simp at q; omega); omega
    have Pa : Hid (keysP pp.2 = [(a : Int) + N, (a : Int) + Z]) := jH (by rw [Ko.out, if_pos hj])
    have HS : Hid (spB m (ownS (allS m) m.Funcs.length) FI ⟨a, Z, ⟨K, D, A, B, N, Lg⟩⟩ = !decide (ownS (allS m) m.Funcs.length ((a : Int) + N) = some FI)) := jH (by rw [HR.out, if_pos hj])
    clear Ko HR
    by_cases hb : brN K = true
    case pos =>
     have Hi : EN = 4 := by rw [KJ]; unfold endsN; rw [if_neg (brN_st hb), if_neg (fun q => by rw [q] at hb; revert hb; decide), if_pos hb]
     clear KJ hj hb
     as_aux_lemma =>
     have MV : decide ((0 : Int) < EN) = true := by rw [Hi]; decide
     go_upto_region 30 with (go_at_call 40; refine (Kx.out _).mono ?_; rintro e we ⟨rfl, H3⟩; have u0 := jc we gq 0 K ((Hn.out.keep H3).cell rfl); have u1 := jc we gq 1 D ((Hn.out.keep H3).cell rfl); have u2 := jc we gq 2 A ((Hn.out.keep H3).cell rfl); have u3 := jc we gq 3 B ((Hn.out.keep H3).cell rfl); have u4 := jc we gq 4 N ((Hn.out.keep H3).cell rfl); have u5 := jv we gq 5 (.bool Lg) ((Hn.out.keep H3).cell rfl); have ul := (Hn.out.keep H3).lt; have H8 := jH H3)
     obtain ⟨QN, QO, QP, Us⟩ := hid4 (R4.out.keep H8.out) (R5.out.keep H8.out) (Hn.out.keep H8.out) (R7.out.trans H8.out)
     obtain ⟨Y, hY⟩ : ∃ Y : Nat, (a : Int) + Z = (Y : Int) := ⟨((a : Int) + Z).toNat, by omega⟩
     have wY : IntKind.i64.wrap ((a : Int) + Z) = (Y : Int) := jw
     have Qd : Y < N1 := by omega
     have Qe : (Y : Int) < (N1 : Int) := by omega
     have QQ := jH hY
     clear hY MV u0 u1 u2 u3 u4 u5 ul
     obtain ⟨b1, b2, b3, b4, b5⟩ := ownC_cell QO.out (j := Y) (by rw [bgArr_len]; omega)
     obtain ⟨BX, Kf⟩ := jE (nth (bgArr ks N1) Y)
     rw [← Kf] at b1
     have Mi : we.cell? ⟨gB, Y, none⟩ = some (.bool BX) := b1
     have HM := b4 true
     rw [bgArr_put _ jo] at HM
     obtain ⟨w5, Kg⟩ : ∃ w', w' = we.setCell ⟨gB, Y, none⟩ (.bool true) := ⟨_, rfl⟩
     have HF : OwnB 2 cq w5 wa.heap.size (.slice (some ⟨gB, 0, none⟩) N1 N1) (bgArr (ks ++ [(Y : Int)]) N1) := by rw [Kg]; exact HM
     have Kh : Turn (fun z => z = 2) cq we cq w5 := by rw [Kg]; exact b5 (bV true)
     obtain ⟨Kl, HV, H2⟩ := hid3 HF (QN.out.trans Kh) ((BlkC.turn ⟨QP.out, R6.out⟩ Kh jd).1)
     have MW : Hid (Keeps wa w5) := jH ((Mz.out.trans (HV.out.mono (J := (fun z => z ≠ 0)) fun z h => by omega)).below (Nat.le_refl _) (fun _ _ => rfl) (fun q => q rfl))
     have MX := jH Kg
     clear b1 Kf HM HF b4 b5 Kh Kg
     go_upto_region 31 with fail
     rw [← MX.out]
     clear MX Mi b2 b3
     have u0 := jc w5 gq 0 K ((H2.out).cell rfl)
     have u1 := jc w5 gq 1 D ((H2.out).cell rfl)
     have u2 := jc w5 gq 2 A ((H2.out).cell rfl)
     have u3 := jc w5 gq 3 B ((H2.out).cell rfl)
     have u4 := jc w5 gq 4 N ((H2.out).cell rfl)
     have u5 := jv w5 gq 5 (.bool Lg) ((H2.out).cell rfl)
     have ul := H2.out.lt
     clear wY
     have Mx : (EN == 4) = true := by rw [Hi]; decide

     clear Hi
     go_upto_region 32 with (go_at_call 40; refine (Kx.out _).mono ?_; rintro e we ⟨rfl, H3⟩; have u0 := jc we gq 0 K ((H2.out.keep H3).cell rfl); have u1 := jc we gq 1 D ((H2.out.keep H3).cell rfl); have u2 := jc we gq 2 A ((H2.out.keep H3).cell rfl); have u3 := jc we gq 3 B ((H2.out.keep H3).cell rfl); have u4 := jc we gq 4 N ((H2.out.keep H3).cell rfl); have u5 := jv we gq 5 (.bool Lg) ((H2.out.keep H3).cell rfl); have ul := (H2.out.keep H3).lt; have H8 := jH H3)
     clear Mx 
     obtain ⟨KC, My, PA, KE⟩ := hid4 (HV.out.keep H8.out) (Kl.out.keep H8.out) (H2.out.keep H8.out) (MW.out.trans H8.out)
     obtain ⟨w6, MY⟩ := jE we
     subst MY
     clear u0 u1 u2 u3 u4 u5 ul
     have PB := QV.out.turn KC.out jd
     obtain ⟨o1, -, o3, -, -⟩ := ownC_cell PB (j := a) (by rw [ownArr_len]; omega)
     rw [ownArr_at _ jo] at o1
     have KX : w6.drew.cell? ⟨gO, a, none⟩ = some (.int .i64 FI) := by have z := jc w6 gO a ((ownS (allS m) m.Funcs.length (a : Int)).getD (-1)) o1; (rw [show (ownS (allS m) m.Funcs.length (a : Int)).getD (-1) = FI from QM.out] at z); exact z
     have n0 := jv w6.drew w.heap.size 0 (.slice x0 TL Kj) ((HD.out.keep KE.out).cell rfl)
     by_cases hin : 0 ≤ (a : Int) + N ∧ (a : Int) + N ≤ TL
     case neg =>
      have KW : Hid (recB m = true) := jH (Ks.out (by rw [HS.out, decide_eq_false (fun q => St.out hin q)]; rfl))
      clear o1 PB
      refine wp_region_held_drew (S := Cells [(w.heap.size, 0, .slice x0 TL Kj)]) jx ⟨n0, trivial⟩ (fun H0 => ?_)
      clear n0 KX o3
      refine jp 0 H0 ?_
      refine jp 1 H0 ?_
      refine jp 2 H0 ?_
      refine jp 3 H0 ?_
      refine readyC 4 ?_
      intro K' hK
      go_simp
      go_at_call 20
      refine (in_no' _ _ _ _ jo).mono ?_
      rintro e wz ⟨rfl, rfl⟩
      refine goOn hK H0 (fun hHeld2 => ?_)
      clear hK K' H0
      have H0 := hHeld2
      clear hHeld2
      refine jp 5 H0 ?_
      refine jp 6 H0 ?_
      refine wpAnyH_take (i := 7) (oi := ?oq1x7) (v := undef) ?hq1x7 ?aq1x7 ?bq1x7 ?cq1x7 ?qq1x7 (Or.inr ⟨?wq1x7, rfl⟩) H0 ?rq1x7
      case hq1x7 => (simp only [jT]; try rfl)
      case aq1x7 => kernel_rfl
      case bq1x7 => kernel_rfl
      case cq1x7 => kernel_rfl
      case qq1x7 => exact fun _ _ _ h => h
      case wq1x7 => rfl
      try simp only [Act.put, jS]
      refine wpAnyH_take (i := 8) (oi := ?oq2x8) (v := undef) ?hq2x8 ?aq2x8 ?bq2x8 ?cq2x8 ?qq2x8 (Or.inr ⟨?wq2x8, rfl⟩) H0 ?rq2x8
      case hq2x8 => (simp only [jT]; try rfl)
      case aq2x8 => kernel_rfl
      case bq2x8 => kernel_rfl
      case cq2x8 => kernel_rfl
      case qq2x8 => exact fun _ _ _ h => h
      case wq2x8 => rfl
      try simp only [Act.put, jS]
      refine wpAnyH_take (i := 9) (oi := ?oq3x9) (v := undef) ?hq3x9 ?aq3x9 ?bq3x9 ?cq3x9 ?qq3x9 (Or.inr ⟨?wq3x9, rfl⟩) H0 ?rq3x9
      case hq3x9 => (simp only [jT]; try rfl)
      case aq3x9 => kernel_rfl
      case bq3x9 => kernel_rfl
      case cq3x9 => kernel_rfl
      case qq3x9 => exact fun _ _ _ h => h
      case wq3x9 => rfl
      try simp only [Act.put, jS]
      refine wpAnyH_take (i := 10) (oi := ?oq4x10) (v := undef) ?hq4x10 ?aq4x10 ?bq4x10 ?cq4x10 ?qq4x10 (Or.inr ⟨?wq4x10, rfl⟩) H0 ?rq4x10
      case hq4x10 => (simp only [jT]; try rfl)
      case aq4x10 => kernel_rfl
      case bq4x10 => kernel_rfl
      case cq4x10 => kernel_rfl
      case qq4x10 => exact fun _ _ _ h => h
      case wq4x10 => rfl
      try simp only [Act.put, jS]
      refine wpAnyH_take (i := 11) (oi := ?oq5x11) (v := undef) ?hq5x11 ?aq5x11 ?bq5x11 ?cq5x11 ?qq5x11 (Or.inr ⟨?wq5x11, rfl⟩) H0 ?rq5x11
      case hq5x11 => (simp only [jT]; try rfl)
      case aq5x11 => kernel_rfl
      case bq5x11 => kernel_rfl
      case cq5x11 => kernel_rfl
      case qq5x11 => exact fun _ _ _ h => h
      case wq5x11 => rfl
      try simp only [Act.put, jS]
      refine wpAnyH_take (i := 12) (oi := ?oq6x12) (v := undef) ?hq6x12 ?aq6x12 ?bq6x12 ?cq6x12 ?qq6x12 (Or.inr ⟨?wq6x12, rfl⟩) H0 ?rq6x12
      case hq6x12 => (simp only [jT]; try rfl)
      case aq6x12 => kernel_rfl
      case bq6x12 => kernel_rfl
      case cq6x12 => kernel_rfl
      case qq6x12 => exact fun _ _ _ h => h
      case wq6x12 => rfl
      try simp only [Act.put, jS]
      refine wpAnyH_take (i := 13) (oi := ?oq7x13) (v := undef) ?hq7x13 ?aq7x13 ?bq7x13 ?cq7x13 ?qq7x13 (Or.inr ⟨?wq7x13, rfl⟩) H0 ?rq7x13
      case hq7x13 => (simp only [jT]; try rfl)
      case aq7x13 => kernel_rfl
      case bq7x13 => kernel_rfl
      case cq7x13 => kernel_rfl
      case qq7x13 => exact fun _ _ _ h => h
      case wq7x13 => rfl
      try simp only [Act.put, jS]
      refine wpAnyH_take (i := 14) (oi := ?oq8x14) (v := undef) ?hq8x14 ?aq8x14 ?bq8x14 ?cq8x14 ?qq8x14 (Or.inr ⟨?wq8x14, rfl⟩) H0 ?rq8x14
      case hq8x14 => (simp only [jT]; try rfl)
      case aq8x14 => kernel_rfl
      case bq8x14 => kernel_rfl
      case cq8x14 => kernel_rfl
      case qq8x14 => exact fun _ _ _ h => h
      case wq8x14 => rfl
      try simp only [Act.put, jS]
      refine wpAnyH_take (i := 15) (oi := ?oq9x15) (v := undef) ?hq9x15 ?aq9x15 ?bq9x15 ?cq9x15 ?qq9x15 (Or.inr ⟨?wq9x15, rfl⟩) H0 ?rq9x15
      case hq9x15 => (simp only [jT]; try rfl)
      case aq9x15 => kernel_rfl
      case bq9x15 => kernel_rfl
      case cq9x15 => kernel_rfl
      case qq9x15 => exact fun _ _ _ h => h
      case wq9x15 => rfl
      try simp only [Act.put, jS]
      refine jp 16 H0 ?_
      refine wpAnyH_done jx ?_ _
      clear H0
      have Hs := jH (show Keeps wa w6.drew from KE.out.drew)
      obtain ⟨w7, Kt⟩ := jE (w6.drew)
      rw [← Kt] at Hs ⊢
      clear Kt
      obtain ⟨q0, q1, q2⟩ := ((Hy.out.keep Hs.out)).k3
      obtain ⟨z0, z1, z2⟩ := ((Hy.out.keep Hs.out)).t3
      have lq := (Hy.out.keep Hs.out).lt
      go_wp2_with fail
      obtain ⟨wf, Hr⟩ := jE ((((w7).setCell ⟨w.heap.size + 1, 0, none⟩ (.slice none 0 0)).setCell ⟨w.heap.size + 1, 1, none⟩ (.slice none 0 0)).setCell ⟨w.heap.size + 1, 2, none⟩ (.slice none 0 0))
      rw [← Hr]
      obtain ⟨HK, HA⟩ := put3 (Hy.out.keep Hs.out) _ _ _ Hr
      have HH := jH (keepsPut (Hg.out.trans Hs.out) jo HA)
      obtain ⟨e0, e1, e2⟩ := HK.k3
      clear Hr HK HA
      exact bodyPost_ret (v := .tuple #[.agg #[.slice none 0 0, .slice none 0 0, .slice none 0 0], .int .i64 9]) (by simp [results, Tryd.results16, go_sem, e0, e1, e2]) rfl (FlAns.bad (one_bad Mg.out.symm Kv.out KW.out) HH.out)
     case pos =>
     obtain ⟨X, hX⟩ : ∃ X : Nat, (a : Int) + N = (X : Int) := ⟨((a : Int) + N).toNat, by omega⟩
     have HB : X < N1 := by omega
     have MI : (X : Int) < (N1 : Int) := by omega
     obtain ⟨p1, -, p3, -, -⟩ := ownC_cell PB (j := X) (by rw [ownArr_len]; exact HB)
     rw [ownArr_at _ HB] at p1
     obtain ⟨OX, KP⟩ := jE ((ownS (allS m) m.Funcs.length (X : Int)).getD (-1))
     rw [← KP] at p1
     have Ka : w6.drew.cell? ⟨gO, X, none⟩ = some (.int .i64 OX) := p1
     have QR := jH hX
     have Q1 : decide (ownS (allS m) m.Funcs.length ((a : Int) + N) = some FI) = decide (OX = FI) := by rw [hX, KP]; exact decide_eq_decide.2 (ownR_is (m := m) jo)
     have Q2 := jH Q1
     have wX : (a : Int) + N = (X : Int) := hX
     have tO : decide (OX = FI) = (OX == FI) := by rfl
     clear o1 PB p1 KP Q1 hX
     refine wp_region_held_drew (S := Cells [(w.heap.size, 0, .slice x0 TL Kj), (gO, X, .int .i64 OX), (gO, a, .int .i64 FI)]) jx ⟨n0, Ka, KX, trivial⟩ (fun H0 => ?_)
     clear n0 KX Ka
     refine jp 0 H0 ?_
     refine jp 1 H0 ?_
     refine jp 2 H0 ?_
     refine jp 3 H0 ?_
     refine readyC 4 ?_
     intro K' hK
     go_simp
     go_at_call 20
     refine (in_yes' _ _ _ _ jo jo).mono ?_
     rintro e wz ⟨rfl, rfl⟩
     refine goOn hK H0 (fun hHeld2 => ?_)
     clear hK K' H0
     have H0 := hHeld2
     clear hHeld2
     refine jp 5 H0 ?_
     refine jp 6 H0 ?_
     refine jp 7 H0 ?_
     refine jp 8 H0 ?_
     refine jp 9 H0 ?_
     refine jp 10 H0 ?_
     refine jp 11 H0 ?_
     refine jp 12 H0 ?_
     refine jp 13 H0 ?_
     refine jp 14 H0 ?_
     refine jp 15 H0 ?_
     refine jp 16 H0 ?_
     refine wpAnyH_done jx ?_ _
     clear H0
     have Hs := jH (show Keeps wa w6.drew from KE.out.drew)
     by_cases hox : OX = FI
     case neg =>
      have PC : (OX != FI) = true := by simpa using hox
      have KW : Hid (recB m = true) := jH (Ks.out (by rw [HS.out, Q2.out, decide_eq_false hox]; rfl))
      obtain ⟨w7, Kt⟩ := jE (w6.drew)
      rw [← Kt] at Hs ⊢
      clear o3 p3 hox Kt
      obtain ⟨q0, q1, q2⟩ := ((Hy.out.keep Hs.out)).k3
      obtain ⟨z0, z1, z2⟩ := ((Hy.out.keep Hs.out)).t3
      have lq := (Hy.out.keep Hs.out).lt
      go_wp2_with fail
      obtain ⟨wf, Hr⟩ := jE ((((w7).setCell ⟨w.heap.size + 1, 0, none⟩ (.slice none 0 0)).setCell ⟨w.heap.size + 1, 1, none⟩ (.slice none 0 0)).setCell ⟨w.heap.size + 1, 2, none⟩ (.slice none 0 0))
      rw [← Hr]
      obtain ⟨HK, HA⟩ := put3 (Hy.out.keep Hs.out) _ _ _ Hr
      have HH := jH (keepsPut (Hg.out.trans Hs.out) jo HA)
      obtain ⟨e0, e1, e2⟩ := HK.k3
      clear Hr HK HA
      exact bodyPost_ret (v := .tuple #[.agg #[.slice none 0 0, .slice none 0 0, .slice none 0 0], .int .i64 9]) (by simp [results, Tryd.results16, go_sem, e0, e1, e2]) rfl (FlAns.bad (one_bad Mg.out.symm Kv.out KW.out) HH.out)
     case pos =>
     have PC : (OX != FI) = false := by simpa using hox
     have K2 : Hid (spB m (ownS (allS m) m.Funcs.length) FI ⟨a, Z, ⟨K, D, A, B, N, Lg⟩⟩ = false) := jH (by rw [HS.out, Q2.out, decide_eq_true hox]; rfl)
     have PD : Keeps w6 w6.drew := (Keeps.refl _).drew
     obtain ⟨KF, PE, Mv⟩ := hid3 (KC.out.keep PD) (My.out.keep PD) (PA.out.keep PD)
     clear o3 p3 hox PD tO
     go_upto_region 34 with fail
     obtain ⟨w7, Kt⟩ := jE (w6.drew)
     rw [← Kt] at Hs KF PE Mv ⊢
     clear Kt PC
     obtain ⟨b1, b2, b3, b4, b5⟩ := ownC_cell PE.out (j := X) (by rw [bgArr_len]; omega)
     obtain ⟨BX, Kf⟩ := jE (nth (bgArr (ks ++ [(Y : Int)]) N1) X)
     rw [← Kf] at b1
     have Mi : w7.cell? ⟨gB, X, none⟩ = some (.bool BX) := b1
     have HM := b4 true
     rw [bgArr_put _ jo] at HM
     obtain ⟨w8, PF⟩ : ∃ w', w' = w7.setCell ⟨gB, X, none⟩ (.bool true) := ⟨_, rfl⟩
     have HF : OwnB 2 cq w8 wa.heap.size (.slice (some ⟨gB, 0, none⟩) N1 N1) (bgArr ((ks ++ [(Y : Int)]) ++ [(X : Int)]) N1) := by rw [PF]; exact HM
     have Kh : Turn (fun z => z = 2) cq w7 cq w8 := by rw [PF]; exact b5 (bV true)
     obtain ⟨P4, KD, Me⟩ := hid3 HF (KF.out.trans Kh) ((BlkC.turn ⟨Mv.out, R6.out⟩ Kh jd).1)
     have WI : Hid (Keeps wa w8) := jH ((Mz.out.trans (KD.out.mono (J := (fun z => z ≠ 0)) fun z h => by omega)).below (Nat.le_refl _) (fun _ _ => rfl) (fun q => q rfl))
     have Su := jH PF
     clear b1 Kf HM HF b4 b5 Kh PF
     go_upto_region 35 with fail
     rw [← Su.out]
     clear Su Mi b2 b3
     have u0 := jc w8 gq 0 K ((Me.out).cell rfl)
     have u1 := jc w8 gq 1 D ((Me.out).cell rfl)
     have u2 := jc w8 gq 2 A ((Me.out).cell rfl)
     have u3 := jc w8 gq 3 B ((Me.out).cell rfl)
     have u4 := jc w8 gq 4 N ((Me.out).cell rfl)
     have u5 := jv w8 gq 5 (.bool Lg) ((Me.out).cell rfl)
     have ul := Me.out.lt
     have MZ : (K == 23) = false := by simpa using Hu
     have P0 : (K == 24) = false := by simpa using K3
     have K4 : Hid (keysP pp.2 = [(X : Int), (Y : Int)]) := jH (by rw [Pa.out, QR.out, QQ.out])
     have Sv : Hid (OwnB 2 cq w8 wa.heap.size (.slice (some ⟨gB, 0, none⟩) N1 N1) (bgArr (ks ++ [(Y : Int), (X : Int)]) N1)) := jH (by rw [show ks ++ [(Y : Int), (X : Int)] = ks ++ [(Y : Int)] ++ [(X : Int)] by simp]; exact P4.out)
     clear wX
     go_wp2_with fail
     go_roundw
     case rel => exact ⟨a + 1, cq, _, by omega, by go_num, KD, Sv, jH (KeysAt.step HG.out KS.out P2.out QK.out QL.out (by intro x; rw [K4.out]; simp only [List.mem_cons, List.not_mem_nil, or_false]; exact or_comm)), jH (fun j hj => by
      rcases Nat.lt_or_ge j a with z | z
      ·exact P3.out j z
      obtain rfl : j = a := by omega
      rw [Md.out]; exact K2.out)⟩
     case measure => exact jm
    case neg =>
    have P6 : K = 22 := hj.resolve_left hb
    have Hi : EN = 3 := by rw [KJ, P6]; decide
    clear KJ hj hb P6
    as_aux_lemma =>
    have MV : decide ((0 : Int) < EN) = true := by rw [Hi]; decide
    go_upto_region 30 with (go_at_call 40; refine (Kx.out _).mono ?_; rintro e we ⟨rfl, H3⟩; have u0 := jc we gq 0 K ((Hn.out.keep H3).cell rfl); have u1 := jc we gq 1 D ((Hn.out.keep H3).cell rfl); have u2 := jc we gq 2 A ((Hn.out.keep H3).cell rfl); have u3 := jc we gq 3 B ((Hn.out.keep H3).cell rfl); have u4 := jc we gq 4 N ((Hn.out.keep H3).cell rfl); have u5 := jv we gq 5 (.bool Lg) ((Hn.out.keep H3).cell rfl); have ul := (Hn.out.keep H3).lt; have H8 := jH H3)
    obtain ⟨QN, QO, QP, Us⟩ := hid4 (R4.out.keep H8.out) (R5.out.keep H8.out) (Hn.out.keep H8.out) (R7.out.trans H8.out)
    obtain ⟨Y, hY⟩ : ∃ Y : Nat, (a : Int) + Z = (Y : Int) := ⟨((a : Int) + Z).toNat, by omega⟩
    have wY : IntKind.i64.wrap ((a : Int) + Z) = (Y : Int) := jw
    have Qd : Y < N1 := by omega
    have Qe : (Y : Int) < (N1 : Int) := by omega
    have QQ := jH hY
    clear hY MV u0 u1 u2 u3 u4 u5 ul
    obtain ⟨b1, b2, b3, b4, b5⟩ := ownC_cell QO.out (j := Y) (by rw [bgArr_len]; omega)
    obtain ⟨BX, Kf⟩ := jE (nth (bgArr ks N1) Y)
    rw [← Kf] at b1
    have Mi : we.cell? ⟨gB, Y, none⟩ = some (.bool BX) := b1
    have HM := b4 true
    rw [bgArr_put _ jo] at HM
    obtain ⟨w5, Kg⟩ : ∃ w', w' = we.setCell ⟨gB, Y, none⟩ (.bool true) := ⟨_, rfl⟩
    have HF : OwnB 2 cq w5 wa.heap.size (.slice (some ⟨gB, 0, none⟩) N1 N1) (bgArr (ks ++ [(Y : Int)]) N1) := by rw [Kg]; exact HM
    have Kh : Turn (fun z => z = 2) cq we cq w5 := by rw [Kg]; exact b5 (bV true)
    obtain ⟨Kl, HV, H2⟩ := hid3 HF (QN.out.trans Kh) ((BlkC.turn ⟨QP.out, R6.out⟩ Kh jd).1)
    have MW : Hid (Keeps wa w5) := jH ((Mz.out.trans (HV.out.mono (J := (fun z => z ≠ 0)) fun z h => by omega)).below (Nat.le_refl _) (fun _ _ => rfl) (fun q => q rfl))
    have MX := jH Kg
    clear b1 Kf HM HF b4 b5 Kh Kg
    go_upto_region 31 with fail
    rw [← MX.out]
    clear MX Mi b2 b3
    have u0 := jc w5 gq 0 K ((H2.out).cell rfl)
    have u1 := jc w5 gq 1 D ((H2.out).cell rfl)
    have u2 := jc w5 gq 2 A ((H2.out).cell rfl)
    have u3 := jc w5 gq 3 B ((H2.out).cell rfl)
    have u4 := jc w5 gq 4 N ((H2.out).cell rfl)
    have u5 := jv w5 gq 5 (.bool Lg) ((H2.out).cell rfl)
    have ul := H2.out.lt
    clear wY
    have Mx : (EN == 4) = false := by rw [Hi]; decide
    have P7 : (EN == 3) = true := by rw [Hi]; decide
    clear Hi
    go_upto_region 32 with first | (go_at_call 40; refine (Kx.out _).mono ?_; rintro e we ⟨rfl, H3⟩; have u0 := jc we gq 0 K ((H2.out.keep H3).cell rfl); have u1 := jc we gq 1 D ((H2.out.keep H3).cell rfl); have u2 := jc we gq 2 A ((H2.out.keep H3).cell rfl); have u3 := jc we gq 3 B ((H2.out.keep H3).cell rfl); have u4 := jc we gq 4 N ((H2.out.keep H3).cell rfl); have u5 := jv we gq 5 (.bool Lg) ((H2.out.keep H3).cell rfl); have ul := (H2.out.keep H3).lt; have H8 := jH H3) | (go_at_call 40; refine (Kx.out _).mono ?_; rintro e wf ⟨rfl, Hq⟩; have u0 := jc wf gq 0 K (((H2.out.keep H8.out).keep Hq).cell rfl); have u1 := jc wf gq 1 D (((H2.out.keep H8.out).keep Hq).cell rfl); have u2 := jc wf gq 2 A (((H2.out.keep H8.out).keep Hq).cell rfl); have u3 := jc wf gq 3 B (((H2.out.keep H8.out).keep Hq).cell rfl); have u4 := jc wf gq 4 N (((H2.out.keep H8.out).keep Hq).cell rfl); have u5 := jv wf gq 5 (.bool Lg) (((H2.out.keep H8.out).keep Hq).cell rfl); have ul := ((H2.out.keep H8.out).keep Hq).lt; have HH := jH Hq)
    clear Mx P7
    obtain ⟨KC, My, PA, KE⟩ := hid4 (HV.out.keep (H8.out.trans HH.out)) (Kl.out.keep (H8.out.trans HH.out)) (H2.out.keep (H8.out.trans HH.out)) (MW.out.trans (H8.out.trans HH.out))
    obtain ⟨w6, MY⟩ := jE wf
    subst MY
    clear u0 u1 u2 u3 u4 u5 ul
    have PB := QV.out.turn KC.out jd
    obtain ⟨o1, -, o3, -, -⟩ := ownC_cell PB (j := a) (by rw [ownArr_len]; omega)
    rw [ownArr_at _ jo] at o1
    have KX : w6.drew.cell? ⟨gO, a, none⟩ = some (.int .i64 FI) := by have z := jc w6 gO a ((ownS (allS m) m.Funcs.length (a : Int)).getD (-1)) o1; (rw [show (ownS (allS m) m.Funcs.length (a : Int)).getD (-1) = FI from QM.out] at z); exact z
    have n0 := jv w6.drew w.heap.size 0 (.slice x0 TL Kj) ((HD.out.keep KE.out).cell rfl)
    by_cases hin : 0 ≤ (a : Int) + N ∧ (a : Int) + N ≤ TL
    case neg =>
     have KW : Hid (recB m = true) := jH (Ks.out (by rw [HS.out, decide_eq_false (fun q => St.out hin q)]; rfl))
     clear o1 PB
     refine wp_region_held_drew (S := Cells [(w.heap.size, 0, .slice x0 TL Kj)]) jx ⟨n0, trivial⟩ (fun H0 => ?_)
     clear n0 KX o3
     refine jp 0 H0 ?_
     refine jp 1 H0 ?_
     refine jp 2 H0 ?_
     refine jp 3 H0 ?_
     refine readyC 4 ?_
     intro K' hK
     go_simp
     go_at_call 20
     refine (in_no' _ _ _ _ jo).mono ?_
     rintro e wz ⟨rfl, rfl⟩
     refine goOn hK H0 (fun hHeld2 => ?_)
     clear hK K' H0
     have H0 := hHeld2
     clear hHeld2
     refine jp 5 H0 ?_
     refine jp 6 H0 ?_
     refine wpAnyH_take (i := 7) (oi := ?oq10x7) (v := undef) ?hq10x7 ?aq10x7 ?bq10x7 ?cq10x7 ?qq10x7 (Or.inr ⟨?wq10x7, rfl⟩) H0 ?rq10x7
     case hq10x7 => (simp only [jT]; try rfl)
     case aq10x7 => kernel_rfl
     case bq10x7 => kernel_rfl
     case cq10x7 => kernel_rfl
     case qq10x7 => exact fun _ _ _ h => h
     case wq10x7 => rfl
     try simp only [Act.put, jS]
     refine wpAnyH_take (i := 8) (oi := ?oq11x8) (v := undef) ?hq11x8 ?aq11x8 ?bq11x8 ?cq11x8 ?qq11x8 (Or.inr ⟨?wq11x8, rfl⟩) H0 ?rq11x8
     case hq11x8 => (simp only [jT]; try rfl)
     case aq11x8 => kernel_rfl
     case bq11x8 => kernel_rfl
     case cq11x8 => kernel_rfl
     case qq11x8 => exact fun _ _ _ h => h
     case wq11x8 => rfl
     try simp only [Act.put, jS]
     refine wpAnyH_take (i := 9) (oi := ?oq12x9) (v := undef) ?hq12x9 ?aq12x9 ?bq12x9 ?cq12x9 ?qq12x9 (Or.inr ⟨?wq12x9, rfl⟩) H0 ?rq12x9
     case hq12x9 => (simp only [jT]; try rfl)
     case aq12x9 => kernel_rfl
     case bq12x9 => kernel_rfl
     case cq12x9 => kernel_rfl
     case qq12x9 => exact fun _ _ _ h => h
     case wq12x9 => rfl
     try simp only [Act.put, jS]
     refine wpAnyH_take (i := 10) (oi := ?oq13x10) (v := undef) ?hq13x10 ?aq13x10 ?bq13x10 ?cq13x10 ?qq13x10 (Or.inr ⟨?wq13x10, rfl⟩) H0 ?rq13x10
     case hq13x10 => (simp only [jT]; try rfl)
     case aq13x10 => kernel_rfl
     case bq13x10 => kernel_rfl
     case cq13x10 => kernel_rfl
     case qq13x10 => exact fun _ _ _ h => h
     case wq13x10 => rfl
     try simp only [Act.put, jS]
     refine wpAnyH_take (i := 11) (oi := ?oq14x11) (v := undef) ?hq14x11 ?aq14x11 ?bq14x11 ?cq14x11 ?qq14x11 (Or.inr ⟨?wq14x11, rfl⟩) H0 ?rq14x11
     case hq14x11 => (simp only [jT]; try rfl)
     case aq14x11 => kernel_rfl
     case bq14x11 => kernel_rfl
     case cq14x11 => kernel_rfl
     case qq14x11 => exact fun _ _ _ h => h
     case wq14x11 => rfl
     try simp only [Act.put, jS]
     refine wpAnyH_take (i := 12) (oi := ?oq15x12) (v := undef) ?hq15x12 ?aq15x12 ?bq15x12 ?cq15x12 ?qq15x12 (Or.inr ⟨?wq15x12, rfl⟩) H0 ?rq15x12
     case hq15x12 => (simp only [jT]; try rfl)
     case aq15x12 => kernel_rfl
     case bq15x12 => kernel_rfl
     case cq15x12 => kernel_rfl
     case qq15x12 => exact fun _ _ _ h => h
     case wq15x12 => rfl
     try simp only [Act.put, jS]
     refine wpAnyH_take (i := 13) (oi := ?oq16x13) (v := undef) ?hq16x13 ?aq16x13 ?bq16x13 ?cq16x13 ?qq16x13 (Or.inr ⟨?wq16x13, rfl⟩) H0 ?rq16x13
     case hq16x13 => (simp only [jT]; try rfl)
     case aq16x13 => kernel_rfl
     case bq16x13 => kernel_rfl
     case cq16x13 => kernel_rfl
     case qq16x13 => exact fun _ _ _ h => h
     case wq16x13 => rfl
     try simp only [Act.put, jS]
     refine wpAnyH_take (i := 14) (oi := ?oq17x14) (v := undef) ?hq17x14 ?aq17x14 ?bq17x14 ?cq17x14 ?qq17x14 (Or.inr ⟨?wq17x14, rfl⟩) H0 ?rq17x14
     case hq17x14 => (simp only [jT]; try rfl)
     case aq17x14 => kernel_rfl
     case bq17x14 => kernel_rfl
     case cq17x14 => kernel_rfl
     case qq17x14 => exact fun _ _ _ h => h
     case wq17x14 => rfl
     try simp only [Act.put, jS]
     refine wpAnyH_take (i := 15) (oi := ?oq18x15) (v := undef) ?hq18x15 ?aq18x15 ?bq18x15 ?cq18x15 ?qq18x15 (Or.inr ⟨?wq18x15, rfl⟩) H0 ?rq18x15
     case hq18x15 => (simp only [jT]; try rfl)
     case aq18x15 => kernel_rfl
     case bq18x15 => kernel_rfl
     case cq18x15 => kernel_rfl
     case qq18x15 => exact fun _ _ _ h => h
     case wq18x15 => rfl
     try simp only [Act.put, jS]
     refine jp 16 H0 ?_
     refine wpAnyH_done jx ?_ _
     clear H0
     have Hs := jH (show Keeps wa w6.drew from KE.out.drew)
     obtain ⟨w7, Kt⟩ := jE (w6.drew)
     rw [← Kt] at Hs ⊢
     clear Kt
     obtain ⟨q0, q1, q2⟩ := ((Hy.out.keep Hs.out)).k3
     obtain ⟨z0, z1, z2⟩ := ((Hy.out.keep Hs.out)).t3
     have lq := (Hy.out.keep Hs.out).lt
     go_wp2_with fail
     obtain ⟨wf, Hr⟩ := jE ((((w7).setCell ⟨w.heap.size + 1, 0, none⟩ (.slice none 0 0)).setCell ⟨w.heap.size + 1, 1, none⟩ (.slice none 0 0)).setCell ⟨w.heap.size + 1, 2, none⟩ (.slice none 0 0))
     rw [← Hr]
     obtain ⟨HK, HA⟩ := put3 (Hy.out.keep Hs.out) _ _ _ Hr
     have HH := jH (keepsPut (Hg.out.trans Hs.out) jo HA)
     obtain ⟨e0, e1, e2⟩ := HK.k3
     clear Hr HK HA
     exact bodyPost_ret (v := .tuple #[.agg #[.slice none 0 0, .slice none 0 0, .slice none 0 0], .int .i64 9]) (by simp [results, Tryd.results16, go_sem, e0, e1, e2]) rfl (FlAns.bad (one_bad Mg.out.symm Kv.out KW.out) HH.out)
    case pos =>
    obtain ⟨X, hX⟩ : ∃ X : Nat, (a : Int) + N = (X : Int) := ⟨((a : Int) + N).toNat, by omega⟩
    have HB : X < N1 := by omega
    have MI : (X : Int) < (N1 : Int) := by omega
    obtain ⟨p1, -, p3, -, -⟩ := ownC_cell PB (j := X) (by rw [ownArr_len]; exact HB)
    rw [ownArr_at _ HB] at p1
    obtain ⟨OX, KP⟩ := jE ((ownS (allS m) m.Funcs.length (X : Int)).getD (-1))
    rw [← KP] at p1
    have Ka : w6.drew.cell? ⟨gO, X, none⟩ = some (.int .i64 OX) := p1
    have QR := jH hX
    have Q1 : decide (ownS (allS m) m.Funcs.length ((a : Int) + N) = some FI) = decide (OX = FI) := by rw [hX, KP]; exact decide_eq_decide.2 (ownR_is (m := m) jo)
    have Q2 := jH Q1
    have wX : (a : Int) + N = (X : Int) := hX
    have tO : decide (OX = FI) = (OX == FI) := by rfl
    clear o1 PB p1 KP Q1 hX
    refine wp_region_held_drew (S := Cells [(w.heap.size, 0, .slice x0 TL Kj), (gO, X, .int .i64 OX), (gO, a, .int .i64 FI)]) jx ⟨n0, Ka, KX, trivial⟩ (fun H0 => ?_)
    clear n0 KX Ka
    refine jp 0 H0 ?_
    refine jp 1 H0 ?_
    refine jp 2 H0 ?_
    refine jp 3 H0 ?_
    refine readyC 4 ?_
    intro K' hK
    go_simp
    go_at_call 20
    refine (in_yes' _ _ _ _ jo jo).mono ?_
    rintro e wz ⟨rfl, rfl⟩
    refine goOn hK H0 (fun hHeld2 => ?_)
    clear hK K' H0
    have H0 := hHeld2
    clear hHeld2
    refine jp 5 H0 ?_
    refine jp 6 H0 ?_
    refine jp 7 H0 ?_
    refine jp 8 H0 ?_
    refine jp 9 H0 ?_
    refine jp 10 H0 ?_
    refine jp 11 H0 ?_
    refine jp 12 H0 ?_
    refine jp 13 H0 ?_
    refine jp 14 H0 ?_
    refine jp 15 H0 ?_
    refine jp 16 H0 ?_
    refine wpAnyH_done jx ?_ _
    clear H0
    have Hs := jH (show Keeps wa w6.drew from KE.out.drew)
    by_cases hox : OX = FI
    case neg =>
     have PC : (OX != FI) = true := by simpa using hox
     have KW : Hid (recB m = true) := jH (Ks.out (by rw [HS.out, Q2.out, decide_eq_false hox]; rfl))
     obtain ⟨w7, Kt⟩ := jE (w6.drew)
     rw [← Kt] at Hs ⊢
     clear o3 p3 hox Kt
     obtain ⟨q0, q1, q2⟩ := ((Hy.out.keep Hs.out)).k3
     obtain ⟨z0, z1, z2⟩ := ((Hy.out.keep Hs.out)).t3
     have lq := (Hy.out.keep Hs.out).lt
     go_wp2_with fail
     obtain ⟨wf, Hr⟩ := jE ((((w7).setCell ⟨w.heap.size + 1, 0, none⟩ (.slice none 0 0)).setCell ⟨w.heap.size + 1, 1, none⟩ (.slice none 0 0)).setCell ⟨w.heap.size + 1, 2, none⟩ (.slice none 0 0))
     rw [← Hr]
     obtain ⟨HK, HA⟩ := put3 (Hy.out.keep Hs.out) _ _ _ Hr
     have HH := jH (keepsPut (Hg.out.trans Hs.out) jo HA)
     obtain ⟨e0, e1, e2⟩ := HK.k3
     clear Hr HK HA
     exact bodyPost_ret (v := .tuple #[.agg #[.slice none 0 0, .slice none 0 0, .slice none 0 0], .int .i64 9]) (by simp [results, Tryd.results16, go_sem, e0, e1, e2]) rfl (FlAns.bad (one_bad Mg.out.symm Kv.out KW.out) HH.out)
    case pos =>
    have PC : (OX != FI) = false := by simpa using hox
    have K2 : Hid (spB m (ownS (allS m) m.Funcs.length) FI ⟨a, Z, ⟨K, D, A, B, N, Lg⟩⟩ = false) := jH (by rw [HS.out, Q2.out, decide_eq_true hox]; rfl)
    have PD : Keeps w6 w6.drew := (Keeps.refl _).drew
    obtain ⟨KF, PE, Mv⟩ := hid3 (KC.out.keep PD) (My.out.keep PD) (PA.out.keep PD)
    clear o3 p3 hox PD tO
    go_upto_region 34 with fail
    obtain ⟨w7, Kt⟩ := jE (w6.drew)
    rw [← Kt] at Hs KF PE Mv ⊢
    clear Kt PC
    obtain ⟨b1, b2, b3, b4, b5⟩ := ownC_cell PE.out (j := X) (by rw [bgArr_len]; omega)
    obtain ⟨BX, Kf⟩ := jE (nth (bgArr (ks ++ [(Y : Int)]) N1) X)
    rw [← Kf] at b1
    have Mi : w7.cell? ⟨gB, X, none⟩ = some (.bool BX) := b1
    have HM := b4 true
    rw [bgArr_put _ jo] at HM
    obtain ⟨w8, PF⟩ : ∃ w', w' = w7.setCell ⟨gB, X, none⟩ (.bool true) := ⟨_, rfl⟩
    have HF : OwnB 2 cq w8 wa.heap.size (.slice (some ⟨gB, 0, none⟩) N1 N1) (bgArr ((ks ++ [(Y : Int)]) ++ [(X : Int)]) N1) := by rw [PF]; exact HM
    have Kh : Turn (fun z => z = 2) cq w7 cq w8 := by rw [PF]; exact b5 (bV true)
    obtain ⟨P4, KD, Me⟩ := hid3 HF (KF.out.trans Kh) ((BlkC.turn ⟨Mv.out, R6.out⟩ Kh jd).1)
    have WI : Hid (Keeps wa w8) := jH ((Mz.out.trans (KD.out.mono (J := (fun z => z ≠ 0)) fun z h => by omega)).below (Nat.le_refl _) (fun _ _ => rfl) (fun q => q rfl))
    have Su := jH PF
    clear b1 Kf HM HF b4 b5 Kh PF
    go_upto_region 35 with fail
    rw [← Su.out]
    clear Su Mi b2 b3
    have u0 := jc w8 gq 0 K ((Me.out).cell rfl)
    have u1 := jc w8 gq 1 D ((Me.out).cell rfl)
    have u2 := jc w8 gq 2 A ((Me.out).cell rfl)
    have u3 := jc w8 gq 3 B ((Me.out).cell rfl)
    have u4 := jc w8 gq 4 N ((Me.out).cell rfl)
    have u5 := jv w8 gq 5 (.bool Lg) ((Me.out).cell rfl)
    have ul := Me.out.lt
    have MZ : (K == 23) = false := by simpa using Hu
    have P0 : (K == 24) = false := by simpa using K3
    have K4 : Hid (keysP pp.2 = [(X : Int), (Y : Int)]) := jH (by rw [Pa.out, QR.out, QQ.out])
    have Sv : Hid (OwnB 2 cq w8 wa.heap.size (.slice (some ⟨gB, 0, none⟩) N1 N1) (bgArr (ks ++ [(Y : Int), (X : Int)]) N1)) := jH (by rw [show ks ++ [(Y : Int), (X : Int)] = ks ++ [(Y : Int)] ++ [(X : Int)] by simp]; exact P4.out)
    clear wX
    go_wp2_with fail
    go_roundw
    case rel => exact ⟨a + 1, cq, _, by omega, by go_num, KD, Sv, jH (KeysAt.step HG.out KS.out P2.out QK.out QL.out (by intro x; rw [K4.out]; simp only [List.mem_cons, List.not_mem_nil, or_false]; exact or_comm)), jH (fun j hj => by
     rcases Nat.lt_or_ge j a with z | z
     ·exact P3.out j z
     obtain rfl : j = a := by omega
     rw [Md.out]; exact K2.out)⟩
    case measure => exact jm
   case neg =>
   by_cases K3 : K = 24
   case pos =>
    have Hu : K ≠ 23 := by omega
    have Pa : Hid (keysP pp.2 = [(a : Int) + Z]) := jH (by rw [Ko.out, if_neg hj, if_pos (by rw [K3]; decide)])
    have HS : Hid (spB m (ownS (allS m) m.Funcs.length) FI ⟨a, Z, ⟨K, D, A, B, N, Lg⟩⟩ = (decide (N < m.Tables.length) && anyN (fun k => !decide (ownS (allS m) m.Funcs.length (nth (nth m.Tables N.toNat) k) = some FI)) (nth m.Tables N.toNat).length)) := jH (by rw [HR.out, if_neg hj, if_pos K3])
    have Hi : EN = 1 := by rw [KJ, K3]; decide
    have QS := jH K3
    clear KJ hj Ko HR K3
    as_aux_lemma =>
    have MV : decide ((0 : Int) < EN) = true := by rw [Hi]; decide
    go_upto_region 30 with (go_at_call 40; refine (Kx.out _).mono ?_; rintro e we ⟨rfl, H3⟩; have u0 := jc we gq 0 K ((Hn.out.keep H3).cell rfl); have u1 := jc we gq 1 D ((Hn.out.keep H3).cell rfl); have u2 := jc we gq 2 A ((Hn.out.keep H3).cell rfl); have u3 := jc we gq 3 B ((Hn.out.keep H3).cell rfl); have u4 := jc we gq 4 N ((Hn.out.keep H3).cell rfl); have u5 := jv we gq 5 (.bool Lg) ((Hn.out.keep H3).cell rfl); have ul := (Hn.out.keep H3).lt; have H8 := jH H3)
    obtain ⟨QN, QO, QP, Us⟩ := hid4 (R4.out.keep H8.out) (R5.out.keep H8.out) (Hn.out.keep H8.out) (R7.out.trans H8.out)
    obtain ⟨Y, hY⟩ : ∃ Y : Nat, (a : Int) + Z = (Y : Int) := ⟨((a : Int) + Z).toNat, by omega⟩
    have wY : IntKind.i64.wrap ((a : Int) + Z) = (Y : Int) := jw
    have Qd : Y < N1 := by omega
    have Qe : (Y : Int) < (N1 : Int) := by omega
    have QQ := jH hY
    clear hY MV u0 u1 u2 u3 u4 u5 ul
    obtain ⟨b1, b2, b3, b4, b5⟩ := ownC_cell QO.out (j := Y) (by rw [bgArr_len]; omega)
    obtain ⟨BX, Kf⟩ := jE (nth (bgArr ks N1) Y)
    rw [← Kf] at b1
    have Mi : we.cell? ⟨gB, Y, none⟩ = some (.bool BX) := b1
    have HM := b4 true
    rw [bgArr_put _ jo] at HM
    obtain ⟨w5, Kg⟩ : ∃ w', w' = we.setCell ⟨gB, Y, none⟩ (.bool true) := ⟨_, rfl⟩
    have HF : OwnB 2 cq w5 wa.heap.size (.slice (some ⟨gB, 0, none⟩) N1 N1) (bgArr (ks ++ [(Y : Int)]) N1) := by rw [Kg]; exact HM
    have Kh : Turn (fun z => z = 2) cq we cq w5 := by rw [Kg]; exact b5 (bV true)
    obtain ⟨Kl, HV, H2⟩ := hid3 HF (QN.out.trans Kh) ((BlkC.turn ⟨QP.out, R6.out⟩ Kh jd).1)
    have MW : Hid (Keeps wa w5) := jH ((Mz.out.trans (HV.out.mono (J := (fun z => z ≠ 0)) fun z h => by omega)).below (Nat.le_refl _) (fun _ _ => rfl) (fun q => q rfl))
    have MX := jH Kg
    clear b1 Kf HM HF b4 b5 Kh Kg
    go_upto_region 31 with fail
    rw [← MX.out]
    clear MX Mi b2 b3
    have u0 := jc w5 gq 0 K ((H2.out).cell rfl)
    have u1 := jc w5 gq 1 D ((H2.out).cell rfl)
    have u2 := jc w5 gq 2 A ((H2.out).cell rfl)
    have u3 := jc w5 gq 3 B ((H2.out).cell rfl)
    have u4 := jc w5 gq 4 N ((H2.out).cell rfl)
    have u5 := jv w5 gq 5 (.bool Lg) ((H2.out).cell rfl)
    have ul := H2.out.lt
    clear wY
    have K4 : Hid (keysP pp.2 = [(Y : Int)]) := jH (by rw [Pa.out, QQ.out])
    have Mf : Hid (OwnB 2 cq w5 wa.heap.size (.slice (some ⟨gB, 0, none⟩) N1 N1) (bgArr (ks ++ [(Y : Int)]) N1)) := Kl
    have Mx : (EN == 4) = false := by rw [Hi]; decide
    have P7 : (EN == 3) = false := by rw [Hi]; decide
    clear Hi
    go_upto_region 35 with first | (go_at_call 40; refine (Kx.out _).mono ?_; rintro e we ⟨rfl, H3⟩; have u0 := jc we gq 0 K ((H2.out.keep H3).cell rfl); have u1 := jc we gq 1 D ((H2.out.keep H3).cell rfl); have u2 := jc we gq 2 A ((H2.out.keep H3).cell rfl); have u3 := jc we gq 3 B ((H2.out.keep H3).cell rfl); have u4 := jc we gq 4 N ((H2.out.keep H3).cell rfl); have u5 := jv we gq 5 (.bool Lg) ((H2.out.keep H3).cell rfl); have ul := (H2.out.keep H3).lt; have H8 := jH H3) | (go_at_call 40; refine (Kx.out _).mono ?_; rintro e wf ⟨rfl, Hq⟩; have u0 := jc wf gq 0 K (((H2.out.keep H8.out).keep Hq).cell rfl); have u1 := jc wf gq 1 D (((H2.out.keep H8.out).keep Hq).cell rfl); have u2 := jc wf gq 2 A (((H2.out.keep H8.out).keep Hq).cell rfl); have u3 := jc wf gq 3 B (((H2.out.keep H8.out).keep Hq).cell rfl); have u4 := jc wf gq 4 N (((H2.out.keep H8.out).keep Hq).cell rfl); have u5 := jv wf gq 5 (.bool Lg) (((H2.out.keep H8.out).keep Hq).cell rfl); have ul := ((H2.out.keep H8.out).keep Hq).lt; have HH := jH Hq)
    clear Mx P7
    have Ki := H8.out.trans HH.out
    obtain ⟨KC, My, PA, KE⟩ := hid4 (HV.out.keep Ki) (Mf.out.keep Ki) (H2.out.keep Ki) (MW.out.trans Ki)
    clear Ki
    obtain ⟨w6, MY⟩ := jE wf
    subst MY
    have MZ : (K == 23) = false := by rw [QS.out]; rfl
    have P0 : (K == 24) = true := by rw [QS.out]; rfl
    obtain ⟨n0, n1, n2, n3, n4, n5⟩ := (HD.out.keep KE.out).k6
    have nl := (HD.out.keep KE.out).lt
    by_cases Pb : N < NT
    case neg =>
     have tN : decide (N < (NT : Int)) = false := decide_eq_false Pb
     have K2 : Hid (spB m (ownS (allS m) m.Funcs.length) FI ⟨a, Z, ⟨K, D, A, B, N, Lg⟩⟩ = false) := jH (by rw [HS.out, ← Pd.out, decide_eq_false Pb]; rfl)
     clear Pb
     go_wp2_with fail
     go_roundw
     case rel => exact ⟨a + 1, cq, _, by omega, by go_num, KC, My, jH (KeysAt.step HG.out KS.out P2.out QK.out QL.out (by intro x; rw [K4.out])), jH (fun j hj => by
      rcases Nat.lt_or_ge j a with z | z
      ·exact P3.out j z
      obtain rfl : j = a := by omega
      rw [Md.out]; exact K2.out)⟩
     case measure => exact jm
    case pos =>
    have tN : decide (N < (NT : Int)) = true := decide_eq_true Pb
    obtain ⟨NI, WJ⟩ : ∃ n : Nat, N = (n : Int) := ⟨N.toNat, by have := Uq QS.out; omega⟩
    subst WJ
    have PG : NI < m.Tables.length := by rw [← Pd.out]; omega
    obtain ⟨_, _, te, -, -, -, t4⟩ := Q4.out
    injection te with te1 te2 te3
    subst te1 te3
    obtain ⟨tb, Pv, S9, tc⟩ := t4 jo
    subst S9
    obtain ⟨sa, Mb, MS, s1, s2, s3, s4⟩ := Q5.out NI PG
    obtain ⟨LT, KN⟩ := jE (nth m.Tables NI)
    obtain ⟨TN, KV⟩ := jE (LT.length)
    rw [← KN, ← KV] at MS s4
    have Sa : Hid (∀ W', Keeps wa W' → W'.cell? ⟨tb, Pv + NI, none⟩ = some (.slice sa TN Mb)) := jH (fun W' hk' => by (have z := (Hg.out.trans hk').cell (tc NI 0 PG jd)); (try dsimp only at z); rw [MS] at z; simpa using z)
    have HQ := HG.out.tab NI PG
    rw [← KN, ← KV] at HQ
    have PR : TN ≤ 20 := HQ.1
    obtain ⟨QA, PS, Sb, Sc⟩ := hid4 KN KV HQ s4
    have Sw : Hid (∀ j, j < TN → ∃ p ∈ annS (allS m) m.Funcs.length, p.2.A = nth LT j) := jH (fun j hj => by
     have z := anyN_false (Ri.out NI PG) j (by rw [← KN, ← KV]; exact hj)
     try dsimp only at z
     rw [← KN] at z
     cases e : ownS (allS m) m.Funcs.length (nth LT j) with
     | none => rw [e] at z; cases z
     | some g => obtain ⟨p, hp, e2, -⟩ := ownS_some e; exact ⟨p, hp, e2⟩)
    have Sx : spB m (ownS (allS m) m.Funcs.length) FI ⟨a, Z, ⟨K, D, A, B, NI, Lg⟩⟩ = anyN (fun j => !decide (ownS (allS m) m.Funcs.length (nth LT j) = some FI)) TN := by rw [HS.out, ← Pd.out, decide_eq_true jo, Bool.true_and]; (try dsimp only); rw [Int.toNat_natCast, ← KN, ← KV]
    have Sy := jH Sx
    have WK : (NI : Int) < (NT : Int) := by omega
    clear MS s1 s2 s3 s4 tc t4 te2 KN KV HQ Sx Pb
    go_upto_region 38 with fail
    clear u0 u1 u2 u3 u4 u5 ul n0 n1 n2 n3 n4 n5 nl
    go_wp2_with fail
    go_loopw [16] (fun s16 wn => ∃ (j : Nat) (cn : Nat → Nat), j ≤ TN ∧ s16 = .int .i64 j ∧ Hid (Turn (fun _ => False) cq w6 cn wn) ∧ Hid (∀ r, r < j → decide (ownS (allS m) m.Funcs.length (nth LT r) = some FI) = true)) (fun s16 _ => TN - (intOf s16).toNat)
    case atStart => exact ⟨0, cq, Nat.zero_le _, rfl, jH (Turn.refl _ _ _), jH (fun j hj => absurd hj (Nat.not_lt_zero _))⟩
    case round =>
    obtain ⟨j, cn, hj, rfl, Vv, Sz⟩ := hrel
    have Q3 : Keeps w6 wr := turnKeeps Vv.out
    have PH := PA.out.keep Q3
    have u0 := jc wr gq 0 K ((PH).cell rfl)
    have u1 := jc wr gq 1 D ((PH).cell rfl)
    have u2 := jc wr gq 2 A ((PH).cell rfl)
    have u3 := jc wr gq 3 B ((PH).cell rfl)
    have u4 := jc wr gq 4 NI ((PH).cell rfl)
    have u5 := jv wr gq 5 (.bool Lg) ((PH).cell rfl)
    have ul := PH.lt
    have QT := KE.out.trans Q3
    have n2 := (HD.out.keep QT).cell (j := 2) rfl
    have nl := (HD.out.keep QT).lt
    have y0 := Sa.out _ QT
    have yl := lt_of_cell y0
    by_cases hlt9 : j < TN
    case neg =>
     have tl9 : decide ((j : Int) < (TN : Int)) = false := decide_eq_false jo
     have K2 : Hid (spB m (ownS (allS m) m.Funcs.length) FI ⟨a, Z, ⟨K, D, A, B, NI, Lg⟩⟩ = false) := jH (by rw [Sy.out]; exact anyN_no (fun r hr => by rw [Sz.out r jo]; rfl))
     obtain ⟨KF, PE⟩ := hid2 (KC.out.keep Q3) (My.out.keep Q3)
     clear Q3 PH QT
     go_wp2_with fail
     go_roundw
     case rel => exact ⟨a + 1, cq, _, by omega, by go_num, KF, PE, jH (KeysAt.step HG.out KS.out P2.out QK.out QL.out (by intro x; rw [K4.out])), jH (fun j hj => by
      rcases Nat.lt_or_ge j a with z | z
      ·exact P3.out j z
      obtain rfl : j = a := by omega
      rw [Md.out]; exact K2.out)⟩
     case measure => exact jm
    case pos =>
    have WL : (j : Int) < (TN : Int) := by omega
    obtain ⟨ab, PW, Sm, KB⟩ := Sc.out jo
    subst Sm
    obtain ⟨x, hx⟩ := jE (nth LT j)
    have Py := Sb.out.2 j hlt9
    rw [← hx] at Py
    have P9 := PJ.out
    obtain ⟨X, hX⟩ : ∃ X : Nat, x = (X : Int) := ⟨x.toNat, by omega⟩
    have y1 : wr.drew.cell? ⟨ab, PW + j, none⟩ = some (.int .i64 X) := by (have z := (Hg.out.trans QT).cell (KB j 0 hlt9 jd)); (try dsimp only at z); rw [← hx, hX] at z; simpa using z
    have HB : X < N1 := by have := HI.out; omega
    have Pz : (X : Int) < (N1 : Int) := by omega
    have Ut := QV.out.turn (KC.out.keep Q3) jd
    obtain ⟨o1, -, o3, -, -⟩ := ownC_cell Ut (j := X) (by rw [ownArr_len]; exact HB)
    obtain ⟨p1, -, -, -, -⟩ := ownC_cell Ut (j := a) (by rw [ownArr_len]; omega)
    rw [ownArr_at _ HB] at o1
    rw [ownArr_at _ jo] at p1
    obtain ⟨OX, KP⟩ := jE ((ownS (allS m) m.Funcs.length (X : Int)).getD (-1))
    rw [← KP] at o1
    have KX : wr.drew.cell? ⟨gO, X, none⟩ = some (.int .i64 OX) := o1
    have Ka : wr.drew.cell? ⟨gO, a, none⟩ = some (.int .i64 FI) := by have z := jc wr gO a ((ownS (allS m) m.Funcs.length (a : Int)).getD (-1)) p1; (rw [show (ownS (allS m) m.Funcs.length (a : Int)).getD (-1) = FI from QM.out] at z); exact z
    have Q1 : decide (ownS (allS m) m.Funcs.length (nth LT j) = some FI) = decide (OX = FI) := by rw [← hx, hX, KP]; exact decide_eq_decide.2 (ownR_is (m := m) jo)
    obtain ⟨Q2, WM, HKN⟩ := hid3 Q1 QT Q3
    have Vw := jv wr.drew w.heap.size 2 (.slice (some ⟨tb, Pv, none⟩) NT KR) n2
    have Vx := jc wr.drew gq 4 NI u4
    have Vy := jv wr.drew tb (Pv + NI) (.slice (some ⟨ab, PW, none⟩) TN Mb) y0
    clear KB Py P9 hx hX KP o1 p1 Q1 Q3 QT Ut PH
    go_upto_region 41 with fail
    refine wp_region_held_drew (S := Cells [(w.heap.size, 2, .slice (some ⟨tb, Pv, none⟩) NT KR), (gq, 4, .int .i64 NI), (tb, Pv + NI, .slice (some ⟨ab, PW, none⟩) TN Mb), (ab, PW + j, .int .i64 X), (gO, X, .int .i64 OX), (gO, a, .int .i64 FI)]) jx ⟨Vw, Vx, Vy, y1, KX, Ka, trivial⟩ (fun H0 => ?_)
    clear Vw Vx Vy y1 KX Ka n2 y0 o3 yl u0 u1 u2 u3 u4 u5 ul
    refine jp 0 H0 ?_
    refine jp 1 H0 ?_
    refine jp 2 H0 ?_
    refine jp 3 H0 ?_
    refine jp 4 H0 ?_
    refine jp 5 H0 ?_
    refine jp 6 H0 ?_
    refine jp 7 H0 ?_
    refine jp 8 H0 ?_
    refine jp 9 H0 ?_
    refine jp 10 H0 ?_
    refine jp 11 H0 ?_
    refine jp 12 H0 ?_
    refine jp 13 H0 ?_
    refine jp 14 H0 ?_
    refine jp 15 H0 ?_
    refine jp 16 H0 ?_
    refine wpAnyH_done jx ?_ _
    clear H0
    by_cases hox : OX = FI
    case neg =>
     have PC : (OX != FI) = true := by simpa using hox
     have KW : Hid (recB m = true) := jH (Ks.out (by rw [Sy.out]; exact anyN_yes hlt9 (by rw [Q2.out, decide_eq_false hox]; rfl)))
     have Hs := jH (show Keeps wa wr.drew from WM.out.drew)
     obtain ⟨w7, Kt⟩ := jE (wr.drew)
     rw [← Kt] at Hs ⊢
     clear hox Kt
     obtain ⟨q0, q1, q2⟩ := ((Hy.out.keep Hs.out)).k3
     obtain ⟨z0, z1, z2⟩ := ((Hy.out.keep Hs.out)).t3
     have lq := (Hy.out.keep Hs.out).lt
     go_wp2_with fail
     obtain ⟨wf, Hr⟩ := jE ((((w7).setCell ⟨w.heap.size + 1, 0, none⟩ (.slice none 0 0)).setCell ⟨w.heap.size + 1, 1, none⟩ (.slice none 0 0)).setCell ⟨w.heap.size + 1, 2, none⟩ (.slice none 0 0))
     rw [← Hr]
     obtain ⟨HK, HA⟩ := put3 (Hy.out.keep Hs.out) _ _ _ Hr
     have HH := jH (keepsPut (Hg.out.trans Hs.out) jo HA)
     obtain ⟨e0, e1, e2⟩ := HK.k3
     clear Hr HK HA
     exact bodyPost_ret (v := .tuple #[.agg #[.slice none 0 0, .slice none 0 0, .slice none 0 0], .int .i64 9]) (by simp [results, Tryd.results16, go_sem, e0, e1, e2]) rfl (FlAns.bad (one_bad Mg.out.symm Kv.out KW.out) HH.out)
    case pos =>
    have PC : (OX != FI) = false := by simpa using hox
    have WN : Hid (decide (ownS (allS m) m.Funcs.length (nth LT j) = some FI) = true) := jH (by rw [Q2.out]; exact decide_eq_true hox)
    clear hox
    go_wp2_with fail
    go_roundw
    case rel => exact ⟨j + 1, cn, by omega, by go_num, jH (Vv.out.keep ((Keeps.refl _).drew)), jH (fun r hr => by
     rcases Nat.lt_or_ge r j with z | z
     ·exact Sz.out r z
     obtain rfl : r = j := by omega
     exact WN.out)⟩
    case measure => exact jm
   case neg =>
   by_cases Hu : K = 23
   case pos =>
    have Pa : Hid (keysP pp.2 = []) := jH (by rw [Ko.out, if_neg hj, if_neg (by rw [Hu]; decide)])
    have HS : Hid (spB m (ownS (allS m) m.Funcs.length) FI ⟨a, Z, ⟨K, D, A, B, N, Lg⟩⟩ = !(anyN (fnP m ((a : Int) + N)) m.Funcs.length)) := jH (by rw [HR.out, if_neg hj, if_neg K3, if_pos Hu])
    have Hi : EN = 0 := by rw [KJ, Hu]; decide
    have Qq := jH Hu
    clear KJ hj Ko HR Hu
    as_aux_lemma =>
    have MV : decide ((0 : Int) < EN) = false := by rw [Hi]; decide
    go_upto_region 31 with (go_at_call 40; refine (Kx.out _).mono ?_; rintro e we ⟨rfl, H3⟩; have u0 := jc we gq 0 K ((Hn.out.keep H3).cell rfl); have u1 := jc we gq 1 D ((Hn.out.keep H3).cell rfl); have u2 := jc we gq 2 A ((Hn.out.keep H3).cell rfl); have u3 := jc we gq 3 B ((Hn.out.keep H3).cell rfl); have u4 := jc we gq 4 N ((Hn.out.keep H3).cell rfl); have u5 := jv we gq 5 (.bool Lg) ((Hn.out.keep H3).cell rfl); have ul := (Hn.out.keep H3).lt; have H8 := jH H3)
    obtain ⟨HV, Kl, H2, MW⟩ := hid4 (R4.out.keep H8.out) (R5.out.keep H8.out) (Hn.out.keep H8.out) (R7.out.trans H8.out)
    obtain ⟨w5, Kg⟩ := jE we
    subst Kg
    clear MV
    have K4 : Hid (keysP pp.2 = []) := jH Pa.out
    have Mf : Hid (OwnB 2 cq w5 wa.heap.size (.slice (some ⟨gB, 0, none⟩) N1 N1) (bgArr (ks ++ []) N1)) := jH (by rw [List.append_nil]; exact Kl.out)
    have Mx : (EN == 4) = false := by rw [Hi]; decide
    have P7 : (EN == 3) = false := by rw [Hi]; decide
    clear Hi
    go_upto_region 35 with first | (go_at_call 40; refine (Kx.out _).mono ?_; rintro e we ⟨rfl, H3⟩; have u0 := jc we gq 0 K ((H2.out.keep H3).cell rfl); have u1 := jc we gq 1 D ((H2.out.keep H3).cell rfl); have u2 := jc we gq 2 A ((H2.out.keep H3).cell rfl); have u3 := jc we gq 3 B ((H2.out.keep H3).cell rfl); have u4 := jc we gq 4 N ((H2.out.keep H3).cell rfl); have u5 := jv we gq 5 (.bool Lg) ((H2.out.keep H3).cell rfl); have ul := (H2.out.keep H3).lt; have H8 := jH H3) | (go_at_call 40; refine (Kx.out _).mono ?_; rintro e wf ⟨rfl, Hq⟩; have u0 := jc wf gq 0 K (((H2.out.keep H8.out).keep Hq).cell rfl); have u1 := jc wf gq 1 D (((H2.out.keep H8.out).keep Hq).cell rfl); have u2 := jc wf gq 2 A (((H2.out.keep H8.out).keep Hq).cell rfl); have u3 := jc wf gq 3 B (((H2.out.keep H8.out).keep Hq).cell rfl); have u4 := jc wf gq 4 N (((H2.out.keep H8.out).keep Hq).cell rfl); have u5 := jv wf gq 5 (.bool Lg) (((H2.out.keep H8.out).keep Hq).cell rfl); have ul := ((H2.out.keep H8.out).keep Hq).lt; have HH := jH Hq)
    clear Mx P7
    have Ki := H8.out.trans HH.out
    obtain ⟨KC, My, PA, KE⟩ := hid4 (HV.out.keep Ki) (Mf.out.keep Ki) (H2.out.keep Ki) (MW.out.trans Ki)
    clear Ki
    obtain ⟨w6, MY⟩ := jE wf
    subst MY
    have MZ : (K == 23) = true := by rw [Qq.out]; rfl
    have P0 : (K == 24) = false := by rw [Qq.out]; rfl
    obtain ⟨n0, n1, n2, n3, n4, n5⟩ := (HD.out.keep KE.out).k6
    have nl := (HD.out.keep KE.out).lt
    obtain ⟨FA, Qp⟩ := jE (fnAt m ((a : Int) + N))
    have SR : Hid (∀ W', Keeps w6 W' → Calls Tryd.prog 41 #[.agg #[.slice x0 TL Kj, .slice x1 NF KQ, .slice x2 NT KR, .slice x3 m.Data.length Mj, .slice x4 m.Lines.length Mk, .int .i64 m.Entry], .int .i64 ((a : Int) + N)] W' fun e w' => e = .returned (.int .i64 FA) ∧ Keeps W' w') := jH (fun W' hk' => by rw [Qp]; exact calledBy_any (Pc.out.keep (Hg.out.trans (KE.out.trans hk'))) HG.out.funcs)
    have SA : spB m (ownS (allS m) m.Funcs.length) FI ⟨a, Z, ⟨K, D, A, B, N, Lg⟩⟩ = !decide (0 ≤ FA) := by rw [HS.out, Qp]; unfold fnAt; rw [idxN_any]
    have SB := jH SA
    clear SA Qp
    by_cases PY : FA < 0
    case pos =>
     have WO : decide (FA < 0) = true := decide_eq_true PY
     have KW : Hid (recB m = true) := jH (Ks.out (by rw [SB.out, decide_eq_false jo]; rfl))
     clear PY
     go_upto_region 36 with (go_at_call 41; refine (SR.out _ ku5).mono ?_; rintro e wg ⟨rfl, SC⟩)
     have Hs := jH (KE.out.trans SC)
     obtain ⟨q0, q1, q2⟩ := ((Hy.out.keep Hs.out)).k3
     obtain ⟨z0, z1, z2⟩ := ((Hy.out.keep Hs.out)).t3
     have lq := (Hy.out.keep Hs.out).lt
     go_wp2_with fail
     obtain ⟨wf, Hr⟩ := jE ((((wg).setCell ⟨w.heap.size + 1, 0, none⟩ (.slice none 0 0)).setCell ⟨w.heap.size + 1, 1, none⟩ (.slice none 0 0)).setCell ⟨w.heap.size + 1, 2, none⟩ (.slice none 0 0))
     rw [← Hr]
     obtain ⟨HK, HA⟩ := put3 (Hy.out.keep Hs.out) _ _ _ Hr
     have HH := jH (keepsPut (Hg.out.trans Hs.out) jo HA)
     obtain ⟨e0, e1, e2⟩ := HK.k3
     clear Hr HK HA
     exact bodyPost_ret (v := .tuple #[.agg #[.slice none 0 0, .slice none 0 0, .slice none 0 0], .int .i64 9]) (by simp [results, Tryd.results16, go_sem, e0, e1, e2]) rfl (FlAns.bad (one_bad Mg.out.symm Kv.out KW.out) HH.out)
    case neg =>
    have WO : decide (FA < 0) = false := decide_eq_false PY
    have K2 : Hid (spB m (ownS (allS m) m.Funcs.length) FI ⟨a, Z, ⟨K, D, A, B, N, Lg⟩⟩ = false) := jH (by rw [SB.out, decide_eq_true jo]; rfl)
    clear PY
    go_upto_region 37 with (go_at_call 41; refine (SR.out _ ku5).mono ?_; rintro e wg ⟨rfl, SC⟩)
    obtain ⟨KF, PE, Mv⟩ := hid3 (KC.out.keep SC) (My.out.keep SC) (PA.out.keep SC)
    clear u0 u1 u2 u3 u4 u5 ul
    have u0 := jc wg gq 0 K ((Mv.out).cell rfl)
    have u1 := jc wg gq 1 D ((Mv.out).cell rfl)
    have u2 := jc wg gq 2 A ((Mv.out).cell rfl)
    have u3 := jc wg gq 3 B ((Mv.out).cell rfl)
    have u4 := jc wg gq 4 N ((Mv.out).cell rfl)
    have u5 := jv wg gq 5 (.bool Lg) ((Mv.out).cell rfl)
    have ul := Mv.out.lt
    go_wp2_with fail
    go_roundw
    case rel => exact ⟨a + 1, cq, _, by omega, by go_num, KF, PE, jH (KeysAt.step HG.out KS.out P2.out QK.out QL.out (by intro x; rw [K4.out])), jH (fun j hj => by
     rcases Nat.lt_or_ge j a with z | z
     ·exact P3.out j z
     obtain rfl : j = a := by omega
     rw [Md.out]; exact K2.out)⟩
    case measure => exact jm
   case neg =>
   have HS : Hid (spB m (ownS (allS m) m.Funcs.length) FI ⟨a, Z, ⟨K, D, A, B, N, Lg⟩⟩ = false) := jH (by rw [HR.out, if_neg hj, if_neg K3, if_neg Hu])
   by_cases hst : stN K = true
   case pos =>
    have Pa : Hid (keysP pp.2 = [(a : Int) + Z]) := jH (by rw [Ko.out, if_neg hj, if_pos hst])
    have Hi : EN = 1 := by rw [KJ]; unfold endsN; rw [if_pos hst]
    clear KJ hj Ko HR hst
    as_aux_lemma =>
    have MV : decide ((0 : Int) < EN) = true := by rw [Hi]; decide
    go_upto_region 30 with (go_at_call 40; refine (Kx.out _).mono ?_; rintro e we ⟨rfl, H3⟩; have u0 := jc we gq 0 K ((Hn.out.keep H3).cell rfl); have u1 := jc we gq 1 D ((Hn.out.keep H3).cell rfl); have u2 := jc we gq 2 A ((Hn.out.keep H3).cell rfl); have u3 := jc we gq 3 B ((Hn.out.keep H3).cell rfl); have u4 := jc we gq 4 N ((Hn.out.keep H3).cell rfl); have u5 := jv we gq 5 (.bool Lg) ((Hn.out.keep H3).cell rfl); have ul := (Hn.out.keep H3).lt; have H8 := jH H3)
    obtain ⟨QN, QO, QP, Us⟩ := hid4 (R4.out.keep H8.out) (R5.out.keep H8.out) (Hn.out.keep H8.out) (R7.out.trans H8.out)
    obtain ⟨Y, hY⟩ : ∃ Y : Nat, (a : Int) + Z = (Y : Int) := ⟨((a : Int) + Z).toNat, by omega⟩
    have wY : IntKind.i64.wrap ((a : Int) + Z) = (Y : Int) := jw
    have Qd : Y < N1 := by omega
    have Qe : (Y : Int) < (N1 : Int) := by omega
    have QQ := jH hY
    clear hY MV u0 u1 u2 u3 u4 u5 ul
    obtain ⟨b1, b2, b3, b4, b5⟩ := ownC_cell QO.out (j := Y) (by rw [bgArr_len]; omega)
    obtain ⟨BX, Kf⟩ := jE (nth (bgArr ks N1) Y)
    rw [← Kf] at b1
    have Mi : we.cell? ⟨gB, Y, none⟩ = some (.bool BX) := b1
    have HM := b4 true
    rw [bgArr_put _ jo] at HM
    obtain ⟨w5, Kg⟩ : ∃ w', w' = we.setCell ⟨gB, Y, none⟩ (.bool true) := ⟨_, rfl⟩
    have HF : OwnB 2 cq w5 wa.heap.size (.slice (some ⟨gB, 0, none⟩) N1 N1) (bgArr (ks ++ [(Y : Int)]) N1) := by rw [Kg]; exact HM
    have Kh : Turn (fun z => z = 2) cq we cq w5 := by rw [Kg]; exact b5 (bV true)
    obtain ⟨Kl, HV, H2⟩ := hid3 HF (QN.out.trans Kh) ((BlkC.turn ⟨QP.out, R6.out⟩ Kh jd).1)
    have MW : Hid (Keeps wa w5) := jH ((Mz.out.trans (HV.out.mono (J := (fun z => z ≠ 0)) fun z h => by omega)).below (Nat.le_refl _) (fun _ _ => rfl) (fun q => q rfl))
    have MX := jH Kg
    clear b1 Kf HM HF b4 b5 Kh Kg
    go_upto_region 31 with fail
    rw [← MX.out]
    clear MX Mi b2 b3
    have u0 := jc w5 gq 0 K ((H2.out).cell rfl)
    have u1 := jc w5 gq 1 D ((H2.out).cell rfl)
    have u2 := jc w5 gq 2 A ((H2.out).cell rfl)
    have u3 := jc w5 gq 3 B ((H2.out).cell rfl)
    have u4 := jc w5 gq 4 N ((H2.out).cell rfl)
    have u5 := jv w5 gq 5 (.bool Lg) ((H2.out).cell rfl)
    have ul := H2.out.lt
    clear wY
    have K4 : Hid (keysP pp.2 = [(Y : Int)]) := jH (by rw [Pa.out, QQ.out])
    have Mf : Hid (OwnB 2 cq w5 wa.heap.size (.slice (some ⟨gB, 0, none⟩) N1 N1) (bgArr (ks ++ [(Y : Int)]) N1)) := Kl
    have Mx : (EN == 4) = false := by rw [Hi]; decide
    have P7 : (EN == 3) = false := by rw [Hi]; decide
    clear Hi
    go_upto_region 35 with first | (go_at_call 40; refine (Kx.out _).mono ?_; rintro e we ⟨rfl, H3⟩; have u0 := jc we gq 0 K ((H2.out.keep H3).cell rfl); have u1 := jc we gq 1 D ((H2.out.keep H3).cell rfl); have u2 := jc we gq 2 A ((H2.out.keep H3).cell rfl); have u3 := jc we gq 3 B ((H2.out.keep H3).cell rfl); have u4 := jc we gq 4 N ((H2.out.keep H3).cell rfl); have u5 := jv we gq 5 (.bool Lg) ((H2.out.keep H3).cell rfl); have ul := (H2.out.keep H3).lt; have H8 := jH H3) | (go_at_call 40; refine (Kx.out _).mono ?_; rintro e wf ⟨rfl, Hq⟩; have u0 := jc wf gq 0 K (((H2.out.keep H8.out).keep Hq).cell rfl); have u1 := jc wf gq 1 D (((H2.out.keep H8.out).keep Hq).cell rfl); have u2 := jc wf gq 2 A (((H2.out.keep H8.out).keep Hq).cell rfl); have u3 := jc wf gq 3 B (((H2.out.keep H8.out).keep Hq).cell rfl); have u4 := jc wf gq 4 N (((H2.out.keep H8.out).keep Hq).cell rfl); have u5 := jv wf gq 5 (.bool Lg) (((H2.out.keep H8.out).keep Hq).cell rfl); have ul := ((H2.out.keep H8.out).keep Hq).lt; have HH := jH Hq)
    clear Mx P7
    have Ki := H8.out.trans HH.out
    obtain ⟨KC, My, PA, KE⟩ := hid4 (HV.out.keep Ki) (Mf.out.keep Ki) (H2.out.keep Ki) (MW.out.trans Ki)
    clear Ki
    obtain ⟨w6, MY⟩ := jE wf
    subst MY
    have MZ : (K == 23) = false := by simpa using Hu
    have P0 : (K == 24) = false := by simpa using K3
    have K2 : Hid (spB m (ownS (allS m) m.Funcs.length) FI ⟨a, Z, ⟨K, D, A, B, N, Lg⟩⟩ = false) := HS
    go_wp2_with fail
    go_roundw
    case rel => exact ⟨a + 1, cq, _, by omega, by go_num, KC, My, jH (KeysAt.step HG.out KS.out P2.out QK.out QL.out (by intro x; rw [K4.out])), jH (fun j hj => by
     rcases Nat.lt_or_ge j a with z | z
     ·exact P3.out j z
     obtain rfl : j = a := by omega
     rw [Md.out]; exact K2.out)⟩
    case measure => exact jm
   case neg =>
   have Pa : Hid (keysP pp.2 = []) := jH (by rw [Ko.out, if_neg hj, if_neg hst])
   have Hi : EN = 0 := by rw [KJ]; unfold endsN; rw [if_neg hst, if_neg (fun q => hj (Or.inr q)), if_neg (fun q => hj (Or.inl q))]
   clear KJ hj Ko HR hst
   as_aux_lemma =>
   have MV : decide ((0 : Int) < EN) = false := by rw [Hi]; decide
   go_upto_region 31 with (go_at_call 40; refine (Kx.out _).mono ?_; rintro e we ⟨rfl, H3⟩; have u0 := jc we gq 0 K ((Hn.out.keep H3).cell rfl); have u1 := jc we gq 1 D ((Hn.out.keep H3).cell rfl); have u2 := jc we gq 2 A ((Hn.out.keep H3).cell rfl); have u3 := jc we gq 3 B ((Hn.out.keep H3).cell rfl); have u4 := jc we gq 4 N ((Hn.out.keep H3).cell rfl); have u5 := jv we gq 5 (.bool Lg) ((Hn.out.keep H3).cell rfl); have ul := (Hn.out.keep H3).lt; have H8 := jH H3)
   obtain ⟨HV, Kl, H2, MW⟩ := hid4 (R4.out.keep H8.out) (R5.out.keep H8.out) (Hn.out.keep H8.out) (R7.out.trans H8.out)
   obtain ⟨w5, Kg⟩ := jE we
   subst Kg
   clear MV
   have K4 : Hid (keysP pp.2 = []) := jH Pa.out
   have Mf : Hid (OwnB 2 cq w5 wa.heap.size (.slice (some ⟨gB, 0, none⟩) N1 N1) (bgArr (ks ++ []) N1)) := jH (by rw [List.append_nil]; exact Kl.out)
   have Mx : (EN == 4) = false := by rw [Hi]; decide
   have P7 : (EN == 3) = false := by rw [Hi]; decide
   clear Hi
   go_upto_region 35 with first | (go_at_call 40; refine (Kx.out _).mono ?_; rintro e we ⟨rfl, H3⟩; have u0 := jc we gq 0 K ((H2.out.keep H3).cell rfl); have u1 := jc we gq 1 D ((H2.out.keep H3).cell rfl); have u2 := jc we gq 2 A ((H2.out.keep H3).cell rfl); have u3 := jc we gq 3 B ((H2.out.keep H3).cell rfl); have u4 := jc we gq 4 N ((H2.out.keep H3).cell rfl); have u5 := jv we gq 5 (.bool Lg) ((H2.out.keep H3).cell rfl); have ul := (H2.out.keep H3).lt; have H8 := jH H3) | (go_at_call 40; refine (Kx.out _).mono ?_; rintro e wf ⟨rfl, Hq⟩; have u0 := jc wf gq 0 K (((H2.out.keep H8.out).keep Hq).cell rfl); have u1 := jc wf gq 1 D (((H2.out.keep H8.out).keep Hq).cell rfl); have u2 := jc wf gq 2 A (((H2.out.keep H8.out).keep Hq).cell rfl); have u3 := jc wf gq 3 B (((H2.out.keep H8.out).keep Hq).cell rfl); have u4 := jc wf gq 4 N (((H2.out.keep H8.out).keep Hq).cell rfl); have u5 := jv wf gq 5 (.bool Lg) (((H2.out.keep H8.out).keep Hq).cell rfl); have ul := ((H2.out.keep H8.out).keep Hq).lt; have HH := jH Hq)
   clear Mx P7
   have Ki := H8.out.trans HH.out
   obtain ⟨KC, My, PA, KE⟩ := hid4 (HV.out.keep Ki) (Mf.out.keep Ki) (H2.out.keep Ki) (MW.out.trans Ki)
   clear Ki
   obtain ⟨w6, MY⟩ := jE wf
   subst MY
   have MZ : (K == 23) = false := by simpa using Hu
   have P0 : (K == 24) = false := by simpa using K3
   have K2 : Hid (spB m (ownS (allS m) m.Funcs.length) FI ⟨a, Z, ⟨K, D, A, B, N, Lg⟩⟩ = false) := HS
   go_wp2_with fail
   go_roundw
   case rel => exact ⟨a + 1, cq, _, by omega, by go_num, KC, My, jH (KeysAt.step HG.out KS.out P2.out QK.out QL.out (by intro x; rw [K4.out])), jH (fun j hj => by
    rcases Nat.lt_or_ge j a with z | z
    ·exact P3.out j z
    obtain rfl : j = a := by omega
    rw [Md.out]; exact K2.out)⟩
   case measure => exact jm
  case pos =>
  have WP : (i : Int) < (NF : Int) := by omega
  have QD : i < m.Funcs.length := by rw [← R9.out]; exact hltB
  obtain ⟨_, _, fe, -, -, -, f4⟩ := Uv.out
  injection fe with fe1 fe2 fe3
  subst fe1 fe3
  obtain ⟨fb, R3, PY, fc⟩ := f4 jo
  subst PY
  have HA := (HG.out.func i QD).2.2
  have QE := sumF_mono HG.out (show 0 ≤ i by omega) (Nat.le_of_lt QD)
  have QF : sumF m 0 = 0 := rfl
  have P9 := PJ.out
  obtain ⟨X, hX⟩ : ∃ X : Nat, (nth m.Funcs i).Start = (X : Int) := ⟨(nth m.Funcs i).Start.toNat, by omega⟩
  have HB : X < N1 := by have := HI.out; omega
  have Pz : (X : Int) < (N1 : Int) := by omega
  have d1 : wr.cell? ⟨fb, R3 + i * 3 + 1, none⟩ = some (.int .i64 X) := by rw [← hX]; exact (Hg.out.trans Hd).cell (fc i 1 QD jd)
  have dl := lt_of_cell d1
  obtain ⟨b1, b2, b3, b4, b5⟩ := ownC_cell QW.out (j := X) (by rw [bgArr_len]; exact HB)
  obtain ⟨BX, Kf⟩ := jE (nth (bgArr (m.Tables.flatten ++ (List.range i).map fun i => (nth m.Funcs i).Start) N1) X)
  rw [← Kf] at b1
  have Mi : wr.cell? ⟨gB, X, none⟩ = some (.bool BX) := b1
  have HM := b4 true
  rw [bgArr_put _ HB] at HM
  have Kl : Hid (OwnB 2 c4 (wr.setCell ⟨gB, X, none⟩ (.bool true)) wa.heap.size (.slice (some ⟨gB, 0, none⟩) N1 N1) (bgArr ((m.Tables.flatten ++ (List.range (i + 1)).map fun i => (nth m.Funcs i).Start)) N1)) := jH (by rw [List.range_succ, List.map_append, List.map_singleton, hX, ← List.append_assoc]; exact HM)
  have HV := jH (Pf.out.trans ((b5 (bV true)).mono (J := (fun z => z = 2)) fun z h => h))
  clear HA QE QF P9 hX b1 Hd Kf HM b4 b5 fc f4 fe2
  go_wp2_with fail
  go_roundw
  case rel => exact ⟨i + 1, c4, by omega, by go_num, HV, Kl⟩
  case measure => exact jm
 case pos =>
 have WQ : (k : Int) < (NT : Int) := by omega
 have P8 : k < m.Tables.length := by rw [← Pd.out]; exact hltA
 obtain ⟨_, _, te, -, -, -, t4⟩ := Q4.out
 injection te with te1 te2 te3
 subst te1 te3
 obtain ⟨tb, Pv, S9, tc⟩ := t4 jo
 subst S9
 obtain ⟨sa, Mb, MS, s1, s2, s3, s4⟩ := Q5.out k P8
 obtain ⟨LT, KN⟩ := jE (nth m.Tables k)
 obtain ⟨TN, KV⟩ := jE (LT.length)
 rw [← KN, ← KV] at MS s4
 have Sa : Hid (∀ W', Keeps wa W' → W'.cell? ⟨tb, Pv + k, none⟩ = some (.slice sa TN Mb)) := jH (fun W' hk' => by (have z := (Hg.out.trans hk').cell (tc k 0 P8 jd)); (try dsimp only at z); rw [MS] at z; simpa using z)
 have HQ := HG.out.tab k P8
 rw [← KN, ← KV] at HQ
 have PR : TN ≤ 20 := HQ.1
 obtain ⟨QA, PS, Sb, Sc⟩ := hid4 KN KV HQ s4
 have SD : Hid (OwnB 2 c3 wr wa.heap.size (.slice (some ⟨gB, 0, none⟩) N1 N1) (bgArr ((m.Tables.take k |>.flatten) ++ LT.take 0) N1)) := jH (by rw [List.take_zero, List.append_nil]; exact SG.out)
 clear MS s1 s2 s3 s4 tc t4 te2 KN KV HQ Hd
 go_wp2_with fail
 clear n2 nl
 go_loopw [9] (fun s9 wn => ∃ (j : Nat) (c4 : Nat → Nat), j ≤ TN ∧ s9 = .int .i64 j ∧ Hid (Turn (fun z => z = 2) c2 w2 c4 wn) ∧ Hid (OwnB 2 c4 wn wa.heap.size (.slice (some ⟨gB, 0, none⟩) N1 N1) (bgArr ((m.Tables.take k |>.flatten) ++ LT.take j) N1)) ∧ Hid (∀ q, q < j → (ownS (allS m) m.Funcs.length (nth LT q)).isNone = false)) (fun s9 _ => TN - (intOf s9).toNat)
 case atStart => exact ⟨0, c3, Nat.zero_le _, rfl, Rh, SD, jH (fun j hj => absurd hj (Nat.not_lt_zero _))⟩
 case round =>
 clear Rh SG SD
 obtain ⟨j, c4, hj, rfl, Pf, QW, Sz⟩ := hrel
 have Hd : Keeps wa wr := (Mz.out.trans (Pf.out.mono (J := (fun z => z ≠ 0)) fun z h => by omega)).below (Nat.le_refl _) (fun _ _ => rfl) (fun q => q rfl)
 have n2 := (HD.out.keep Hd).cell (j := 2) rfl
 have nl := (HD.out.keep Hd).lt
 have y0 := Sa.out _ Hd
 have yl := lt_of_cell y0
 by_cases hlt4 : j < TN
 case neg =>
  have tl4 : decide ((j : Int) < (TN : Int)) = false := decide_eq_false jo
  have Vz : OwnB 2 c4 wr wa.heap.size (.slice (some ⟨gB, 0, none⟩) N1 N1) (bgArr (m.Tables.take (k + 1) |>.flatten) N1) := by have z := QW.out; (rw [show j = LT.length by rw [← PS.out]; omega, List.take_length] at z); rw [take_succ_nth _ _ P8, List.flatten_append, ← QA.out, List.flatten_singleton]; exact z
  have SE : tblB m (ownS (allS m) m.Funcs.length) k = false := by unfold tblB; rw [← QA.out, ← PS.out]; exact anyN_no (fun q hq => Sz.out q jo)
  obtain ⟨Sv, Sw⟩ := hid2 Vz SE
  clear Vz SE Hd
  go_wp2_with fail
  go_roundw
  case rel => exact ⟨k + 1, c4, by omega, by go_num, Pf, Sv, jH (fun q hq => by
   rcases Nat.lt_or_ge q k with z | z
   ·exact T5.out q z
   obtain rfl : q = k := by omega
   exact Sw.out)⟩
  case measure => exact jm
 case pos =>
 have WR : (j : Int) < (TN : Int) := by omega
 obtain ⟨ab, PW, Sm, KB⟩ := Sc.out jo
 subst Sm
 obtain ⟨x, hx⟩ := jE (nth LT j)
 have Py := Sb.out.2 j hlt4
 rw [← hx] at Py
 have P9 := PJ.out
 obtain ⟨X, hX⟩ : ∃ X : Nat, x = (X : Int) := ⟨x.toNat, by omega⟩
 have y1 : wr.cell? ⟨ab, PW + j, none⟩ = some (.int .i64 X) := by (have z := (Hg.out.trans Hd).cell (KB j 0 hlt4 jd)); (try dsimp only at z); rw [← hx, hX] at z; simpa using z
 have HB : X < N1 := by have := HI.out; omega
 have Pz : (X : Int) < (N1 : Int) := by omega
 obtain ⟨o1, -, o3, -, -⟩ := ownC_cell (QV.out.turn Pf.out jd) (j := X) (by rw [ownArr_len]; exact HB)
 rw [ownArr_at _ HB] at o1
 obtain ⟨OX, KP⟩ := jE ((ownS (allS m) m.Funcs.length (X : Int)).getD (-1))
 rw [← KP] at o1
 have KX : wr.cell? ⟨gO, X, none⟩ = some (.int .i64 OX) := o1
 have QR : Hid (nth LT j = (X : Int)) := jH (by rw [← hx, hX])
 have QX := jH Hd
 cases hom : ownS (allS m) m.Funcs.length (X : Int) with
 | none =>
  have PC : decide (OX < 0) = true := by rw [KP, hom]; decide
  have KW : Hid (recB m = true) := jH (recB_t P8 (by unfold tblB; (refine anyN_yes (k := j) (by rw [← QA.out, ← PS.out]; exact hlt4) ?_); rw [← QA.out, QR.out, hom]; rfl))
  obtain ⟨q0, q1, q2⟩ := ((Hy.out.keep Hd)).k3
  obtain ⟨z0, z1, z2⟩ := ((Hy.out.keep Hd)).t3
  have lq := (Hy.out.keep Hd).lt
  clear KB Py P9 hx hX hom KP o1 Hd
  go_wp2_with fail
  obtain ⟨wf, Hr⟩ := jE ((((wr).setCell ⟨w.heap.size + 1, 0, none⟩ (.slice none 0 0)).setCell ⟨w.heap.size + 1, 1, none⟩ (.slice none 0 0)).setCell ⟨w.heap.size + 1, 2, none⟩ (.slice none 0 0))
  rw [← Hr]
  obtain ⟨HK, HA⟩ := put3 (Hy.out.keep QX.out) _ _ _ Hr
  have HH := jH (keepsPut (Hg.out.trans QX.out) jo HA)
  obtain ⟨e0, e1, e2⟩ := HK.k3
  clear Hr HK HA
  exact bodyPost_ret (v := .tuple #[.agg #[.slice none 0 0, .slice none 0 0, .slice none 0 0], .int .i64 9]) (by simp [results, Tryd.results16, go_sem, e0, e1, e2]) rfl (FlAns.bad (one_bad Mg.out.symm Kv.out KW.out) HH.out)
 | some g =>
  have WS := ownR_ge m (X : Int)
  have RS : ¬ OX < 0 := by obtain ⟨p, -, -, e2⟩ := ownS_some hom; rw [KP, hom]; (show ¬ g < 0); omega
  have PC : decide (OX < 0) = false := decide_eq_false RS
  have SU : Hid ((ownS (allS m) m.Funcs.length (nth LT j)).isNone = false) := jH (by rw [QR.out, hom]; rfl)
  obtain ⟨b1, b2, b3, b4, b5⟩ := ownC_cell QW.out (j := X) (by rw [bgArr_len]; exact HB)
  obtain ⟨BX, Kf⟩ := jE (nth (bgArr ((m.Tables.take k |>.flatten) ++ LT.take j) N1) X)
  rw [← Kf] at b1
  have Mi : wr.cell? ⟨gB, X, none⟩ = some (.bool BX) := b1
  have HM := b4 true
  rw [bgArr_put _ HB] at HM
  obtain ⟨Kl, HV⟩ := hid2 HM (Pf.out.trans ((b5 (bV true)).mono (J := (fun z => z = 2)) fun z h => h))
  clear KB Py P9 hx hX hom KP o1 b1 Hd WS RS Kf HM b4 b5
  go_wp2_with fail
  go_roundw
  case rel => exact ⟨j + 1, c4, by omega, by go_num, HV, jH (by rw [take_succ_nth _ _ (by rw [← PS.out]; exact hlt4), QR.out, ← List.append_assoc]; exact Kl.out), jH (fun q hq => by
   rcases Nat.lt_or_ge q j with z | z
   ·exact Sz.out q z
   obtain rfl : q = j := by omega
   exact SU.out)⟩
  case measure => exact jm
end Go.Proofs.YtgdamggkaklhjaaDoor
end
