/-
Any block of the finder's row is written: a cell of it, or o
-/
import Derived.Test.YtgdamggkaklhjaaDoorFlRec5
set_option linter.all false
namespace Go.Proofs.YtgdamggkaklhjaaDoor
open Go.RowKit BH
set_option maxHeartbeats 10000000
set_option maxRecDepth 100000
section
variable {B : Nat} {c c' : Nat → Nat} {w w' : World} {vB : Value} {rs : List Bv} {bs : List Bk} {I : Nat → Prop}
theorem BlkS.cellI (h : BlkS B c w vB rs bs) {i : Nat} (hi : i < bs.length) {g n cap : Nat} (hv : vB = .slice (some ⟨g, 0, none⟩) n cap) : (∀ q u, q < 14 → (cbv (nth rs i))[q]? = some u → w.cell? ⟨g, i * 14 + q, none⟩ = some u) ∧ (∀ j, w.frozen? ⟨g, j, none⟩ = false) ∧ g < w.heap.size ∧ B ≤ g ∧ c g = 10 ∧ n = bs.length := by
 obtain ⟨g', H0, e, hB, -, -, H1, hc, hf, -⟩ := own_setc (f := cbv) (k := 14) cbv_len h.row.1 (i := i) (by rw [h.len]; exact hi) (c := 0) jd
 rw [hv] at e
 injection e with e1 e2 e3
 injection e1 with e4
 injection e4 with e5
 subst e5
 exact ⟨fun q u hq hu => hc i q u (by rw [h.len]; exact hi) hq hu, hf, H1, hB, h.row.2 g (by rw [hv]; rfl), by rw [e2, h.len]⟩
theorem BlkS.putI (h : BlkS B c w vB rs bs) {i : Nat} (hi : i < bs.length) {g n cap : Nat} (hv : vB = .slice (some ⟨g, 0, none⟩) n cap) (q : Nat) (hq : q < 14) (u : Value) (r' : Bv) (b' : Bk) (hr : cbv r' = (cbv (nth rs i)).set q u) (hs : Scal r' b')
  (hcv : r'.cv = (nth rs i).cv) (hav : r'.av = (nth rs i).av) (hlv : r'.lv = (nth rs i).lv) (hbc : b'.Code = (nth bs i).Code) (hba : b'.At = (nth bs i).At) (hbl : b'.Lines = (nth bs i).Lines) :
  BlkS B c (w.setCell ⟨g, i * 14 + q, none⟩ u) vB (rs.set i r') (bs.set i b') ∧ Turn (fun i => i = 10) c w c (w.setCell ⟨g, i * 14 + q, none⟩ u) := by
 have hl := h.len
 obtain ⟨g', H0, e, hB, -, -, hg, hc, hf, H1⟩ := own_setc (f := cbv) (k := 14) cbv_len h.row.1 (i := i) jo (c := q) hq
 have H2 : g' = g := by rw [hv] at e; injection e with e1 e2 e3; injection e1 with e4; injection e4 with e5; exact e5.symm
 subst H2
 have H3 : c g' = 10 := h.row.2 g' (by rw [e]; rfl)
 have ht : Turn (fun i => i = 10) c w c (w.setCell ⟨g', i * 14 + q, none⟩ u) := (Turn.set c w g' _ u).mono fun i hi => by rw [hi, H3]
 refine ⟨⟨⟨H1 r' u hr, fun b hb2 => h.row.2 b hb2⟩, by simp [hl], fun j hj => ?_, fun j hj => ?_⟩, ht⟩
 ·rw [List.length_set] at hj
  rw [nth_setw _ _ _ _ hj, nth_setw _ _ _ _ jo]
  split
  ·exact hs
  exact h.sc j hj
 rw [List.length_set] at hj
 have hR := (h.rows j hj).turn ht jo jo jo
 rw [nth_setw _ _ _ _ hj, nth_setw _ _ _ _ jo]
 split
 ·rename_i z
  subst z
  unfold RowsB
  rw [hcv, hav, hlv, hbc, hba, hbl]
  exact hR
 exact hR
theorem BlkS.pushLnI (h : BlkS B c w vB rs bs) {i : Nat} (hi : i < bs.length) {g n cap : Nat} (hv : vB = .slice (some ⟨g, 0, none⟩) n cap) {wa w7 : World} {s7 : Sle} {x : Int} (ka : Keeps w wa) (o7 : Own w7 B 3 1 ci s7.v ((nth bs i).Lines ++ [x])) (g7 : wa.grownBy w7 (nth rs i).lv.v.ownBlock) (f7 : ∀ b, s7.v.ownBlock = some b → (nth rs i).lv.v.ownBlock = some b ∨ wa.heap.size ≤ b) :
  ∃ c', Turn (fun j => j = 10 ∨ j = 18 + 3 * i) c w c' (w7.setCell ⟨g, i * 14 + 13, none⟩ (.slice s7.a s7.n s7.c)) ∧ BlkS B c' (w7.setCell ⟨g, i * 14 + 13, none⟩ (.slice s7.a s7.n s7.c)) vB (rs.set i { nth rs i with lv := s7 }) (bs.set i { nth bs i with Lines := (nth bs i).Lines ++ [x] }) := by
 have hl := h.len
 obtain ⟨c', ht, ho⟩ := ((h.rows i hi).2.2).push ka o7 g7 f7
 have H0 := h.row.turn ht jo
 obtain ⟨g', H3, e, hB, -, -, hg, hc, hf, H4⟩ := own_setc (f := cbv) (k := 14) cbv_len H0.1 (i := i) jo (c := 13) jd
 have H5 : g' = g := by rw [hv] at e; injection e with e1 e2 e3; injection e1 with e4; injection e4 with e5; exact e5.symm
 subst H5
 have H6 : c' g' = 10 := H0.2 g' (by rw [e]; rfl)
 have H2 : Turn (fun i => i = 10) c' w7 c' (w7.setCell ⟨g', i * 14 + 13, none⟩ (.slice s7.a s7.n s7.c)) := (Turn.set c' w7 g' _ _).mono fun i hi => by rw [hi, H6]
 have H1 := (ht.mono (J := fun j => j = 10 ∨ j = 18 + 3 * i) fun j hj => Or.inr hj).trans (H2.mono fun j hj => Or.inl hj)
 refine ⟨c', H1, ⟨H4 _ _ rfl, fun b hb2 => H0.2 b hb2⟩, by simp [hl], fun j hj => ?_, fun j hj => ?_⟩
 ·rw [List.length_set] at hj
  rw [nth_setw _ _ _ _ hj, nth_setw _ _ _ _ jo]
  split
  ·exact h.sc _ hi
  exact h.sc j hj
 rw [List.length_set] at hj
 rw [nth_setw _ _ _ _ hj, nth_setw _ _ _ _ jo]
 split
 ·rename_i z
  subst z
  have hR := h.rows i hj
  exact ⟨hR.1.turn H1 jo, hR.2.1.turn H1 jo, ho.turn H2 jo⟩
 rename_i z
 exact (h.rows j hj).turn H1 jo jo jo
end
theorem BlkS.blocks {B : Nat} {c : Nat → Nat} {w : World} {vB : Value} {rs : List Bv} {bs : List Bk} (h : BlkS B c w vB rs bs) : Blocks w vB bs := by
 refine ⟨fun i => (nth rs i).cv.v, fun i => (nth rs i).av.v, fun i => (nth rs i).lv.v, ?_, fun i hi => ?_⟩
 ·have ha := h.row.1.arr cbv_len
  rw [h.len] at ha
  refine ha.congr fun i j hi hj => ?_
  obtain ⟨s1, s2, s3, s4, s5, s6⟩ := h.sc i hi
  match j, hj with
  | 0, _ => show Value.int .i64 (nth rs i).Func = .int .i64 (nth bs i).Func; rw [s1]
  | 1, _ => show Value.int .i64 (nth rs i).Start = .int .i64 (nth bs i).Start; rw [s2]
  | 2, _ => rfl
  | 3, _ => rfl
  | 4, _ => show Value.int .i64 (nth rs i).Last.K = .int .i64 (nth bs i).Last.K; rw [s3]
  | 5, _ => show Value.int .i64 (nth rs i).Last.D = .int .i64 (nth bs i).Last.D; rw [s3]
  | 6, _ => show Value.int .i64 (nth rs i).Last.A = .int .i64 (nth bs i).Last.A; rw [s3]
  | 7, _ => show Value.int .i64 (nth rs i).Last.B = .int .i64 (nth bs i).Last.B; rw [s3]
  | 8, _ => show Value.int .i64 (nth rs i).Last.N = .int .i64 (nth bs i).Last.N; rw [s3]
  | 9, _ => show Value.bool (nth rs i).Last.Lg = .bool (nth bs i).Last.Lg; rw [s3]
  | 10, _ => show Value.int .i64 (nth rs i).Ends = .int .i64 (nth bs i).Ends; rw [s4]
  | 11, _ => show Value.int .i64 (nth rs i).To = .int .i64 (nth bs i).To; rw [s5]
  | 12, _ => show Value.int .i64 (nth rs i).Else = .int .i64 (nth bs i).Else; rw [s6]
  | 13, _ => rfl
 obtain ⟨r1, r2, r3⟩ := h.rows i hi
 refine ⟨?_, r2.1.ints, r3.1.ints⟩
 refine (r1.1.arr cic_len).congr fun a b ha hb => ?_
 match b, hb with
 | 0, _ => rfl
 | 1, _ => rfl
 | 2, _ => rfl
 | 3, _ => rfl
 | 4, _ => rfl
 | 5, _ => rfl
section
variable {B : Nat} {c c' : Nat → Nat} {w w' : World} {vB : Value} {rs : List Bv} {bs : List Bk} {I : Nat → Prop}
theorem BlkS.selfK (h : BlkS B c w vB rs bs) {k : Nat} (hk : k < bs.length) : BlkS B c w vB (rs.set k (nth rs k)) (bs.set k (nth bs k)) := by
 have e1 : rs.set k (nth rs k) = rs := by rw [nth_eq _ _ (by rw [h.len]; omega), List.set_getElem_self]
 have e2 : bs.set k (nth bs k) = bs := by rw [nth_eq _ _ hk, List.set_getElem_self]
 rw [e1, e2]
 exact h
theorem BlkS.atK {k : Nat} {r : Bv} {b : Bk} (h : BlkS B c w vB (rs.set k r) (bs.set k b)) (hk : k < bs.length) : (bs.set k b).length = bs.length ∧ nth (rs.set k r) k = r ∧ nth (bs.set k b) k = b := by
 have hl := h.len
 rw [List.length_set, List.length_set] at hl
 exact ⟨List.length_set .., by rw [nth_setw _ _ _ _ jo, if_pos rfl], by rw [nth_setw _ _ _ _ jo, if_pos rfl]⟩
theorem BlkS.cellK {k g n cap : Nat} {r : Bv} {b : Bk} (h : BlkS B c w vB (rs.set k r) (bs.set k b)) (hk : k < bs.length) (hv : vB = .slice (some ⟨g, 0, none⟩) n cap) : (∀ q u, q < 14 → (cbv r)[q]? = some u → w.cell? ⟨g, k * 14 + q, none⟩ = some u) ∧ (∀ j, w.frozen? ⟨g, j, none⟩ = false) ∧ g < w.heap.size ∧ B ≤ g ∧ c g = 10 ∧ RowsB B c w k r b ∧ Scal r b := by
 obtain ⟨e1, e2, e3⟩ := h.atK hk
 obtain ⟨hc, hf, H0, hB, H1, -⟩ := h.cellI (i := k) (by rw [e1]; exact hk) hv
 rw [e2] at hc
 have h1 := h.rows k (by rw [e1]; exact hk)
 have h2 := h.sc k (by rw [e1]; exact hk)
 rw [e2, e3] at h1 h2
 exact ⟨hc, hf, H0, hB, H1, h1, h2⟩
theorem BlkS.putK {k g n cap : Nat} {r : Bv} {b : Bk} (h : BlkS B c w vB (rs.set k r) (bs.set k b)) (hk : k < bs.length) (hv : vB = .slice (some ⟨g, 0, none⟩) n cap) (q : Nat) (hq : q < 14) (u : Value) (r' : Bv) (b' : Bk) (hr : cbv r' = (cbv r).set q u) (hs : Scal r' b')
  (hcv : r'.cv = r.cv) (hav : r'.av = r.av) (hlv : r'.lv = r.lv) (hbc : b'.Code = b.Code) (hba : b'.At = b.At) (hbl : b'.Lines = b.Lines) :
  BlkS B c (w.setCell ⟨g, k * 14 + q, none⟩ u) vB (rs.set k r') (bs.set k b') ∧ Turn (fun i => i = 10) c w c (w.setCell ⟨g, k * 14 + q, none⟩ u) := by
 obtain ⟨e1, e2, e3⟩ := h.atK hk
 have hp := h.putI (i := k) (by rw [e1]; exact hk) hv q hq u r' b' (by rw [e2]; exact hr) hs (by rw [e2]; exact hcv) (by rw [e2]; exact hav) (by rw [e2]; exact hlv) (by rw [e3]; exact hbc) (by rw [e3]; exact hba) (by rw [e3]; exact hbl)
 rw [List.set_set, List.set_set] at hp
 exact hp
theorem BlkS.pushLnK {k g n cap : Nat} {r : Bv} {b : Bk} (h : BlkS B c w vB (rs.set k r) (bs.set k b)) (hk : k < bs.length) (hv : vB = .slice (some ⟨g, 0, none⟩) n cap) {wa w7 : World} {s7 : Sle} {x : Int} (ka : Keeps w wa) (o7 : Own w7 B 3 1 ci s7.v (b.Lines ++ [x])) (g7 : wa.grownBy w7 r.lv.v.ownBlock) (f7 : ∀ b, s7.v.ownBlock = some b → r.lv.v.ownBlock = some b ∨ wa.heap.size ≤ b) :
  ∃ c', Turn (fun i => i = 10 ∨ i = 18 + 3 * k) c w c' (w7.setCell ⟨g, k * 14 + 13, none⟩ (.slice s7.a s7.n s7.c)) ∧ BlkS B c' (w7.setCell ⟨g, k * 14 + 13, none⟩ (.slice s7.a s7.n s7.c)) vB (rs.set k { r with lv := s7 }) (bs.set k { b with Lines := b.Lines ++ [x] }) := by
 obtain ⟨e1, e2, e3⟩ := h.atK hk
 have hq := h.pushLnI (i := k) (x := x) (by rw [e1]; exact hk) hv ka (by rw [e3]; exact o7) (by rw [e2]; exact g7) (by rw [e2]; exact f7)
 obtain ⟨c', h1, h2⟩ := hq
 rw [e2, e3, List.set_set, List.set_set] at h2
 exact ⟨c', h1, h2⟩
theorem BlkS.turnF (h : BlkS B c w vB rs bs) (t : Turn I c w c' w') (h1 : ¬ I 10) (h2 : ∀ i, 16 ≤ i → i < 16 + 3 * bs.length → ¬ I i) : BlkS B c' w' vB rs bs :=
 ⟨h.row.turn t h1, h.len, h.sc, fun i hi => (h.rows i hi).turn t (h2 _ jo jo) (h2 _ jo jo) (h2 _ jo jo)⟩
end
def jn {α : Type} (g : α → α) (l : List α) (k : Nat) : List α := (l.take k).map g ++ l.drop k
theorem jn_len {α : Type} (g : α → α) (l : List α) {k : Nat} (h : k ≤ l.length) : (jn g l k).length = l.length := by
 unfold jn; rw [List.length_append, List.length_map, List.length_take, List.length_drop]; omega
theorem jn_zero {α : Type} (g : α → α) (l : List α) : jn g l 0 = l := by simp [jn]
theorem jn_all {α : Type} (g : α → α) (l : List α) : jn g l l.length = l.map g := by simp [jn]
theorem jn_at {α : Type} [Inhabited α] (g : α → α) (l : List α) {k : Nat} (h : k < l.length) : nth (jn g l k) k = nth l k := by
 have hl : ((l.take k).map g).length = k := by rw [List.length_map, List.length_take]; omega
 unfold jn
 rw [nth_eq _ _ (by rw [List.length_append, hl, List.length_drop]; omega), List.getElem_append_right jo]
 simp only [hl, Nat.sub_self, List.getElem_drop]
 rw [nth_eq _ _ h]
 congr 1
theorem jn_set {α : Type} [Inhabited α] (g : α → α) (l : List α) {k : Nat} (h : k < l.length) : (jn g l k).set k (g (nth l k)) = jn g l (k + 1) := by
 have hl : ((l.take k).map g).length = k := by rw [List.length_map, List.length_take]; omega
 unfold jn
 rw [List.set_append_right _ _ jo, hl, Nat.sub_self, drop_nth l k h, List.set_cons_zero, take_succ_nth l k h, List.map_append]
 simp
structure TabS (B K : Nat) (c : Nat → Nat) (w : World) (v : Value) (vs : List Sle) (ls : List (List Int)) : Prop where
 row : OwnC 11 c w B 25 1 sle v vs
 len : vs.length = ls.length
 rows : ∀ i, i < ls.length → OwnC (K + i) c w B 3 1 ci (nth vs i).v (nth ls i)
section
variable {B K : Nat} {c c' : Nat → Nat} {w w' : World} {v : Value} {vs : List Sle} {ls : List (List Int)} {I : Nat → Prop}
theorem TabS.nil (B K : Nat) (c : Nat → Nat) (w : World) : TabS B K c w (.slice none 0 0) [] [] := ⟨OwnC.nil _ _ _ _ _ _ _, rfl, (by intro i h; cases h)⟩
theorem TabS.turn (h : TabS B K c w v vs ls) (t : Turn I c w c' w') (h1 : ¬ I 11) (h2 : ∀ i, i < ls.length → ¬ I (K + i)) : TabS B K c' w' v vs ls := ⟨h.row.turn t h1, h.len, fun i hi => (h.rows i hi).turn t (h2 i hi)⟩
theorem TabS.keep (h : TabS B K c w v vs ls) (k : Keeps w w') : TabS B K c w' v vs ls := h.turn (k.turn (fun _ => False) c) (fun q => q) (fun _ _ q => q)
theorem TabS.push (h : TabS B K c w v vs ls) (hK : 11 < K) {l : List Int} {s : Sle} (hl : OwnC (K + ls.length) c w B 3 1 ci s.v l) {wa w7 : World} {v7 : Value} (ka : Keeps w wa) (o7 : Own w7 B 25 1 sle v7 (vs ++ [s])) (g7 : wa.grownBy w7 v.ownBlock) (f7 : ∀ b, v7.ownBlock = some b → v.ownBlock = some b ∨ wa.heap.size ≤ b) :
  ∃ c', Turn (fun i => i = 11) c w c' w7 ∧ TabS B K c' w7 v7 (vs ++ [s]) (ls ++ [l]) := by
 obtain ⟨c', ht, ho⟩ := h.row.push ka o7 g7 f7
 refine ⟨c', ht, ho, by simp [h.len], fun i hi => ?_⟩
 rw [List.length_append, List.length_singleton] at hi
 rcases Nat.lt_or_ge i ls.length with q | q
 ·rw [nth_app_lt _ _ (by rw [h.len]; exact q), nth_app_lt _ _ q]; exact (h.rows i q).turn ht jo
 obtain rfl : i = ls.length := by omega
 rw [nth_app_eq _ _ h.len.symm, nth_app_eq _ _ rfl]
 exact hl.turn ht jo
theorem TabS.tabs (h : TabS B K c w v vs ls) : Tabs w v ls := by
 refine ⟨fun i => (nth vs i).v, ?_, fun i hi => (h.rows i hi).1.ints⟩
 have ha := h.row.1.arr sle_len
 rw [h.len] at ha
 exact ha.congr fun i j _ hj => by (obtain rfl : j = 0 := by omega); rfl
end
end Go.Proofs.YtgdamggkaklhjaaDoor
