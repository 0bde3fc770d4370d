/-
The blocks of the finder as they are cut: the row of blocks,
-/
import Derived.Test.YtgdamggkaklhjaaDoorEmP
set_option linter.all false
namespace Go.Proofs.YtgdamggkaklhjaaDoor
open Go.RowKit BH
set_option maxHeartbeats 10000000
set_option maxRecDepth 100000
def Cells : List (Nat × Nat × Value) → World → Prop
 | [], _ => True
 | x :: r, w => w.cell? ⟨x.1, x.2.1, none⟩ = some x.2.2 ∧ Cells r w
section
variable {P : Program} {md : Region.Mode} {ops : Array Oper} {Q : Exit → Act → World → Prop} {S : World → Prop}
theorem jp (i : Nat) {oi : Oper} {v : Value} {fuel : Nat} {listed listed' : Array Bool} {a a' : Act} {w : World} (hS : S w)
  (h : wpAnyH P md ops Q S fuel listed' a' w)
  (hi : ops[i]? = some oi := by (simp only [jT]; try rfl))
  (hs : Region.noSelect ops = true := by kernel_rfl) (hf : Region.free md ops listed i = true := by kernel_rfl) (hr : (Region.ready md ops listed).contains i = true := by kernel_rfl)
  (hQ : ∀ c a w, Q (.panic c) (a.put oi.dst v) w → Q (.panic c) a w := by exact fun _ _ _ z => z)
  (hw : Region.wanted oi (yielded ops a.tmps) = true := by rfl)
  (hy : ∀ w, S w → (execOp a.eval oi).run P w = .ok (.value v) w := by (intro w hSw; simp only [Cells] at hSw; go_simp; try with_reducible rfl))
  (hl : listed.setIfInBounds i true = listed' := by first | (simp only [jS]; rfl) | rfl)
  (ha : a.put oi.dst v = a' := by first | (simp only [Act.put, jS]; rfl) | rfl) :
  wpAnyH P md ops Q S (fuel + 1) listed a w := by
 subst hl ha
 exact wpAnyH_take hi hs hf hr hQ (Or.inl ⟨hw, hy⟩) hS h
theorem readyC (i : Nat) {oi : Oper} {fuel : Nat} {listed : Array Bool} {a : Act} {w : World}
  (h : ∀ K' : Act → World → Prop, Shut (∀ a w, S w → (S w → wpAnyH P md ops Q S fuel (listed.setIfInBounds i true) a w) → K' a w) → if Region.wanted oi (yielded ops a.tmps) = true then Oper.wp P oi a w K' Q else K' (a.put oi.dst undef) w)
  (hi : ops[i]? = some oi := by (simp only [jT]; try rfl))
  (hr : Region.ready md ops listed = [i] := by kernel_rfl) : wpAnyH P md ops Q S (fuel + 1) listed a w :=
 wpAnyH_ready hr (by simp) (AllReadyH.cons hi h AllReadyH.nil)
end
theorem Cells.keep : ∀ {l : List (Nat × Nat × Value)} {w w' : World}, Cells l w → Keeps w w' → Cells l w'
 | [], _, _, _, _ => trivial
 | _ :: _, _, _, h, k => ⟨k.cell h.1, Cells.keep h.2 k⟩
theorem Cells.set : ∀ {l : List (Nat × Nat × Value)} {w : World} {b o : Nat} {u : Value}, Cells l w → (∀ x ∈ l, ¬ b = x.1) → Cells l (w.setCell ⟨b, o, none⟩ u)
 | [], _, _, _, _, _, _ => trivial
 | x :: r, w, b, o, u, h, hn => by (refine ⟨?_, Cells.set h.2 fun y hy => hn y (List.mem_cons_of_mem _ hy)⟩); rw [← h.1]; exact (grown_setCell w b o u).cell (a := ⟨x.1, x.2.1, none⟩) h.1 (fun e => hn x (List.mem_cons_self ..) (Option.some.inj e).symm) |>.trans h.1.symm
structure Bv where
 Func : Int
 Start : Int
 cv : Sle
 av : Sle
 Last : Ic
 Ends : Int
 To : Int
 Else : Int
 lv : Sle
 deriving Inhabited
def cbv (r : Bv) : List Value := [.int .i64 r.Func, .int .i64 r.Start, .slice r.cv.a r.cv.n r.cv.c, .slice r.av.a r.av.n r.av.c, .int .i64 r.Last.K, .int .i64 r.Last.D, .int .i64 r.Last.A, .int .i64 r.Last.B, .int .i64 r.Last.N, .bool r.Last.Lg, .int .i64 r.Ends, .int .i64 r.To, .int .i64 r.Else, .slice r.lv.a r.lv.n r.lv.c]
theorem cbv_len (r : Bv) : (cbv r).length = 14 := rfl
theorem cbv_one (r : Bv) : ∀ u ∈ cbv r, u.oneCell' = true := by
 intro u hu
 simp [cbv] at hu
 rcases hu with rfl | rfl | rfl | rfl | rfl | rfl | rfl | rfl | rfl | rfl | rfl | rfl | rfl | rfl <;> rfl
def cic (i : Ic) : List Value := [.int .i64 i.K, .int .i64 i.D, .int .i64 i.A, .int .i64 i.B, .int .i64 i.N, .bool i.Lg]
theorem cic_len (i : Ic) : (cic i).length = 6 := rfl
theorem cic_one (i : Ic) : ∀ u ∈ cic i, u.oneCell' = true := by intro u hu; simp [cic] at hu; rcases hu with rfl | rfl | rfl | rfl | rfl | rfl <;> rfl
def Scal (r : Bv) (b : Bk) : Prop := r.Func = b.Func ∧ r.Start = b.Start ∧ r.Last = b.Last ∧ r.Ends = b.Ends ∧ r.To = b.To ∧ r.Else = b.Else
def RowsB (B : Nat) (c : Nat → Nat) (w : World) (i : Nat) (r : Bv) (b : Bk) : Prop :=
 OwnC (16 + 3 * i) c w B 64 6 cic r.cv.v b.Code ∧ OwnC (17 + 3 * i) c w B 3 1 ci r.av.v b.At ∧ OwnC (18 + 3 * i) c w B 3 1 ci r.lv.v b.Lines
structure BlkS (B : Nat) (c : Nat → Nat) (w : World) (vB : Value) (rs : List Bv) (bs : List Bk) : Prop where
 row : OwnC 10 c w B 92 14 cbv vB rs
 len : rs.length = bs.length
 sc : ∀ i, i < bs.length → Scal (nth rs i) (nth bs i)
 rows : ∀ i, i < bs.length → RowsB B c w i (nth rs i) (nth bs i)
section
variable {B : Nat} {c c' : Nat → Nat} {w w' : World} {vB : Value} {rs : List Bv} {bs : List Bk} {I : Nat → Prop}
theorem BlkS.nil (B : Nat) (c : Nat → Nat) (w : World) : BlkS B c w (.slice none 0 0) [] [] := ⟨OwnC.nil _ _ _ _ _ _ _, rfl, (by intro i h; cases h), (by intro i h; cases h)⟩
theorem RowsB.turn {i : Nat} {r : Bv} {b : Bk} (h : RowsB B c w i r b) (t : Turn I c w c' w') (h1 : ¬ I (16 + 3 * i)) (h2 : ¬ I (17 + 3 * i)) (h3 : ¬ I (18 + 3 * i)) : RowsB B c' w' i r b := ⟨h.1.turn t h1, h.2.1.turn t h2, h.2.2.turn t h3⟩
theorem BlkS.turn (h : BlkS B c w vB rs bs) (t : Turn I c w c' w') (h1 : ¬ I 10) (h2 : ∀ i, 16 ≤ i → ¬ I i) : BlkS B c' w' vB rs bs :=
 ⟨h.row.turn t h1, h.len, h.sc, fun i hi => (h.rows i hi).turn t (h2 _ jo) (h2 _ jo) (h2 _ jo)⟩
theorem BlkS.keep (h : BlkS B c w vB rs bs) (k : Keeps w w') : BlkS B c w' vB rs bs := h.turn (k.turn (fun _ => False) c) (fun q => q) (fun _ _ q => q)
theorem BlkS.last (h : BlkS B c w vB rs bs) (hb : 0 < bs.length) : ∃ g cap, vB = .slice (some ⟨g, 0, none⟩) bs.length cap ∧ B ≤ g ∧ c g = 10 ∧ g < w.heap.size ∧
  (∀ q u, q < 14 → (cbv (nth rs (bs.length - 1)))[q]? = some u → w.cell? ⟨g, (bs.length - 1) * 14 + q, none⟩ = some u) ∧ (∀ j, w.frozen? ⟨g, j, none⟩ = false) := by
 obtain ⟨g, cap, e, hB, -, -, hg, hc, hf, -⟩ := own_setc (f := cbv) (k := 14) cbv_len h.row.1 (i := rs.length - 1) (by rw [h.len]; omega) (c := 0) jd
 refine ⟨g, cap, by rw [e, h.len], hB, h.row.2 g (by rw [e]; rfl), hg, fun q u hq hu => ?_, hf⟩
 have := hc (rs.length - 1) q u (by rw [h.len]; omega) hq (by rw [h.len]; exact hu)
 rw [h.len] at this
 exact this
theorem nth_set_last {α : Type} [Inhabited α] (l : List α) (x : α) {i : Nat} (hi : i < l.length) : nth (l.set (l.length - 1) x) i = if i = l.length - 1 then x else nth l i := by
 rw [nth_setw _ _ _ _ hi]
 by_cases h : i = l.length - 1
 ·rw [if_pos h.symm, if_pos h]
 rw [if_neg (fun q => h q.symm), if_neg h]
theorem BlkS.put (h : BlkS B c w vB rs bs) (hb : 0 < bs.length) {g cap : Nat} (hv : vB = .slice (some ⟨g, 0, none⟩) bs.length cap) (q : Nat) (hq : q < 14) (u : Value) (r' : Bv) (b' : Bk) (hr : cbv r' = (cbv (nth rs (bs.length - 1))).set q u) (hs : Scal r' b')
  (hcv : r'.cv = (nth rs (bs.length - 1)).cv) (hav : r'.av = (nth rs (bs.length - 1)).av) (hlv : r'.lv = (nth rs (bs.length - 1)).lv) (hbc : b'.Code = (nth bs (bs.length - 1)).Code) (hba : b'.At = (nth bs (bs.length - 1)).At) (hbl : b'.Lines = (nth bs (bs.length - 1)).Lines) :
  BlkS B c (w.setCell ⟨g, (bs.length - 1) * 14 + q, none⟩ u) vB (rs.set (bs.length - 1) r') (bs.set (bs.length - 1) b') ∧ Turn (fun i => i = 10) c w c (w.setCell ⟨g, (bs.length - 1) * 14 + q, none⟩ u) := by
 have hl := h.len
 obtain ⟨g', H0, e, hB, -, -, hg, hc, hf, H1⟩ := own_setc (f := cbv) (k := 14) cbv_len h.row.1 (i := bs.length - 1) jo (c := q) hq
 have H2 : g' = g := by rw [hv] at e; injection e with e1 e2 e3; injection e1 with e4; injection e4 with e5; exact e5.symm
 subst H2
 have H3 : c g' = 10 := h.row.2 g' (by rw [e]; rfl)
 have ht : Turn (fun i => i = 10) c w c (w.setCell ⟨g', (bs.length - 1) * 14 + q, none⟩ u) := (Turn.set c w g' _ u).mono fun i hi => by rw [hi, H3]
 refine ⟨⟨⟨H1 r' u hr, fun b hb2 => h.row.2 b hb2⟩, by simp [hl], fun i hi => ?_, fun i hi => ?_⟩, ht⟩
 ·rw [List.length_set] at hi
  rw [nth_set_last _ _ hi, ← hl, nth_set_last _ _ jo, hl]
  by_cases z : i = bs.length - 1
  ·rw [if_pos z, if_pos z]; exact hs
  rw [if_neg z, if_neg z]; exact h.sc i hi
 rw [List.length_set] at hi
 have hR := (h.rows i hi).turn ht jo jo jo
 rw [nth_set_last _ _ hi, ← hl, nth_set_last _ _ jo, hl]
 by_cases z : i = bs.length - 1
 ·rw [if_pos z, if_pos z]
  subst z
  unfold RowsB
  rw [hcv, hav, hlv, hbc, hba, hbl]
  exact hR
 rw [if_neg z, if_neg z]; exact hR
theorem BlkS.push (h : BlkS B c w vB rs bs) {wa w7 : World} {v7 : Value} {f a : Int} (ka : Keeps w wa) (o7 : Own w7 B 92 14 cbv v7 (rs ++ [(⟨f, a, ⟨none, 0, 0⟩, ⟨none, 0, 0⟩, zIc, 2, 0, 0, ⟨none, 0, 0⟩⟩ : Bv)])) (g7 : wa.grownBy w7 vB.ownBlock) (f7 : ∀ b, v7.ownBlock = some b → vB.ownBlock = some b ∨ wa.heap.size ≤ b) :
  ∃ c', Turn (fun i => i = 10) c w c' w7 ∧ BlkS B c' w7 v7 (rs ++ [(⟨f, a, ⟨none, 0, 0⟩, ⟨none, 0, 0⟩, zIc, 2, 0, 0, ⟨none, 0, 0⟩⟩ : Bv)]) (bs ++ [newB f a]) := by
 obtain ⟨c', ht, ho⟩ := h.row.push ka o7 g7 f7
 refine ⟨c', ht, ho, by simp [h.len], fun i hi => ?_, fun i hi => ?_⟩
 ·rw [List.length_append, List.length_singleton] at hi
  rcases Nat.lt_or_ge i bs.length with q | q
  ·rw [nth_app_lt _ _ (by rw [h.len]; exact q), nth_app_lt _ _ q]; exact h.sc i q
  rw [nth_app_eq _ _ (by rw [h.len]; omega), nth_app_eq _ _ jo]
  exact ⟨rfl, rfl, rfl, rfl, rfl, rfl⟩
 rw [List.length_append, List.length_singleton] at hi
 rcases Nat.lt_or_ge i bs.length with q | q
 ·rw [nth_app_lt _ _ (by rw [h.len]; exact q), nth_app_lt _ _ q]; exact (h.rows i q).turn ht jo jo jo
 rw [nth_app_eq _ _ (by rw [h.len]; omega), nth_app_eq _ _ jo]
 exact ⟨OwnC.nil _ _ _ _ _ _ _, OwnC.nil _ _ _ _ _ _ _, OwnC.nil _ _ _ _ _ _ _⟩
theorem BlkS.pushAt (h : BlkS B c w vB rs bs) (hb : 0 < bs.length) {g cap : Nat} (hv : vB = .slice (some ⟨g, 0, none⟩) bs.length cap) {wa w7 : World} {s7 : Sle} {x : Int} (ka : Keeps w wa) (o7 : Own w7 B 3 1 ci s7.v ((nth bs (bs.length - 1)).At ++ [x])) (g7 : wa.grownBy w7 (nth rs (bs.length - 1)).av.v.ownBlock) (f7 : ∀ b, s7.v.ownBlock = some b → (nth rs (bs.length - 1)).av.v.ownBlock = some b ∨ wa.heap.size ≤ b) :
  ∃ c', Turn (fun i => i = 10 ∨ i = 17 + 3 * (bs.length - 1)) c w c' (w7.setCell ⟨g, (bs.length - 1) * 14 + 3, none⟩ (.slice s7.a s7.n s7.c)) ∧ BlkS B c' (w7.setCell ⟨g, (bs.length - 1) * 14 + 3, none⟩ (.slice s7.a s7.n s7.c)) vB (rs.set (bs.length - 1) { nth rs (bs.length - 1) with av := s7 }) (bs.set (bs.length - 1) { nth bs (bs.length - 1) with At := (nth bs (bs.length - 1)).At ++ [x] }) := by
 have hl := h.len
 obtain ⟨c', ht, ho⟩ := ((h.rows (bs.length - 1) jo).2.1).push ka o7 g7 f7
 have H0 := h.row.turn ht jo
 obtain ⟨g', H3, e, hB, -, -, hg, hc, hf, H4⟩ := own_setc (f := cbv) (k := 14) cbv_len H0.1 (i := bs.length - 1) jo (c := 3) jd
 have H5 : g' = g := by rw [hv] at e; injection e with e1 e2 e3; injection e1 with e4; injection e4 with e5; exact e5.symm
 subst H5
 have H6 : c' g' = 10 := H0.2 g' (by rw [e]; rfl)
 have H2 : Turn (fun i => i = 10) c' w7 c' (w7.setCell ⟨g', (bs.length - 1) * 14 + 3, none⟩ (.slice s7.a s7.n s7.c)) := (Turn.set c' w7 g' _ _).mono fun i hi => by rw [hi, H6]
 have H1 := (ht.mono (J := fun i => i = 10 ∨ i = 17 + 3 * (bs.length - 1)) fun i hi => Or.inr hi).trans (H2.mono fun i hi => Or.inl hi)
 refine ⟨c', H1, ⟨H4 _ _ rfl, fun b hb2 => H0.2 b hb2⟩, by simp [hl], fun i hi => ?_, fun i hi => ?_⟩
 ·rw [List.length_set] at hi
  rw [nth_set_last _ _ hi, ← hl, nth_set_last _ _ jo, hl]
  by_cases z : i = bs.length - 1
  ·rw [if_pos z, if_pos z]; exact h.sc _ jo
  rw [if_neg z, if_neg z]; exact h.sc i hi
 rw [List.length_set] at hi
 rw [nth_set_last _ _ hi, ← hl, nth_set_last _ _ jo, hl]
 by_cases z : i = bs.length - 1
 ·rw [if_pos z, if_pos z]
  subst z
  have hR := h.rows (bs.length - 1) hi
  exact ⟨hR.1.turn H1 jo, ho.turn H2 jo, hR.2.2.turn H1 jo⟩
 rw [if_neg z, if_neg z]
 exact (h.rows i hi).turn H1 jo jo jo
theorem BlkS.pushLn (h : BlkS B c w vB rs bs) (hb : 0 < bs.length) {g cap : Nat} (hv : vB = .slice (some ⟨g, 0, none⟩) bs.length cap) {wa w7 : World} {s7 : Sle} {x : Int} (ka : Keeps w wa) (o7 : Own w7 B 3 1 ci s7.v ((nth bs (bs.length - 1)).Lines ++ [x])) (g7 : wa.grownBy w7 (nth rs (bs.length - 1)).lv.v.ownBlock) (f7 : ∀ b, s7.v.ownBlock = some b → (nth rs (bs.length - 1)).lv.v.ownBlock = some b ∨ wa.heap.size ≤ b) :
  ∃ c', Turn (fun i => i = 10 ∨ i = 18 + 3 * (bs.length - 1)) c w c' (w7.setCell ⟨g, (bs.length - 1) * 14 + 13, none⟩ (.slice s7.a s7.n s7.c)) ∧ BlkS B c' (w7.setCell ⟨g, (bs.length - 1) * 14 + 13, none⟩ (.slice s7.a s7.n s7.c)) vB (rs.set (bs.length - 1) { nth rs (bs.length - 1) with lv := s7 }) (bs.set (bs.length - 1) { nth bs (bs.length - 1) with Lines := (nth bs (bs.length - 1)).Lines ++ [x] }) := by
 have hl := h.len
 obtain ⟨c', ht, ho⟩ := ((h.rows (bs.length - 1) jo).2.2).push ka o7 g7 f7
 have H0 := h.row.turn ht jo
 obtain ⟨g', H3, e, hB, -, -, hg, hc, hf, H4⟩ := own_setc (f := cbv) (k := 14) cbv_len H0.1 (i := bs.length - 1) jo (c := 13) jd
 have H5 : g' = g := by rw [hv] at e; injection e with e1 e2 e3; injection e1 with e4; injection e4 with e5; exact e5.symm
 subst H5
 have H6 : c' g' = 10 := H0.2 g' (by rw [e]; rfl)
 have H2 : Turn (fun i => i = 10) c' w7 c' (w7.setCell ⟨g', (bs.length - 1) * 14 + 13, none⟩ (.slice s7.a s7.n s7.c)) := (Turn.set c' w7 g' _ _).mono fun i hi => by rw [hi, H6]
 have H1 := (ht.mono (J := fun i => i = 10 ∨ i = 18 + 3 * (bs.length - 1)) fun i hi => Or.inr hi).trans (H2.mono fun i hi => Or.inl hi)
 refine ⟨c', H1, ⟨H4 _ _ rfl, fun b hb2 => H0.2 b hb2⟩, by simp [hl], fun i hi => ?_, fun i hi => ?_⟩
 ·rw [List.length_set] at hi
  rw [nth_set_last _ _ hi, ← hl, nth_set_last _ _ jo, hl]
  by_cases z : i = bs.length - 1
  ·rw [if_pos z, if_pos z]; exact h.sc _ jo
  rw [if_neg z, if_neg z]; exact h.sc i hi
 rw [List.length_set] at hi
 rw [nth_set_last _ _ hi, ← hl, nth_set_last _ _ jo, hl]
 by_cases z : i = bs.length - 1
 ·rw [if_pos z, if_pos z]
  subst z
  have hR := h.rows (bs.length - 1) hi
  exact ⟨hR.1.turn H1 jo, hR.2.1.turn H1 jo, ho.turn H2 jo⟩
 rw [if_neg z, if_neg z]
 exact (h.rows i hi).turn H1 jo jo jo
theorem BlkS.pushCode (h : BlkS B c w vB rs bs) (hb : 0 < bs.length) {g cap : Nat} (hv : vB = .slice (some ⟨g, 0, none⟩) bs.length cap) {wa w7 : World} {s7 : Sle} {x : Ic} (ka : Keeps w wa) (o7 : Own w7 B 64 6 cic s7.v ((nth bs (bs.length - 1)).Code ++ [x])) (g7 : wa.grownBy w7 (nth rs (bs.length - 1)).cv.v.ownBlock) (f7 : ∀ b, s7.v.ownBlock = some b → (nth rs (bs.length - 1)).cv.v.ownBlock = some b ∨ wa.heap.size ≤ b) :
  ∃ c', Turn (fun i => i = 10 ∨ i = 16 + 3 * (bs.length - 1)) c w c' (w7.setCell ⟨g, (bs.length - 1) * 14 + 2, none⟩ (.slice s7.a s7.n s7.c)) ∧ BlkS B c' (w7.setCell ⟨g, (bs.length - 1) * 14 + 2, none⟩ (.slice s7.a s7.n s7.c)) vB (rs.set (bs.length - 1) { nth rs (bs.length - 1) with cv := s7 }) (bs.set (bs.length - 1) { nth bs (bs.length - 1) with Code := (nth bs (bs.length - 1)).Code ++ [x] }) := by
 have hl := h.len
 obtain ⟨c', ht, ho⟩ := ((h.rows (bs.length - 1) jo).1).push ka o7 g7 f7
 have H0 := h.row.turn ht jo
 obtain ⟨g', H3, e, hB, -, -, hg, hc, hf, H4⟩ := own_setc (f := cbv) (k := 14) cbv_len H0.1 (i := bs.length - 1) jo (c := 2) jd
 have H5 : g' = g := by rw [hv] at e; injection e with e1 e2 e3; injection e1 with e4; injection e4 with e5; exact e5.symm
 subst H5
 have H6 : c' g' = 10 := H0.2 g' (by rw [e]; rfl)
 have H2 : Turn (fun i => i = 10) c' w7 c' (w7.setCell ⟨g', (bs.length - 1) * 14 + 2, none⟩ (.slice s7.a s7.n s7.c)) := (Turn.set c' w7 g' _ _).mono fun i hi => by rw [hi, H6]
 have H1 := (ht.mono (J := fun i => i = 10 ∨ i = 16 + 3 * (bs.length - 1)) fun i hi => Or.inr hi).trans (H2.mono fun i hi => Or.inl hi)
 refine ⟨c', H1, ⟨H4 _ _ rfl, fun b hb2 => H0.2 b hb2⟩, by simp [hl], fun i hi => ?_, fun i hi => ?_⟩
 ·rw [List.length_set] at hi
  rw [nth_set_last _ _ hi, ← hl, nth_set_last _ _ jo, hl]
  by_cases z : i = bs.length - 1
  ·rw [if_pos z, if_pos z]; exact h.sc _ jo
  rw [if_neg z, if_neg z]; exact h.sc i hi
 rw [List.length_set] at hi
 rw [nth_set_last _ _ hi, ← hl, nth_set_last _ _ jo, hl]
 by_cases z : i = bs.length - 1
 ·rw [if_pos z, if_pos z]
  subst z
  have hR := h.rows (bs.length - 1) hi
  exact ⟨ho.turn H2 jo, hR.2.1.turn H1 jo, hR.2.2.turn H1 jo⟩
 rw [if_neg z, if_neg z]
 exact (h.rows i hi).turn H1 jo jo jo
theorem BlkS.stay (h : BlkS B c w vB rs bs) {g cap n : Nat} (hv : vB = .slice (some ⟨g, 0, none⟩) n cap) {wa w7 : World} {row : Option Nat} (ka : Keeps w wa) (g7 : wa.grownBy w7 row) (hr : ∀ b, row = some b → c b ≠ 10) :
  (∀ o v, w.cell? ⟨g, o, none⟩ = some v → w7.cell? ⟨g, o, none⟩ = some v) ∧ (∀ o, w7.frozen? ⟨g, o, none⟩ = false) ∧ g < w7.heap.size := by
 obtain ⟨⟨_, h2⟩, hc⟩ := h.row
 rcases h2 with ⟨e, _⟩ | ⟨g', cap', cur, e, _, hg, _⟩
 ·rw [hv] at e; cases e
 have H2 : g' = g := by rw [hv] at e; injection e with e1 e2 e3; injection e1 with e4; injection e4 with e5; exact e5.symm
 subst H2
 have H0 : some g' ≠ row := fun q => hr g' q.symm (hc g' (by rw [e]; rfl))
 have H1 : Blk w7 g' (.cells cur _ (0, 0)) := Blk.grown (Blk.keep hg ka) g7 H0
 exact ⟨fun o v q => g7.cell (ka.cell q) H0, fun o => H1.thawed o, H1.lt⟩
theorem BlkS.self (h : BlkS B c w vB rs bs) {J : Nat} (hJ : J + 1 = bs.length) : BlkS B c w vB (rs.set J (nth rs J)) (bs.set J (nth bs J)) := by
 have e1 : rs.set J (nth rs J) = rs := by rw [nth_eq _ _ (by rw [h.len]; omega), List.set_getElem_self]
 have e2 : bs.set J (nth bs J) = bs := by rw [nth_eq _ _ jo, List.set_getElem_self]
 rw [e1, e2]
 exact h
theorem BlkS.atJ {J : Nat} {r : Bv} {b : Bk} (h : BlkS B c w vB (rs.set J r) (bs.set J b)) (hJ : J + 1 = bs.length) : (bs.set J b).length = bs.length ∧ nth (rs.set J r) J = r ∧ nth (bs.set J b) J = b := by
 have hl := h.len
 rw [List.length_set, List.length_set] at hl
 exact ⟨List.length_set .., by rw [nth_setw _ _ _ _ jo, if_pos rfl], by rw [nth_setw _ _ _ _ jo, if_pos rfl]⟩
theorem BlkS.cellJ {J g cap : Nat} {r : Bv} {b : Bk} (h : BlkS B c w vB (rs.set J r) (bs.set J b)) (hJ : J + 1 = bs.length) (hv : vB = .slice (some ⟨g, 0, none⟩) (J + 1) cap) : (∀ q u, q < 14 → (cbv r)[q]? = some u → w.cell? ⟨g, J * 14 + q, none⟩ = some u) ∧ (∀ j, w.frozen? ⟨g, j, none⟩ = false) ∧ g < w.heap.size ∧ B ≤ g ∧ c g = 10 ∧ RowsB B c w J r b ∧ Scal r b := by
 obtain ⟨e1, e2, e3⟩ := h.atJ hJ
 obtain ⟨g', H0, e, hB, H1, H2, hc, hf⟩ := h.last (by rw [e1]; omega)
 have H3 : g' = g := by rw [hv] at e; injection e with e1 e2 e3; injection e1 with e4; injection e4 with e5; exact e5.symm
 subst H3
 rw [e1, show bs.length - 1 = J by omega, e2] at hc
 have h1 := h.rows J (by rw [e1]; omega)
 have h2 := h.sc J (by rw [e1]; omega)
 rw [e2, e3] at h1 h2
 exact ⟨hc, hf, H2, hB, H1, h1, h2⟩
theorem BlkS.put' {J g cap : Nat} {r : Bv} {b : Bk} (h : BlkS B c w vB (rs.set J r) (bs.set J b)) (hJ : J + 1 = bs.length) (hv : vB = .slice (some ⟨g, 0, none⟩) (J + 1) cap) (q : Nat) (hq : q < 14) (u : Value) (r' : Bv) (b' : Bk) (hr : cbv r' = (cbv r).set q u) (hs : Scal r' b')
  (hcv : r'.cv = r.cv) (hav : r'.av = r.av) (hlv : r'.lv = r.lv) (hbc : b'.Code = b.Code) (hba : b'.At = b.At) (hbl : b'.Lines = b.Lines) :
  BlkS B c (w.setCell ⟨g, J * 14 + q, none⟩ u) vB (rs.set J r') (bs.set J b') ∧ Turn (fun i => i = 10 ∨ 16 ≤ i) c w c (w.setCell ⟨g, J * 14 + q, none⟩ u) := by
 obtain ⟨e1, e2, e3⟩ := h.atJ hJ
 have hp := h.put (by rw [e1]; omega) (by rw [hv, e1, hJ]) q hq u r' b' (by rw [e1, show bs.length - 1 = J by omega, e2]; exact hr) hs (by rw [e1, show bs.length - 1 = J by omega, e2]; exact hcv) (by rw [e1, show bs.length - 1 = J by omega, e2]; exact hav) (by rw [e1, show bs.length - 1 = J by omega, e2]; exact hlv) (by rw [e1, show bs.length - 1 = J by omega, e3]; exact hbc) (by rw [e1, show bs.length - 1 = J by omega, e3]; exact hba) (by rw [e1, show bs.length - 1 = J by omega, e3]; exact hbl)
 rw [e1, show bs.length - 1 = J by omega, List.set_set, List.set_set] at hp
 exact ⟨hp.1, hp.2.mono fun i hi => Or.inl hi⟩
theorem BlkS.pushAt' {J g cap : Nat} {r : Bv} {b : Bk} (h : BlkS B c w vB (rs.set J r) (bs.set J b)) (hJ : J + 1 = bs.length) (hv : vB = .slice (some ⟨g, 0, none⟩) (J + 1) cap) {wa w7 : World} {s7 : Sle} {x : Int} (ka : Keeps w wa) (o7 : Own w7 B 3 1 ci s7.v (b.At ++ [x])) (g7 : wa.grownBy w7 r.av.v.ownBlock) (f7 : ∀ b, s7.v.ownBlock = some b → r.av.v.ownBlock = some b ∨ wa.heap.size ≤ b) :
  ∃ c', Turn (fun i => i = 10 ∨ 16 ≤ i) c w c' (w7.setCell ⟨g, J * 14 + 3, none⟩ (.slice s7.a s7.n s7.c)) ∧ BlkS B c' (w7.setCell ⟨g, J * 14 + 3, none⟩ (.slice s7.a s7.n s7.c)) vB (rs.set J { r with av := s7 }) (bs.set J { b with At := b.At ++ [x] }) := by
 obtain ⟨e1, e2, e3⟩ := h.atJ hJ
 have hq := h.pushAt (x := x) (by rw [e1]; omega) (by rw [hv, e1, hJ]) ka (by rw [e1, show bs.length - 1 = J by omega, e3]; exact o7) (by rw [e1, show bs.length - 1 = J by omega, e2]; exact g7) (by rw [e1, show bs.length - 1 = J by omega, e2]; exact f7)
 obtain ⟨c', h1, h2⟩ := hq
 rw [e1, show bs.length - 1 = J by omega] at h1 h2
 rw [e2, e3, List.set_set, List.set_set] at h2
 exact ⟨c', h1.mono fun i hi => hi.imp id jo, h2⟩
theorem BlkS.pushLn' {J g cap : Nat} {r : Bv} {b : Bk} (h : BlkS B c w vB (rs.set J r) (bs.set J b)) (hJ : J + 1 = bs.length) (hv : vB = .slice (some ⟨g, 0, none⟩) (J + 1) cap) {wa w7 : World} {s7 : Sle} {x : Int} (ka : Keeps w wa) (o7 : Own w7 B 3 1 ci s7.v (b.Lines ++ [x])) (g7 : wa.grownBy w7 r.lv.v.ownBlock) (f7 : ∀ b, s7.v.ownBlock = some b → r.lv.v.ownBlock = some b ∨ wa.heap.size ≤ b) :
  ∃ c', Turn (fun i => i = 10 ∨ 16 ≤ i) c w c' (w7.setCell ⟨g, J * 14 + 13, none⟩ (.slice s7.a s7.n s7.c)) ∧ BlkS B c' (w7.setCell ⟨g, J * 14 + 13, none⟩ (.slice s7.a s7.n s7.c)) vB (rs.set J { r with lv := s7 }) (bs.set J { b with Lines := b.Lines ++ [x] }) := by
 obtain ⟨e1, e2, e3⟩ := h.atJ hJ
 have hq := h.pushLn (x := x) (by rw [e1]; omega) (by rw [hv, e1, hJ]) ka (by rw [e1, show bs.length - 1 = J by omega, e3]; exact o7) (by rw [e1, show bs.length - 1 = J by omega, e2]; exact g7) (by rw [e1, show bs.length - 1 = J by omega, e2]; exact f7)
 obtain ⟨c', h1, h2⟩ := hq
 rw [e1, show bs.length - 1 = J by omega] at h1 h2
 rw [e2, e3, List.set_set, List.set_set] at h2
 exact ⟨c', h1.mono fun i hi => hi.imp id jo, h2⟩
theorem BlkS.pushCode' {J g cap : Nat} {r : Bv} {b : Bk} (h : BlkS B c w vB (rs.set J r) (bs.set J b)) (hJ : J + 1 = bs.length) (hv : vB = .slice (some ⟨g, 0, none⟩) (J + 1) cap) {wa w7 : World} {s7 : Sle} {x : Ic} (ka : Keeps w wa) (o7 : Own w7 B 64 6 cic s7.v (b.Code ++ [x])) (g7 : wa.grownBy w7 r.cv.v.ownBlock) (f7 : ∀ b, s7.v.ownBlock = some b → r.cv.v.ownBlock = some b ∨ wa.heap.size ≤ b) :
  ∃ c', Turn (fun i => i = 10 ∨ 16 ≤ i) c w c' (w7.setCell ⟨g, J * 14 + 2, none⟩ (.slice s7.a s7.n s7.c)) ∧ BlkS B c' (w7.setCell ⟨g, J * 14 + 2, none⟩ (.slice s7.a s7.n s7.c)) vB (rs.set J { r with cv := s7 }) (bs.set J { b with Code := b.Code ++ [x] }) := by
 obtain ⟨e1, e2, e3⟩ := h.atJ hJ
 have hq := h.pushCode (x := x) (by rw [e1]; omega) (by rw [hv, e1, hJ]) ka (by rw [e1, show bs.length - 1 = J by omega, e3]; exact o7) (by rw [e1, show bs.length - 1 = J by omega, e2]; exact g7) (by rw [e1, show bs.length - 1 = J by omega, e2]; exact f7)
 obtain ⟨c', h1, h2⟩ := hq
 rw [e1, show bs.length - 1 = J by omega] at h1 h2
 rw [e2, e3, List.set_set, List.set_set] at h2
 exact ⟨c', h1.mono fun i hi => hi.imp id jo, h2⟩
end
end Go.Proofs.YtgdamggkaklhjaaDoor
