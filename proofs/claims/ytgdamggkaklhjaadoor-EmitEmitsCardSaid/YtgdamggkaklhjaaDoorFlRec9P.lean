/-
What the walks of cut and join share: sizes, the map of plac
-/
import Derived.Test.YtgdamggkaklhjaaDoorFlRec7
set_option linter.all false
section
namespace Go.Proofs.YtgdamggkaklhjaaDoor
open Go.RowKit BH
set_option maxHeartbeats 1000000000
set_option maxRecDepth 100000
theorem info_block : (Tryd.prog.info? 92).map (fun i => (i.zero, i.size, i.bytes)) = some (some (.agg #[.int .i64 0, .int .i64 0, .slice none 0 0, .slice none 0 0, .int .i64 0, .int .i64 0, .int .i64 0, .int .i64 0, .int .i64 0, .bool false, .int .i64 0, .int .i64 0, .int .i64 0, .slice none 0 0]), 14, 160) := by kernel_rfl
theorem info_instr : (Tryd.prog.info? 64).map (fun i => (i.zero, i.size, i.bytes)) = some (some (.agg #[.int .i64 0, .int .i64 0, .int .i64 0, .int .i64 0, .int .i64 0, .bool false]), 6, 48) := by kernel_rfl
def CutSm (bs : List Bk) (T : Nat) : Prop := bs.length ≤ T ∧ ∀ i, i < bs.length → (nth bs i).Code.length ≤ T ∧ (nth bs i).At.length ≤ T ∧ (nth bs i).Lines.length ≤ T
theorem CutSm.mono {bs : List Bk} {T T' : Nat} (h : CutSm bs T) (ht : T ≤ T') : CutSm bs T' := ⟨Nat.le_trans h.1 ht, fun i hi => ⟨Nat.le_trans (h.2 i hi).1 ht, Nat.le_trans (h.2 i hi).2.1 ht, Nat.le_trans (h.2 i hi).2.2 ht⟩⟩
theorem CutSm.snoc {bs : List Bk} {T : Nat} (h : CutSm bs T) (f a : Int) : CutSm (bs ++ [newB f a]) (T + 1) := by
 refine ⟨by have := h.1; simp; omega, fun i hi => ?_⟩
 rw [List.length_append, List.length_singleton] at hi
 rcases Nat.lt_or_ge i bs.length with q | q
 ·rw [nth_app_lt _ _ q]; have := h.2 i q; omega
 rw [nth_app_eq _ _ jo]; exact ⟨Nat.zero_le _, Nat.zero_le _, Nat.zero_le _⟩
theorem CutSm.last {bs : List Bk} {T J : Nat} {b : Bk} (h : bs.length ≤ T + 1 ∧ ∀ i, i < bs.length → (nth bs i).Code.length ≤ T ∧ (nth bs i).At.length ≤ T ∧ (nth bs i).Lines.length ≤ T) (hJ : J < bs.length) (hc : b.Code.length ≤ (nth bs J).Code.length + 1) (ha : b.At.length ≤ (nth bs J).At.length + 1) (hl : b.Lines.length ≤ (nth bs J).Lines.length + 1) : CutSm (bs.set J b) (T + 1) := by
 refine ⟨by rw [List.length_set]; exact h.1, fun i hi => ?_⟩
 rw [List.length_set] at hi
 rw [nth_setw _ _ _ _ hi]
 have hj := h.2 J hJ
 split
 ·omega
 have := h.2 i hi; omega
abbrev MK6 (c : Nat → Nat) (w : World) (b n : Nat) (bm : Int → Option Int) : Prop := MapC 6 c Tryd.prog 3 3 (fun x : Int => .int .i64 x) wfI litI w b n bm
def CutAns (m : Img) (w0 : World) (v0 v1 v2 v3 v4 va : Value) (vs : List Sle) (L : List (List Sp)) (xb ob lb kb : Nat) (vT : Value) (c : Nat → Nat) (w : World) (nK : Nat) (C : Cut) (fs : List Int) (w' : World) : Prop :=
 ∃ c' vB vF rs, Turn (fun i => i = 1 ∨ i = 6 ∨ i = 9 ∨ i = 10 ∨ 16 ≤ i) c w c' w' ∧ Fin m w0 v0 v1 v2 v3 v4 va vs L xb ob lb kb vB vT vF c' w' ∧ BlkS w0.heap.size c' w' vB rs C.bs ∧ MK6 c' w' kb nK C.bm ∧ OwnC 9 c' w' w0.heap.size 3 1 ci vF fs
theorem Fin.put {m : Img} {w0 : World} {v0 v1 v2 v3 v4 va : Value} {vs : List Sle} {L : List (List Sp)} {xb ob lb kb : Nat} {vB vT vF vB' vT' vF' : Value} {c : Nat → Nat} {w w' : World} {j : Nat} {u : Value} (h : Fin m w0 v0 v1 v2 v3 v4 va vs L xb ob lb kb vB vT vF c w)
  (hw : w' = w.setCell ⟨xb, j, none⟩ u) (he : (#[v0, v1, v2, v3, v4, .int .i64 m.Entry, va, .map (some ob), .map (some lb), .map (some kb), vB, vT, vF] : Array Value).setIfInBounds j u = #[v0, v1, v2, v3, v4, .int .i64 m.Entry, va, .map (some ob), .map (some lb), .map (some kb), vB', vT', vF']) :
  Fin m w0 v0 v1 v2 v3 v4 va vs L xb ob lb kb vB' vT' vF' c w' ∧ Turn (fun i => i = 1) c w c w' := by
 subst hw
 obtain ⟨hb, ht⟩ := h.blk.set j u
 rw [he] at hb
 exact ⟨⟨h.keep.trans' (ht.below h.keep.size h.zero jd) (Nat.le_refl _), h.zero, h.img, hb, h.all.turn ht jd, h.len, h.sps.turn ht jd⟩, ht⟩
theorem info_item : (Tryd.prog.info? 96).map (fun i => (i.zero, i.size, i.bytes)) = some (some (.agg #[.int .i64 0, .int .i64 0, .int .i64 0, .int .i64 0, .int .i64 0, .bool false, .int .i64 0, .int .i64 0, .int .i64 0, .int .i64 0, .int .i64 0]), 11, 88) := by kernel_rfl
def cim (x : It × Int) : List Value := [.int .i64 x.1.I.K, .int .i64 x.1.I.D, .int .i64 x.1.I.A, .int .i64 x.1.I.B, .int .i64 x.1.I.N, .bool x.1.I.Lg, .int .i64 x.1.Bl, .int .i64 x.1.Fn, .int .i64 x.1.Old, .int .i64 x.1.Li, .int .i64 x.2]
theorem cim_len (x : It × Int) : (cim x).length = 11 := rfl
theorem cim_one (x : It × Int) : ∀ u ∈ cim x, u.oneCell' = true := by
 intro u hu
 simp [cim] at hu
 rcases hu with rfl | rfl | rfl | rfl | rfl | rfl | rfl | rfl | rfl | rfl | rfl <;> rfl
structure Mkr (m : Img) (f : Fl) (w0 : World) (v0 v1 v2 v3 v4 f0 f1 f2 : Value) (xb : Nat) (vI vF vB : Value) (its : List (It × Int)) (fst beg : List Int) (c : Nat → Nat) (w : World) : Prop where
 keep : Keeps w0 w
 zero : ∀ b, b < w0.heap.size → c b = 0
 img : ImgAt w0 (.agg #[v0, v1, v2, v3, v4, .int .i64 m.Entry]) m
 flw : FlowAt w0 (.agg #[f0, f1, f2]) f
 blk : BlkC 1 c w xb (.cells #[v0, v1, v2, v3, v4, .int .i64 m.Entry, f0, f1, f2, vI, vF, vB] 52)
 its : OwnC 2 c w w0.heap.size 96 11 cim vI its
 fst : OwnC 3 c w w0.heap.size 3 1 ci vF fst
 beg : OwnC 4 c w w0.heap.size 3 1 ci vB beg
section
variable {m : Img} {f : Fl} {w0 : World} {v0 v1 v2 v3 v4 f0 f1 f2 : Value} {xb : Nat} {vI vI' vF vB : Value} {its its' : List (It × Int)} {fst beg : List Int} {c c' : Nat → Nat} {w w' : World} {I : Nat → Prop}
theorem Mkr.turn (h : Mkr m f w0 v0 v1 v2 v3 v4 f0 f1 f2 xb vI vF vB its fst beg c w) (t : Turn I c w c' w') (h0 : ¬ I 0) (h1 : ¬ I 1) (h2 : ¬ I 2) (h3 : ¬ I 3) (h4 : ¬ I 4) : Mkr m f w0 v0 v1 v2 v3 v4 f0 f1 f2 xb vI vF vB its fst beg c' w' :=
 ⟨h.keep.trans' (t.below h.keep.size h.zero h0) (Nat.le_refl _), t.zero h.keep.size h.zero, h.img, h.flw, h.blk.turn t h1, h.its.turn t h2, h.fst.turn t h3, h.beg.turn t h4⟩
theorem Mkr.keeps (h : Mkr m f w0 v0 v1 v2 v3 v4 f0 f1 f2 xb vI vF vB its fst beg c w) (k : Keeps w w') : Mkr m f w0 v0 v1 v2 v3 v4 f0 f1 f2 xb vI vF vB its fst beg c w' :=
 h.turn (k.turn (fun _ => False) c) (fun q => q) (fun q => q) (fun q => q) (fun q => q) (fun q => q)
theorem Mkr.put (h : Mkr m f w0 v0 v1 v2 v3 v4 f0 f1 f2 xb vI vF vB its fst beg c w) {w7 w8 : World} (t : Turn (fun i => i = 2) c w c' w7) (o : OwnC 2 c' w7 w0.heap.size 96 11 cim vI' its') (hw : w8 = w7.setCell ⟨xb, 9, none⟩ vI') :
  Turn (fun i => i = 1 ∨ i = 2) c w c' w8 ∧ Mkr m f w0 v0 v1 v2 v3 v4 f0 f1 f2 xb vI' vF vB its' fst beg c' w8 := by
 subst hw
 obtain ⟨hb, ht⟩ := (h.blk.turn t jd).set 9 vI'
 have H0 : Turn (fun i => i = 1 ∨ i = 2) c w c' (w7.setCell ⟨xb, 9, none⟩ vI') := (t.mono fun i q => Or.inr q).trans (ht.mono fun i q => Or.inl q)
 exact ⟨H0, h.keep.trans' (H0.below h.keep.size h.zero jd) (Nat.le_refl _), H0.zero h.keep.size h.zero, h.img, h.flw, hb, o.turn ht jd, h.fst.turn H0 jd, h.beg.turn H0 jd⟩
def MkAns (m : Img) (f : Fl) (w0 : World) (v0 v1 v2 v3 v4 f0 f1 f2 : Value) (xb : Nat) (vF vB : Value) (c : Nat → Nat) (w : World) (its : List (It × Int)) (fst beg : List Int) (w' : World) : Prop :=
 ∃ c' vI', Turn (fun i => i = 1 ∨ i = 2 ∨ i = 3) c w c' w' ∧ Mkr m f w0 v0 v1 v2 v3 v4 f0 f1 f2 xb vI' vF vB its fst beg c' w'
theorem Mkr.first (h : Mkr m f w0 v0 v1 v2 v3 v4 f0 f1 f2 xb vI vF vB its fst beg c w) {n : Nat} (hn : n < fst.length) : ∃ g cap, vF = .slice (some ⟨g, 0, none⟩) fst.length cap ∧ g < w.heap.size ∧ w.cell? ⟨g, n, none⟩ = some (.int .i64 (nth fst n)) ∧ w.frozen? ⟨g, n, none⟩ = false ∧
  ∀ (x : Int) (w' : World), w' = w.setCell ⟨g, n, none⟩ (.int .i64 x) → Turn (fun i => i = 3) c w c w' ∧ Mkr m f w0 v0 v1 v2 v3 v4 f0 f1 f2 xb vI vF vB its (fst.set n x) beg c w' := by
 obtain ⟨g, cap, hv, -, -, -, hg, hc, hf, hs⟩ := own_set1 (h := fun x : Int => .int .i64 x) h.fst.1 hn
 refine ⟨g, cap, hv, hg, hc n hn, hf n, fun x w' hw => ?_⟩
 subst hw
 have H0 : c g = 3 := h.fst.2 g (by rw [hv]; rfl)
 have ht : Turn (fun i => i = 3) c w c (w.setCell ⟨g, n, none⟩ (.int .i64 x)) := (Turn.set c w g n _).mono fun i hi => by rw [hi, H0]
 exact ⟨ht, h.keep.trans' (ht.below h.keep.size h.zero jd) (Nat.le_refl _), h.zero, h.img, h.flw, h.blk.turn ht jd, h.its.turn ht jd, ⟨hs x, h.fst.2⟩, h.beg.turn ht jd⟩
theorem Mkr.begin (h : Mkr m f w0 v0 v1 v2 v3 v4 f0 f1 f2 xb vI vF vB its fst beg c w) {n : Nat} (hn : n < beg.length) : ∃ g cap, vB = .slice (some ⟨g, 0, none⟩) beg.length cap ∧ g < w.heap.size ∧ w.cell? ⟨g, n, none⟩ = some (.int .i64 (nth beg n)) ∧ w.frozen? ⟨g, n, none⟩ = false ∧
  ∀ (x : Int) (w' : World), w' = w.setCell ⟨g, n, none⟩ (.int .i64 x) → Turn (fun i => i = 4) c w c w' ∧ Mkr m f w0 v0 v1 v2 v3 v4 f0 f1 f2 xb vI vF vB its fst (beg.set n x) c w' := by
 obtain ⟨g, cap, hv, -, -, -, hg, hc, hf, hs⟩ := own_set1 (h := fun x : Int => .int .i64 x) h.beg.1 hn
 refine ⟨g, cap, hv, hg, hc n hn, hf n, fun x w' hw => ?_⟩
 subst hw
 have H0 : c g = 4 := h.beg.2 g (by rw [hv]; rfl)
 have ht : Turn (fun i => i = 4) c w c (w.setCell ⟨g, n, none⟩ (.int .i64 x)) := (Turn.set c w g n _).mono fun i hi => by rw [hi, H0]
 exact ⟨ht, h.keep.trans' (ht.below h.keep.size h.zero jd) (Nat.le_refl _), h.zero, h.img, h.flw, h.blk.turn ht jd, h.its.turn ht jd, h.fst.turn ht jd, ⟨hs x, h.beg.2⟩⟩
theorem Mkr.item (h : Mkr m f w0 v0 v1 v2 v3 v4 f0 f1 f2 xb vI vF vB its fst beg c w) {k : Nat} (hk : k < its.length) : ∃ g cap, vI = .slice (some ⟨g, 0, none⟩) its.length cap ∧ g < w.heap.size ∧ (∀ q u, q < 11 → (cim (nth its k))[q]? = some u → w.cell? ⟨g, k * 11 + q, none⟩ = some u) ∧ (∀ j, w.frozen? ⟨g, j, none⟩ = false) ∧
  (∀ j q u, j < its.length → q < 11 → (cim (nth its j))[q]? = some u → w.cell? ⟨g, j * 11 + q, none⟩ = some u) ∧
  ∀ (q : Nat) (u : Value) (y : It × Int) (w' : World), q < 11 → cim y = (cim (nth its k)).set q u → w' = w.setCell ⟨g, k * 11 + q, none⟩ u → Turn (fun i => i = 2) c w c w' ∧ Mkr m f w0 v0 v1 v2 v3 v4 f0 f1 f2 xb vI vF vB (its.set k y) fst beg c w' := by
 obtain ⟨g, cap, hv, -, -, -, hg, hc, hf, -⟩ := own_setw cim_len h.its.1 hk
 refine ⟨g, cap, hv, hg, fun q u hq hu => hc k q u hk hq hu, hf, hc, fun q u y w' hq hy hw => ?_⟩
 subst hw
 obtain ⟨g2, H1, H0, -, -, -, -, -, -, hs⟩ := own_setc cim_len h.its.1 hk hq
 have H2 : g2 = g := by rw [hv] at H0; injection H0 with e1 e2 e3; injection e1 with e4; injection e4 with e5; exact e5.symm
 subst H2
 have H3 : c g2 = 2 := h.its.2 g2 (by rw [hv]; rfl)
 have ht : Turn (fun i => i = 2) c w c (w.setCell ⟨g2, k * 11 + q, none⟩ u) := (Turn.set c w g2 _ _).mono fun i hi => by rw [hi, H3]
 exact ⟨ht, h.keep.trans' (ht.below h.keep.size h.zero jd) (Nat.le_refl _), h.zero, h.img, h.flw, h.blk.turn ht jd, ⟨hs y u hy, h.its.2⟩, h.fst.turn ht jd, h.beg.turn ht jd⟩
structure BkG (b : Bk) : Prop where
 ln : b.Lines.length = b.Code.length + 1
 a0 : b.Code.length ≤ b.At.length
 a1 : b.Ends = 3 ∨ b.Ends = 4 → b.Code.length < b.At.length
 e : 1 ≤ b.Ends ∧ b.Ends ≤ 4
 lst : b.Ends = 4 → 18 ≤ b.Last.K ∧ b.Last.K ≤ 21
 len : b.Code.length ≤ 100000
def zIt (t : It) : It × Int := (t, 0)
theorem add_any (hX : Mkr m f w0 v0 v1 v2 v3 v4 f0 f1 f2 xb vI vF vB its fst beg c w) (i : Ic) (bl fn old li : Int) (hn : its.length ≤ 1000000000) :
  Calls Tryd.prog 29 #[.pointer (some ⟨xb, 0, none⟩), .agg #[.int .i64 i.K, .int .i64 i.D, .int .i64 i.A, .int .i64 i.B, .int .i64 i.N, .bool i.Lg], .int .i64 bl, .int .i64 fn, .int .i64 old, .int .i64 li] w fun e w' => e = .returned (.tuple #[]) ∧
   MkAns m f w0 v0 v1 v2 v3 v4 f0 f1 f2 xb vF vB c w (its ++ [(⟨i, bl, fn, old, li⟩, 0)]) fst beg w' := by
 obtain ⟨K, D, A, B, N, Lg⟩ := i
 dsimp only
 have HX := jH hX
 obtain ⟨ia, ic, rfl⟩ := own_form' hX.its.1
 obtain ⟨NI, H5⟩ := jE (its.length)
 obtain ⟨W, c1, hW, He, H7, H2⟩ := one_paint w c (.cells #[.int .i64 K, .int .i64 D, .int .i64 A, .int .i64 B, .int .i64 N, .bool Lg] 64) 7
 have H6 := hX.turn (H7 (fun _ => False)) (fun q => q) (fun q => q) (fun q => q) (fun q => q) (fun q => q)
 rw [← H5] at hn H6
 have x9 := jv W xb 9 (.slice ia NI ic) (H6.blk.1.cell rfl)
 have u0 := jc W w.heap.size 0 K (H2.1.cell rfl)
 have u1 := jc W w.heap.size 1 D (H2.1.cell rfl)
 have u2 := jc W w.heap.size 2 A (H2.1.cell rfl)
 have u3 := jc W w.heap.size 3 B (H2.1.cell rfl)
 have u4 := jc W w.heap.size 4 N (H2.1.cell rfl)
 have u5 := jv W w.heap.size 5 (.bool Lg) (H2.1.cell rfl)
 obtain ⟨Hf, H3⟩ := jE (NI + 1)
 obtain ⟨Hg, Hb, Hh, H4⟩ := hid4 (show (its ++ [((⟨⟨K, D, A, B, N, Lg⟩, bl, fn, old, li⟩ : It), (0 : Int))]).length = Hf by rw [List.length_append, List.length_singleton, H3, H5]) H5 H3 H6
 have Hi := jH (H7 (fun i => i = 1 ∨ i = 2 ∨ i = 3))
 clear hX H6 H7 H2 H5 H3 HX
 go_enter Tryd.func29, Tryd.ntmps29
 go_upto_region 1 with fail
 rw [← hW]
 clear He
 have HW := jH hW
 clear hW
 refine wp_region_head_tail (S := Cells [(xb, 9, .slice ia NI ic), (w.heap.size, 0, .int .i64 K), (w.heap.size, 1, .int .i64 D), (w.heap.size, 2, .int .i64 A), (w.heap.size, 3, .int .i64 B), (w.heap.size, 4, .int .i64 N), (w.heap.size, 5, .bool Lg)]) 12 0 (v := .pointer (some ⟨xb, 0, none⟩)) jx rfl jx jx jx jd (fun _ _ _ h => h) (Or.inl ⟨by rfl, fun w => by rfl⟩) jx jx jx jd jx ?hS1 (fun H0 => ?_)
 case hS1 => exact ⟨x9, u0, u1, u2, u3, u4, u5, trivial⟩
 simp only [jU, jG]
 try simp only [Act.put, jS]
 refine jp 1 H0 ?_
 refine jp 2 H0 ?_
 refine jp 3 H0 ?_
 refine jp 4 H0 ?_
 refine jp 5 H0 ?_
 refine jp 6 H0 ?_
 refine jp 7 H0 ?_
 refine jp 8 H0 ?_
 refine jp 9 H0 ?_
 refine jp 10 H0 ?_
 refine readyC 11 ?_
 intro K hK
 go_simp
 refine goOn hK (Cells.keep H0 ((Keeps.refl _).alloc _)) ?_
 clear hK K H0
 intro H0
 refine wpAnyH_done jx ?_ _
 dsimp only [TailQ]
 clear H0 x9 u0 u1 u2 u3 u4 u5
 go_wp2_with (at_builtin; refine wpList_pushes jr (.tmp 16) (.tmp 23) 50 jr Tryd.underlying50 info_item jr jd (base := w0.heap.size) (f := cim) (l := its) jr (by exact H4.out.its.1.keep ku5) [((⟨⟨K, D, A, B, N, Lg⟩, bl, fn, old, li⟩ : It), (0 : Int))] _ _ jr jt cim_len cim_one (by simp only [jL, ← Hb.out]; omega) (by simp only [jL, ← Hb.out]; unfold maxLen; omega) (by have := H4.out.keep.size; first | omega | (simp only [sz_alloc, sz_drew]; omega)) ?_; intro v7 w7 H1 Hc H8 H9; obtain ⟨c7, Hd, Hj⟩ := H4.out.its.push (show Keeps W _ from ku5) H1 H8 H9; have Ha := H4.out.blk.turn Hd jd; have x9 := Ha.1.cell (j := 9) rfl; have f9 := Ha.1.thawed 9; have l7 := Ha.1.lt; obtain ⟨fa7, fc7, e7⟩ := own_form' H1; rw [Hg.out] at e7; subst e7)
 obtain ⟨Hk, Hl⟩ := H4.out.put Hd Hj rfl
 refine bodyPost_end (results_none rfl _ _ _) rfl ?_
 exact ⟨rfl, c7, _, Hi.out.trans (Hk.mono fun i q => by rcases q with q | q <;> simp [q]), Hl⟩
theorem address_any (hX : Mkr m f w0 v0 v1 v2 v3 v4 f0 f1 f2 xb vI vF vB its fst beg c w) (k : Nat) (sz : Int) : Calls Tryd.prog 33 #[.pointer (some ⟨xb, 0, none⟩), .int .i64 k, .int .i64 sz] w fun e w' => e = .returned (.int .i64 (if k < its.length then (nth its k).2 else sz)) ∧ w = w' := by
 have hb := hX.blk.1
 by_cases hk : k < its.length
 ·rw [if_pos hk]
  obtain ⟨g, cap, rfl, -, -, -, -, hc, -, -⟩ := own_setw cim_len hX.its.1 hk
  have y := hc k 10 _ hk jd rfl
  have x9 := hb.cell (j := 9) rfl
  obtain ⟨NI, H0⟩ := jE (its.length)
  rw [← H0] at x9 hk
  have H1 : (k : Int) < (NI : Int) := by omega
  clear hX hb hc H0
  go_enter Tryd.func33, Tryd.ntmps33
  go_wp2_with fail
  go_ret
  exact ⟨rfl, rfl⟩
 rw [if_neg hk]
 obtain ⟨ia, ic, rfl⟩ := own_form' hX.its.1
 have x9 := hb.cell (j := 9) rfl
 obtain ⟨NI, H0⟩ := jE (its.length)
 rw [← H0] at x9 hk
 have H1 : ¬ (k : Int) < (NI : Int) := by omega
 clear hX hb H0
 go_enter Tryd.func33, Tryd.ntmps33
 go_wp2_with fail
 go_ret
 exact ⟨rfl, rfl⟩
end
theorem opposite_any (K : Int) (w : World) (h0 : 18 ≤ K) (h1 : K ≤ 21) : Calls Tryd.prog 30 #[.int .i64 K] w fun e w' => e = .returned (.int .i64 (oppK K)) ∧ Keeps w w' := by
 have h : K = 18 ∨ K = 19 ∨ K = 20 ∨ K = 21 := by omega
 rcases h with rfl | rfl | rfl | rfl <;>
 ·clear h0 h1
  have i18 : ∀ w, (Instr.index 119 (.agg #[.int .i64 0, .int .i64 0, .int .i64 0, .int .i64 0, .int .i64 0, .int .i64 0, .int .i64 0, .int .i64 0, .int .i64 0, .int .i64 0, .int .i64 0, .int .i64 0, .int .i64 0, .int .i64 0, .int .i64 0, .int .i64 0, .int .i64 0, .int .i64 0, .int .i64 19, .int .i64 18, .int .i64 21, .int .i64 20]) (.int .i64 18)).run Tryd.prog w = .ok (.int .i64 19) w := fun w => by rfl
  have i19 : ∀ w, (Instr.index 119 (.agg #[.int .i64 0, .int .i64 0, .int .i64 0, .int .i64 0, .int .i64 0, .int .i64 0, .int .i64 0, .int .i64 0, .int .i64 0, .int .i64 0, .int .i64 0, .int .i64 0, .int .i64 0, .int .i64 0, .int .i64 0, .int .i64 0, .int .i64 0, .int .i64 0, .int .i64 19, .int .i64 18, .int .i64 21, .int .i64 20]) (.int .i64 19)).run Tryd.prog w = .ok (.int .i64 18) w := fun w => by rfl
  have i20 : ∀ w, (Instr.index 119 (.agg #[.int .i64 0, .int .i64 0, .int .i64 0, .int .i64 0, .int .i64 0, .int .i64 0, .int .i64 0, .int .i64 0, .int .i64 0, .int .i64 0, .int .i64 0, .int .i64 0, .int .i64 0, .int .i64 0, .int .i64 0, .int .i64 0, .int .i64 0, .int .i64 0, .int .i64 19, .int .i64 18, .int .i64 21, .int .i64 20]) (.int .i64 20)).run Tryd.prog w = .ok (.int .i64 21) w := fun w => by rfl
  have i21 : ∀ w, (Instr.index 119 (.agg #[.int .i64 0, .int .i64 0, .int .i64 0, .int .i64 0, .int .i64 0, .int .i64 0, .int .i64 0, .int .i64 0, .int .i64 0, .int .i64 0, .int .i64 0, .int .i64 0, .int .i64 0, .int .i64 0, .int .i64 0, .int .i64 0, .int .i64 0, .int .i64 0, .int .i64 19, .int .i64 18, .int .i64 21, .int .i64 20]) (.int .i64 21)).run Tryd.prog w = .ok (.int .i64 20) w := fun w => by rfl
  go_enter Tryd.func30, Tryd.ntmps30
  go_wp2_with fail
  go_ret
  exact ⟨rfl, Keeps.refl _⟩
theorem Chain.len : ∀ {l : List Sp} {a e : Int}, Chain a l e → (l.length : Int) ≤ e - a
 | [], a, e, h => by simp only [Chain] at h; simp; omega
 | s :: r, a, e, h => by have := Chain.len h.2.2; have := h.2.1; rw [List.length_cons]; omega
theorem SpGood.spOk {T : List UInt8} {s : Sp} (h : SpGood T s) (h2 : T.length ≤ 2000) : SpOk s := by
 have f := h.fine
 have x0 := f.x0
 have x1 := f.x1
 exact ⟨x0, by omega, by rw [h.z]; exact f.z1, by rw [h.z]; exact f.z5, by rw [h.i]; exact f.n0, by rw [h.i]; exact f.n1, by rw [h.i]; exact f.k1, by rw [h.i]; exact f.k24, by rw [h.i]; exact f.nt⟩
theorem fun_short {m : Img} (hg : ImgGood m) (h2 : m.Text.length ≤ 2000) {i : Nat} (hi : i < m.Funcs.length) (hb : badF m.Text (nth m.Funcs i) = false) : (nth (allS m) i).length ≤ 2000 ∧ (∀ s ∈ nth (allS m) i, SpOk s) ∧ nth (allS m) i = spsF m.Text (nth m.Funcs i) ∧ 0 < (nth (allS m) i).length := by
 obtain ⟨c, g, -, hp⟩ := badF_no hg hi hb
 have h1 := c.len
 have e1 := sumF_mono hg (show i + 1 ≤ m.Funcs.length from hi) (Nat.le_refl _)
 rw [hg.sum] at e1
 have e0 := sumF_mono hg (show 0 ≤ i by omega) jo
 have e2 : sumF m 0 = 0 := rfl
 exact ⟨by omega, fun s hs => (g s hs).spOk h2, allS_nth m hi, hp⟩
theorem ann_len {m : Img} (hg : ImgGood m) (hs : Swept m) (h2 : m.Text.length ≤ 2000) : ∀ k, k ≤ m.Funcs.length → (annS (allS m) k).length ≤ 2000 * k
 | 0, _ => Nat.le_refl _
 | k + 1, hk => by unfold annS; rw [List.length_append, List.length_map]; have := ann_len hg hs h2 k jo; have := (fun_short hg h2 (i := k) jo (hs.f jo)).1; omega
theorem cutS_sm {m : Img} {f : Int} {c : Cut} {s : Sp} {T : Nat} (h : CutSm c.bs T) : CutSm (cutS m f c s).bs (T + 1) := by
 have key : ∀ bs1 : List Bk, (bs1.length ≤ T + 1 ∧ ∀ i, i < bs1.length → (nth bs1 i).Code.length ≤ T ∧ (nth bs1 i).At.length ≤ T ∧ (nth bs1 i).Lines.length ≤ T) → CutSm (modL bs1 (pbS m s)) (T + 1) := by
  intro bs1 h1
  rcases Nat.eq_zero_or_pos bs1.length with q | q
  ·rw [List.length_eq_zero_iff.1 q]
   exact ⟨Nat.zero_le _, fun i hi => by cases hi⟩
  unfold modL
  refine CutSm.last h1 jo ?_ ?_ ?_ <;> (unfold pbS; split; · simp) <;> (split; · simp) <;> (split <;> simp)
 unfold cutS
 by_cases hl : isL m s.A = true
 ·rw [if_pos hl]
  refine key _ ⟨by have := h.1; rw [List.length_append, List.length_singleton]; omega, fun i hi => ?_⟩
  rw [List.length_append, List.length_singleton] at hi
  rcases Nat.lt_or_ge i c.bs.length with z | z
  ·rw [nth_app_lt _ _ z]; exact h.2 i z
  rw [nth_app_eq _ _ jo]; exact ⟨Nat.zero_le _, Nat.zero_le _, Nat.zero_le _⟩
 rw [if_neg hl]
 exact key _ ⟨by have := h.1; omega, h.2⟩
theorem fold_sm {m : Img} : ∀ (l : List (Nat × Sp)) (c : Cut) (T : Nat), CutSm c.bs T → CutSm (l.foldl (fun c p => cutS m p.1 c p.2) c).bs (T + l.length)
 | [], _, _, h => h
 | p :: r, c, T, h => by have := fold_sm (m := m) r (cutS m p.1 c p.2) (T + 1) (cutS_sm h); (rw [show T + 1 + r.length = T + (p :: r).length by rw [List.length_cons]; omega] at this); exact this
theorem cutF_sm {m : Img} (hg : ImgGood m) (hs : Swept m) (h2 : m.Text.length ≤ 2000) {k : Nat} (hk : k ≤ m.Funcs.length) : CutSm (cutF m k).bs (2000 * k) := by
 rw [cutF_is]
 have := fold_sm (m := m) (annS (allS m) k) ⟨[], fun _ => none⟩ 0 ⟨Nat.zero_le _, fun i hi => by cases hi⟩
 exact this.mono (by have := ann_len hg hs h2 k hk; omega)
def BkOk (b : Bk) : Prop := 0 < b.Lines.length ∧ -100000 ≤ b.To ∧ b.To ≤ 100000 ∧ -100000 ≤ b.Else ∧ b.Else ≤ 100000
theorem pbS_ok {m : Img} {s : Sp} {b : Bk} (hs : SpOk s) (h1 : -100000 ≤ b.Else ∧ b.Else ≤ 100000) : BkOk (pbS m s b) := by
 obtain ⟨a0, a1, z0, z1, n0, n1, -, -, -⟩ := hs
 unfold pbS BkOk
 split
 ·exact ⟨by simp, by dsimp only; omega, by dsimp only; omega, by dsimp only; omega, by dsimp only; omega⟩
 split
 ·exact ⟨by simp, by dsimp only; omega, by dsimp only; omega, h1.1, h1.2⟩
 split
 ·exact ⟨by simp, by dsimp only; omega, by dsimp only; omega, h1.1, h1.2⟩
 exact ⟨by simp, by dsimp only; omega, by dsimp only; omega, h1.1, h1.2⟩
theorem cutS_ok {m : Img} {f : Int} {c : Cut} {s : Sp} (hs : SpOk s) (h : ∀ b ∈ c.bs, BkOk b) : ∀ b ∈ (cutS m f c s).bs, BkOk b := by
 unfold cutS
 by_cases hl : isL m s.A = true
 ·rw [if_pos hl]
  dsimp only
  rw [modL_app]
  intro b hb
  rcases List.mem_append.1 hb with q | q
  ·exact h b q
  rw [List.mem_singleton.1 q]
  exact pbS_ok hs ⟨by unfold newB; dsimp only; omega, by unfold newB; dsimp only; omega⟩
 rw [if_neg hl]
 dsimp only
 rcases List.eq_nil_or_concat c.bs with q | ⟨pre, b0, q⟩
 ·rw [q]; intro b hb; cases hb
 rw [q, List.concat_eq_append, modL_app]
 rw [q, List.concat_eq_append] at h
 intro b hb
 rcases List.mem_append.1 hb with z | z
 ·exact h b (List.mem_append_left _ z)
 rw [List.mem_singleton.1 z]
 have := h b0 (List.mem_append_right _ (List.mem_singleton.2 rfl))
 exact pbS_ok hs ⟨this.2.2.2.1, this.2.2.2.2⟩
theorem fold_ok {m : Img} : ∀ (l : List (Nat × Sp)) (c : Cut), (∀ p ∈ l, SpOk p.2) → (∀ b ∈ c.bs, BkOk b) → ∀ b ∈ (l.foldl (fun c p => cutS m p.1 c p.2) c).bs, BkOk b
 | [], _, _, h => h
 | p :: r, c, hs, h => fold_ok r _ (fun q hq => hs q (List.mem_cons_of_mem _ hq)) (cutS_ok (hs p (List.mem_cons_self ..)) h)
theorem cutF_ok {m : Img} (hg : ImgGood m) (hs : Swept m) (h2 : m.Text.length ≤ 2000) : ∀ b ∈ (cutF m m.Funcs.length).bs, BkOk b := by
 rw [cutF_is]
 exact fold_ok _ _ (fun p hp => (ann_in hg hs hp).2.2.spOk h2) (fun b hb => by cases hb)
def recA (m : Img) : Fl := if recE m = 0 then recF m else ⟨[], [], []⟩
theorem recE_fault {m : Img} (h : imgFault m ≠ 0) : recE m = imgFault m := by unfold recE; rw [if_pos h]
theorem recE_big {m : Img} (h : imgFault m = 0) (h2 : 2000 < m.Text.length) : recE m = 1 := by unfold recE; rw [if_neg (by rw [h]; decide), if_pos h2]
theorem recE_bad {m : Img} (h : imgFault m = 0) (h2 : ¬ 2000 < m.Text.length) (hb : recB m = true) : recE m = 9 := by unfold recE; rw [if_neg (by rw [h]; decide), if_neg h2, if_pos hb]
theorem recE_good {m : Img} (h : imgFault m = 0) (h2 : ¬ 2000 < m.Text.length) (hb : recB m = false) : recE m = 0 := by unfold recE; rw [if_neg (by rw [h]; decide), if_neg h2, if_neg (by rw [hb]; decide)]
theorem recB_f {m : Img} {i : Nat} (hi : i < m.Funcs.length) (hb : badF m.Text (nth m.Funcs i) = true) : recB m = true := by
 unfold recB
 rw [anyN_yes (p := fun i => badF m.Text (nth m.Funcs i)) hi hb]
 rfl
theorem recB_t {m : Img} {i : Nat} (hi : i < m.Tables.length) (hb : tblB m (ownS (allS m) m.Funcs.length) i = true) : recB m = true := by
 unfold recB
 rw [anyN_yes hi hb]
 simp
theorem recB_s {m : Img} {i : Nat} (hi : i < m.Funcs.length) (hb : anyN (fun k => spB m (ownS (allS m) m.Funcs.length) i (nth (nth (allS m) i) k)) (nth (allS m) i).length = true) : recB m = true := by
 unfold recB
 rw [anyN_yes (p := fun i : Nat => anyN (fun k => spB m (ownS (allS m) m.Funcs.length) i (nth (nth (allS m) i) k)) (nth (allS m) i).length) hi hb]
 simp
theorem recB_no {m : Img} (h1 : ∀ i, i < m.Funcs.length → badF m.Text (nth m.Funcs i) = false) (h2 : ∀ i, i < m.Tables.length → tblB m (ownS (allS m) m.Funcs.length) i = false) (h3 : ∀ i, i < m.Funcs.length → anyN (fun k => spB m (ownS (allS m) m.Funcs.length) i (nth (nth (allS m) i) k)) (nth (allS m) i).length = false) : recB m = false := by
 unfold recB
 rw [anyN_no h1, anyN_no h2, anyN_no h3]
 rfl
theorem first_isL {m : Img} (hg : ImgGood m) (hs : Swept m) {i : Nat} (hi : i < m.Funcs.length) : isL m (nth (nth (allS m) i) 0).A = true := by
 obtain ⟨c, -, -, hp⟩ := badF_no hg hi (hs.f hi)
 refine isL_iff.2 (Or.inr (Or.inl ⟨i, hi, ?_⟩))
 rw [(hg.func i hi).2.2.1]
 cases e : nth (allS m) i with
 | nil => rw [e] at hp; cases hp
 | cons s r => rw [e] at c; exact c.1
theorem isK_isL (m : Img) (x : Int) : ((isK (keysM m (allS m) m.Funcs.length) x).getD false) = isL m x := by
 unfold isK isL
 by_cases h : x ∈ keysM m (allS m) m.Funcs.length
 ·rw [if_pos h, decide_eq_true h]; rfl
 rw [if_neg h, decide_eq_false h]; rfl
end Go.Proofs.YtgdamggkaklhjaaDoor
end
