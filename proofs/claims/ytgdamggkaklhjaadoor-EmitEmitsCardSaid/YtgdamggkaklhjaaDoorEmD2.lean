/-
The document's side of emit: the pieces of a block.
-/
import Derived.Test.YtgdamggkaklhjaaDoorEmD1
set_option linter.all false
namespace Go.Proofs.YtgdamggkaklhjaaDoor
open Go.RowKit BH
set_option maxHeartbeats 1000000000
set_option maxRecDepth 100000
theorem info_piece : (Tryd.prog.info? 66).map (fun i => (i.zero, i.size, i.bytes)) = some (some (.agg #[.int .i64 0, .int .i64 0, .int .i64 0, .int .i64 0, .int .i64 0, .bool false, .int .i64 0, .int .i64 0, .int .i64 0, .int .i64 0]), 10, 80) := by kernel_rfl
def cpc (x : It) : List Value := [.int .i64 x.I.K, .int .i64 x.I.D, .int .i64 x.I.A, .int .i64 x.I.B, .int .i64 x.I.N, .bool x.I.Lg, .int .i64 x.Bl, .int .i64 x.Fn, .int .i64 x.Old, .int .i64 x.Li]
theorem cpc_len (x : It) : (cpc x).length = 10 := rfl
theorem cpc_one (x : It) : ∀ u ∈ cpc x, u.oneCell' = true := by
 intro u hu
 simp [cpc] at hu
 rcases hu with rfl | rfl | rfl | rfl | rfl | rfl | rfl | rfl | rfl | rfl <;> rfl
def pcO (t : It) : It := if t.I.K = 23 then { t with I := { t.I with N := t.Fn } } else t
theorem blk_put10 {w : World} {g : Nat} {e : TypeId} {a0 a1 a2 a3 a4 a5 a6 a7 a8 a9 : Value} (h0 : Blk w g (.cells #[a0, a1, a2, a3, a4, a5, a6, a7, a8, a9] e)) (b0 b1 b2 b3 b4 b5 b6 b7 b8 b9 : Value) : Blk ((((((((((w.setCell ⟨g, 0, none⟩ b0).setCell ⟨g, 1, none⟩ b1).setCell ⟨g, 2, none⟩ b2).setCell ⟨g, 3, none⟩ b3).setCell ⟨g, 4, none⟩ b4).setCell ⟨g, 5, none⟩ b5).setCell ⟨g, 6, none⟩ b6).setCell ⟨g, 7, none⟩ b7).setCell ⟨g, 8, none⟩ b8).setCell ⟨g, 9, none⟩ b9) g (.cells #[b0, b1, b2, b3, b4, b5, b6, b7, b8, b9] e) := by
 have h1 : Blk (w.setCell ⟨g, 0, none⟩ b0) g (.cells #[b0, a1, a2, a3, a4, a5, a6, a7, a8, a9] e) := Blk.set h0 0 b0
 have h2 : Blk ((w.setCell ⟨g, 0, none⟩ b0).setCell ⟨g, 1, none⟩ b1) g (.cells #[b0, b1, a2, a3, a4, a5, a6, a7, a8, a9] e) := Blk.set h1 1 b1
 have h3 : Blk (((w.setCell ⟨g, 0, none⟩ b0).setCell ⟨g, 1, none⟩ b1).setCell ⟨g, 2, none⟩ b2) g (.cells #[b0, b1, b2, a3, a4, a5, a6, a7, a8, a9] e) := Blk.set h2 2 b2
 have h4 : Blk ((((w.setCell ⟨g, 0, none⟩ b0).setCell ⟨g, 1, none⟩ b1).setCell ⟨g, 2, none⟩ b2).setCell ⟨g, 3, none⟩ b3) g (.cells #[b0, b1, b2, b3, a4, a5, a6, a7, a8, a9] e) := Blk.set h3 3 b3
 have h5 : Blk (((((w.setCell ⟨g, 0, none⟩ b0).setCell ⟨g, 1, none⟩ b1).setCell ⟨g, 2, none⟩ b2).setCell ⟨g, 3, none⟩ b3).setCell ⟨g, 4, none⟩ b4) g (.cells #[b0, b1, b2, b3, b4, a5, a6, a7, a8, a9] e) := Blk.set h4 4 b4
 have h6 : Blk ((((((w.setCell ⟨g, 0, none⟩ b0).setCell ⟨g, 1, none⟩ b1).setCell ⟨g, 2, none⟩ b2).setCell ⟨g, 3, none⟩ b3).setCell ⟨g, 4, none⟩ b4).setCell ⟨g, 5, none⟩ b5) g (.cells #[b0, b1, b2, b3, b4, b5, a6, a7, a8, a9] e) := Blk.set h5 5 b5
 have h7 : Blk (((((((w.setCell ⟨g, 0, none⟩ b0).setCell ⟨g, 1, none⟩ b1).setCell ⟨g, 2, none⟩ b2).setCell ⟨g, 3, none⟩ b3).setCell ⟨g, 4, none⟩ b4).setCell ⟨g, 5, none⟩ b5).setCell ⟨g, 6, none⟩ b6) g (.cells #[b0, b1, b2, b3, b4, b5, b6, a7, a8, a9] e) := Blk.set h6 6 b6
 have h8 : Blk ((((((((w.setCell ⟨g, 0, none⟩ b0).setCell ⟨g, 1, none⟩ b1).setCell ⟨g, 2, none⟩ b2).setCell ⟨g, 3, none⟩ b3).setCell ⟨g, 4, none⟩ b4).setCell ⟨g, 5, none⟩ b5).setCell ⟨g, 6, none⟩ b6).setCell ⟨g, 7, none⟩ b7) g (.cells #[b0, b1, b2, b3, b4, b5, b6, b7, a8, a9] e) := Blk.set h7 7 b7
 have h9 : Blk (((((((((w.setCell ⟨g, 0, none⟩ b0).setCell ⟨g, 1, none⟩ b1).setCell ⟨g, 2, none⟩ b2).setCell ⟨g, 3, none⟩ b3).setCell ⟨g, 4, none⟩ b4).setCell ⟨g, 5, none⟩ b5).setCell ⟨g, 6, none⟩ b6).setCell ⟨g, 7, none⟩ b7).setCell ⟨g, 8, none⟩ b8) g (.cells #[b0, b1, b2, b3, b4, b5, b6, b7, b8, a9] e) := Blk.set h8 8 b8
 have H0 : Blk ((((((((((w.setCell ⟨g, 0, none⟩ b0).setCell ⟨g, 1, none⟩ b1).setCell ⟨g, 2, none⟩ b2).setCell ⟨g, 3, none⟩ b3).setCell ⟨g, 4, none⟩ b4).setCell ⟨g, 5, none⟩ b5).setCell ⟨g, 6, none⟩ b6).setCell ⟨g, 7, none⟩ b7).setCell ⟨g, 8, none⟩ b8).setCell ⟨g, 9, none⟩ b9) g (.cells #[b0, b1, b2, b3, b4, b5, b6, b7, b8, b9] e) := Blk.set h9 9 b9
 exact H0
theorem pieces_any {v : Value} {f : Fl} {w : World} (hF : FlowAt w v f) (n : Nat) (nx : Int) (hn : n < f.Blocks.length) (hG : BkG (nth f.Blocks n)) :
  Calls Tryd.prog 18 #[v, .int .i64 n, .int .i64 nx] w fun e w' => ∃ a cp, e = .returned (.slice a (bIts (nth f.Blocks n) nx).length cp) ∧ Own w' w.heap.size 66 10 cpc (.slice a (bIts (nth f.Blocks n) nx).length cp) ((bIts (nth f.Blocks n) nx).map pcO) ∧ Keeps w w' := by
 obtain ⟨f0, f1, f2, rfl, ⟨cv, av, lv, Mt, M0⟩, -, -⟩ := hF
 obtain ⟨Km, Kn, Ko⟩ := M0 n hn
 obtain ⟨bo, K3, rfl, -, -, -, b4⟩ := Mt
 obtain ⟨bb, Ha, rfl, bc⟩ := b4 jo
 obtain ⟨NB, M1⟩ := jE (f.Blocks.length)
 rw [← M1]
 obtain ⟨W0, M2, M3, Kw⟩ : ∃ W, W = w.alloc (.cells #[.slice (some ⟨bb, Ha, none⟩) NB K3, f1, f2] 45) ∧ Blk W w.heap.size (.cells #[.slice (some ⟨bb, Ha, none⟩) NB K3, f1, f2] 45) ∧ Keeps w W := ⟨_, rfl, Blk.top _ _, (Keeps.refl _).alloc _⟩
 have g : ∀ j, j < 14 → W0.cell? ⟨bb, Ha + n * 14 + j, none⟩ = some ((nth f.Blocks n).c (cv n) (av n) (lv n) j) := fun j hj => Kw.cell (bc n j hn hj)
 obtain ⟨g1, g2, g3, g4, g5, g6⟩ := hG
 obtain ⟨BB, K4⟩ := jE (nth f.Blocks n)
 rw [← K4] at g g1 g2 g3 g4 g5 g6 Km Kn Ko ⊢
 obtain ⟨⟨bF, bS, bC, bA, ⟨lK, lD, lA, lB, lN, H9⟩, bE, bT, bL, K5⟩, hb⟩ : ∃ b, b = BB := ⟨_, rfl⟩
 rw [← hb] at g g1 g2 g3 g4 g5 g6 Km Kn Ko
 have K6 := jH hb.symm
 dsimp only at g1 g2 g3 g4 g5 g6 Km Kn Ko
 obtain ⟨co, Kp, ce, -, -, -, c4⟩ := Km
 obtain ⟨ao, K7, ae, -, -, -, a4⟩ := Kn
 obtain ⟨lo, K8, le, -, -, -, l4⟩ := Ko
 obtain ⟨lb, Hv, rfl, lc⟩ := l4 jo
 rw [ce, ae, le] at g
 have d0 := jc W0 bb (Ha + n * 14) bF (g 0 jo)
 have d1 := jc W0 bb (Ha + n * 14 + 1) bS (g 1 jo)
 have d2 := jv W0 bb (Ha + n * 14 + 2) (.slice co bC.length Kp) (g 2 jo)
 have d3 := jv W0 bb (Ha + n * 14 + 3) (.slice ao bA.length K7) (g 3 jo)
 have d4 := jc W0 bb (Ha + n * 14 + 4) lK (g 4 jo)
 have d5 := jc W0 bb (Ha + n * 14 + 5) lD (g 5 jo)
 have d6 := jc W0 bb (Ha + n * 14 + 6) lA (g 6 jo)
 have d7 := jc W0 bb (Ha + n * 14 + 7) lB (g 7 jo)
 have d8 := jc W0 bb (Ha + n * 14 + 8) lN (g 8 jo)
 have d9 := jv W0 bb (Ha + n * 14 + 9) (.bool H9) (g 9 jo)
 have Mu := jc W0 bb (Ha + n * 14 + 10) bE (g 10 jo)
 have Mv := jc W0 bb (Ha + n * 14 + 11) bT (g 11 jo)
 have Mw := jc W0 bb (Ha + n * 14 + 12) bL (g 12 jo)
 have M4 := jv W0 bb (Ha + n * 14 + 13) (.slice (some ⟨lb, Hv, none⟩) K5.length K8) (g 13 jo)
 have x0 := M3.cell (j := 0) rfl
 have Mx : (n : Int) < (NB : Int) := by omega
 obtain ⟨CN, Kx⟩ := jE (bC.length)
 obtain ⟨AN, M5⟩ := jE (bA.length)
 obtain ⟨LN, M6⟩ := jE (K5.length)
 rw [← Kx] at d2 g1 g2 g3 g6
 rw [← M5] at d3 g2 g3
 rw [← M6] at M4 g1
 have M7 : ∀ k, k < CN → ∃ cb cf, co = some ⟨cb, cf, none⟩ ∧ ∀ j, j < 6 → w.cell? ⟨cb, cf + k * 6 + j, none⟩ = some ((nth bC k).c j) := fun k hk => by obtain ⟨cb, cf, e, q⟩ := c4 jo; exact ⟨cb, cf, e, fun j hj => q k j jo hj⟩
 have M8 : ∀ k, k < AN → ∃ ab af, ao = some ⟨ab, af, none⟩ ∧ w.cell? ⟨ab, af + k, none⟩ = some (.int .i64 (nth bA k)) := fun k hk => by obtain ⟨ab, af, e, q⟩ := a4 jo; have z := q k 0 jo jo; rw [Nat.mul_one, Nat.add_zero] at z; exact ⟨ab, af, e, z⟩
 have M9 : ∀ k, k < LN → w.cell? ⟨lb, Hv + k, none⟩ = some (.int .i64 (nth K5 k)) := fun k hk => by have z := lc k 0 jo jo; rw [Nat.mul_one, Nat.add_zero] at z; exact z
 obtain ⟨b7, HI⟩ := jE (W0.heap.size)
 obtain ⟨W, hW, Ma, Mb⟩ : ∃ W, W = W0.alloc (.cells #[.int .i64 bF, .int .i64 bS, .slice co CN Kp, .slice ao AN K7, .int .i64 lK, .int .i64 lD, .int .i64 lA, .int .i64 lB, .int .i64 lN, .bool H9, .int .i64 bE, .int .i64 bT, .int .i64 bL, .slice (some ⟨lb, Hv, none⟩) LN K8] 92) ∧ Blk W b7 (.cells #[.int .i64 bF, .int .i64 bS, .slice co CN Kp, .slice ao AN K7, .int .i64 lK, .int .i64 lD, .int .i64 lA, .int .i64 lB, .int .i64 lN, .bool H9, .int .i64 bE, .int .i64 bT, .int .i64 bL, .slice (some ⟨lb, Hv, none⟩) LN K8] 92) ∧ Keeps w W := ⟨_, rfl, Blk.top' _ _ HI, Kw.alloc _⟩
 obtain ⟨HG, My, Ky, Kz⟩ := hid4 (show _ ∧ _ ∧ _ ∧ _ ∧ _ ∧ _ from ⟨g1, g2, g3, g4, g5, g6⟩) M7 M8 M9
 obtain ⟨KA, HW, Mc, K9⟩ := hid4 Kx hW M2 HI
 obtain ⟨KB, Md⟩ := hid2 Mb Ma
 obtain ⟨B, hB⟩ := jE (W.heap.size)
 have HJ := jH hB
 clear hb K4 g bc b4 c4 a4 l4 lc M0 ce ae le g1 g2 g3 g4 g5 g6 M7 M8 M9 Kx M5 M6 M1 M3 Ma Kw Mb M2 hW HI hB
 go_enter Tryd.func18, Tryd.ntmps18
 go_upto_region 1 with fail
 rw [← Mc.out]
 go_upto_region 2 with fail
 rw [← HW.out, ← K9.out]
 clear d0 d1 d2 d3 d4 d5 d6 d7 d8 d9 Mu Mv Mw M4 x0 HW Mc K9 Mx
 have y2 := Md.out.cell (j := 2) rfl
 go_wp2_with fail
 clear y2
 go_loopw [9, 8] (fun s9 s8 wr => ∃ (k : Nat) (a : Option Addr) (cp : Nat), k ≤ CN ∧ s9 = .int .i64 k ∧ s8 = .slice a k cp ∧ Hid (Keeps W wr) ∧ Hid (Own wr B 66 10 cpc (.slice a k cp) ((List.range k).map fun k => pcO (cIt BB k)))) (fun s9 _ _ => CN - (intOf s9).toNat)
 case atStart => exact ⟨0, none, 0, Nat.zero_le _, rfl, rfl, jH (Keeps.refl _), jH (Own.nil _ _ _ _ _)⟩
 case round =>
 obtain ⟨k, a, cp, hk, rfl, rfl, HK, HO⟩ := hrel
 obtain ⟨g1, g2, g3, g4, g5, g6⟩ := HG.out
 have Hl : Keeps w wr := KB.out.trans HK.out
 obtain ⟨KC, H7⟩ := hid2 Hl (Md.out.keep HK.out)
 have H4 : Hid (((List.range k).map fun k => pcO (cIt BB k)).length = k) := jH (by rw [List.length_map, List.length_range])
 have KD : Hid (B ≤ wr.heap.size) := jH (by rw [HJ.out]; exact HK.out.size)
 have y2 := H7.out.cell (j := 2) rfl
 by_cases Ka : k < CN
 case pos =>
  have Mz : (k : Int) < (CN : Int) := by omega
  have Me := jH Ka
  have MA : k < 100000 := by omega
  obtain ⟨cb, cf, rfl, cq⟩ := My.out k Ka
  obtain ⟨ab, af, rfl, aq⟩ := Ky.out k jo
  have lq := Kz.out k jo
  obtain ⟨⟨K, D, A, B0, N, Lg⟩, hi⟩ : ∃ i, i = nth bC k := ⟨_, rfl⟩
  obtain ⟨OA, HL⟩ := jE (nth bA k)
  obtain ⟨LA, HM⟩ := jE (nth K5 k)
  rw [← hi] at cq
  rw [← HL] at aq
  rw [← HM] at lq
  obtain ⟨FN, KE⟩ : ∃ z : Int, z = if K = 23 then N else -1 := ⟨_, rfl⟩
  have MB : Hid (pcO (cIt BB k) = ⟨⟨K, D, A, B0, N, Lg⟩, -1, FN, OA, LA⟩) := jH (by
   rw [K6.out, KE]
   unfold cIt pcO
   dsimp only
   rw [← hi, ← HL, ← HM]
   by_cases hK : K = 23
   ·subst hK; rfl
   simp only [if_neg hK])
  have Mf := jH KE
  have q0 := jc wr cb (cf + k * 6) K (Hl.cell (cq 0 jo))
  have q1 := jc wr cb (cf + k * 6 + 1) D (Hl.cell (cq 1 jo))
  have q2 := jc wr cb (cf + k * 6 + 2) A (Hl.cell (cq 2 jo))
  have q3 := jc wr cb (cf + k * 6 + 3) B0 (Hl.cell (cq 3 jo))
  have q4 := jc wr cb (cf + k * 6 + 4) N (Hl.cell (cq 4 jo))
  have q5 := jv wr cb (cf + k * 6 + 5) (.bool Lg) (Hl.cell (cq 5 jo))
  have ha := jc wr ab (af + k) OA (Hl.cell aq)
  have hl := jc wr lb (Hv + k) LA (Hl.cell lq)
  have y3 := H7.out.cell (j := 3) rfl
  have HN := H7.out.cell (j := 13) rfl
  have Mg : (k : Int) < (AN : Int) := by omega
  have MC : (k : Int) < (LN : Int) := by omega
  obtain ⟨Hh, HP⟩ := jE (wr.heap.size)
  obtain ⟨wA, Hw⟩ := jE ((wr.alloc (.cells #[.int .i64 0, .int .i64 0, .int .i64 0, .int .i64 0, .int .i64 0, .bool false, .int .i64 0, .int .i64 0, .int .i64 0, .int .i64 0] 66)).drew)
  have Mh : Blk wA Hh (.cells #[.int .i64 0, .int .i64 0, .int .i64 0, .int .i64 0, .int .i64 0, .bool false, .int .i64 0, .int .i64 0, .int .i64 0, .int .i64 0] 66) := by rw [Hw]; exact (Blk.top' _ _ HP).keep ((Keeps.refl _).drew)
  have Mi : Keeps wr wA := by rw [Hw]; exact ((Keeps.refl _).alloc _).drew
  obtain ⟨H3, Kq, Kb, H5⟩ := hid4 Mh Mi Hw HP
  clear cq aq lq hi HL HM KE g1 g2 g3 g4 g5 g6 Hl Mh Mi Hw HP Ka hk
  go_upto_region 6 with fail
  refine wp_region_head_tail (S := Cells [(b7, 2, .slice (some ⟨cb, cf, none⟩) CN Kp), (b7, 3, .slice (some ⟨ab, af, none⟩) AN K7), (b7, 13, .slice (some ⟨lb, Hv, none⟩) LN K8), (ab, af + k, .int .i64 OA), (lb, Hv + k, .int .i64 LA), (cb, cf + k * 6, .int .i64 K), (cb, cf + k * 6 + 1, .int .i64 D), (cb, cf + k * 6 + 2, .int .i64 A), (cb, cf + k * 6 + 3, .int .i64 B0), (cb, cf + k * 6 + 4, .int .i64 N), (cb, cf + k * 6 + 5, .bool Lg)]) 17 0 (v := .pointer (some ⟨b7, 2, none⟩)) jx rfl jx jx jx jd (fun _ _ _ h => h) (Or.inl ⟨by rfl, fun w => by rfl⟩) jx jx jx jd jx ?hS1 (fun H0 => ?_)
  case hS1 => exact ⟨y2, y3, HN, ha, hl, q0, q1, q2, q3, q4, q5, trivial⟩
  simp only [jU, jG]
  try simp only [Act.put, jS]
  refine jp 1 H0 ?_
  refine jp 2 H0 ?_
  refine jp 3 H0 ?_
  refine jp 4 H0 ?_
  refine jp 5 H0 ?_
  refine jp 6 H0 ?_
  refine jp 7 H0 ?_
  refine jp 8 H0 ?_
  refine jp 9 H0 ?_
  refine jp 10 H0 ?_
  refine jp 11 H0 ?_
  refine jp 12 H0 ?_
  refine jp 13 H0 ?_
  refine jp 14 H0 ?_
  refine jp 15 H0 ?_
  refine readyC 16 ?_
  intro K hK
  go_simp
  refine goOn hK (Cells.keep H0 ((Keeps.refl _).alloc _)) ?_
  clear hK K H0
  intro H0
  refine wpAnyH_done jx ?_ _
  dsimp only [TailQ]
  clear H0 y2 y3 HN ha hl q0 q1 q2 q3 q4 q5
  rw [← Kb.out, ← H5.out]
  clear Kb
  obtain ⟨u0, u1, u2, u3, u4, u5⟩ := H3.out.k6
  have u6 := H3.out.cell (j := 6) rfl
  have u7 := H3.out.cell (j := 7) rfl
  have u8 := H3.out.cell (j := 8) rfl
  have u9 := H3.out.cell (j := 9) rfl
  obtain ⟨v0, v1, v2, v3, v4, v5⟩ := H3.out.t6
  have v6 := H3.out.thawed 6
  have v7 := H3.out.thawed 7
  have v8 := H3.out.thawed 8
  have v9 := H3.out.thawed 9
  have vl := H3.out.lt
  go_upto_region 7 with fail
  obtain ⟨wP, Hx⟩ := jE ((((((((((wA.setCell ⟨Hh, 0, none⟩ (.int .i64 K)).setCell ⟨Hh, 1, none⟩ (.int .i64 D)).setCell ⟨Hh, 2, none⟩ (.int .i64 A)).setCell ⟨Hh, 3, none⟩ (.int .i64 B0)).setCell ⟨Hh, 4, none⟩ (.int .i64 N)).setCell ⟨Hh, 5, none⟩ (.bool Lg)).setCell ⟨Hh, 6, none⟩ (.int .i64 (-1))).setCell ⟨Hh, 7, none⟩ (.int .i64 (-1))).setCell ⟨Hh, 8, none⟩ (.int .i64 OA)).setCell ⟨Hh, 9, none⟩ (.int .i64 LA))
  have Ht : Hid (Blk wP Hh (.cells #[.int .i64 K, .int .i64 D, .int .i64 A, .int .i64 B0, .int .i64 N, .bool Lg, .int .i64 (-1), .int .i64 (-1), .int .i64 OA, .int .i64 LA] 66)) := jH (by rw [Hx]; exact blk_put10 H3.out _ _ _ _ _ _ _ _ _ _)
  have HR : Hid (Keeps wr wP) := jH (by rw [Hx]; exact (Keeps.setCell (Keeps.setCell (Keeps.setCell (Keeps.setCell (Keeps.setCell (Keeps.setCell (Keeps.setCell (Keeps.setCell (Keeps.setCell (Keeps.setCell Kq.out (Nat.le_of_eq H5.out.symm) _) (Nat.le_of_eq H5.out.symm) _) (Nat.le_of_eq H5.out.symm) _) (Nat.le_of_eq H5.out.symm) _) (Nat.le_of_eq H5.out.symm) _) (Nat.le_of_eq H5.out.symm) _) (Nat.le_of_eq H5.out.symm) _) (Nat.le_of_eq H5.out.symm) _) (Nat.le_of_eq H5.out.symm) _) (Nat.le_of_eq H5.out.symm) _))
  rw [← Hx]
  clear Hx u0 u1 u2 u3 u4 u5 u6 u7 u8 u9 v0 v1 v2 v3 v4 v5 v6 v7 v8 v9 vl
  have z0 := Ht.out.cell (j := 0) rfl
  go_upto_if 45 with fail
  clear z0
  go_cut [] (fun wx => Hid (Keeps wr wx) ∧ Hid (Blk wx Hh (.cells #[.int .i64 K, .int .i64 D, .int .i64 A, .int .i64 B0, .int .i64 N, .bool Lg, .int .i64 (-1), .int .i64 FN, .int .i64 OA, .int .i64 LA] 66)))
  case first =>
   have z4 := Ht.out.cell (j := 4) rfl
   have z7 := Ht.out.cell (j := 7) rfl
   have z7f := Ht.out.thawed 7
   have z7l := Ht.out.lt
   by_cases hK : K = 23
   case pos =>
    have KF : Hid (FN = N) := jH (by rw [Mf.out, if_pos hK])
    subst hK
    go_wp2_with fail
    go_meet
    case rel => exact ⟨jH (Keeps.setCell HR.out (Nat.le_of_eq H5.out.symm) _), jH (by rw [KF.out]; exact Blk.set Ht.out 7 (.int .i64 N))⟩
   case neg =>
   have hKb : (K == 23) = false := by simpa using hK
   have KF : Hid (FN = -1) := jH (by rw [Mf.out, if_neg hK])
   clear hK
   go_wp2_with fail
   go_meet
   case rel => exact ⟨HR, jH (by rw [KF.out]; exact Ht.out)⟩
  case rest =>
  obtain ⟨KG, Kc⟩ := hcut
  obtain ⟨e0, e1, e2, e3, e4, e5⟩ := Kc.out.k6
  have e6 := Kc.out.cell (j := 6) rfl
  have e7 := Kc.out.cell (j := 7) rfl
  have e8 := Kc.out.cell (j := 8) rfl
  have e9 := Kc.out.cell (j := 9) rfl
  have MD := jH (HO.out.keep KG.out)
  have ME : Hid (B ≤ wc.heap.size) := jH (Nat.le_trans KD.out KG.out.size)
  go_wp2_with (at_builtin; refine wpList_pushes jr (.tmp 50) (.tmp 52) 60 jr Tryd.underlying60 info_piece jr jd (base := B) (f := cpc) (l := (List.range k).map fun k => pcO (cIt BB k)) jr (by exact MD.out.keep ku5) [(⟨⟨K, D, A, B0, N, Lg⟩, -1, FN, OA, LA⟩ : It)] _ _ jr jt cpc_len cpc_one (by rw [H4.out]; simp only [jL]; omega) (by rw [H4.out]; simp only [jL]; unfold maxLen; omega) (by have := ME.out; first | omega | (simp only [sz_alloc, sz_drew]; omega)) ?_; intro v7 w7 H1 H2 Hb He; obtain ⟨KH, KI, e7⟩ := own_form' H1; rw [List.length_append, H4.out, List.length_singleton] at e7; subst e7; have Kr := jH H1; have Kd := jH (Keeps.trans' ((HK.out.trans KG.out).trans (show Keeps wc _ from ku5)) H2 (Nat.le_of_eq HJ.out.symm)); clear H1 H2 Hb He)
  go_roundw
  case rel => exact ⟨k + 1, KH, KI, Me.out, by go_num, rfl, Kd, jH (by rw [List.range_succ, List.map_append, List.map_cons, List.map_nil, MB.out]; exact Kr.out)⟩
  case measure => have Ka := Me.out; simp [intOf]; omega
 case neg =>
 obtain rfl : k = CN := by omega
 have lq := Kz.out k jo
 obtain ⟨LA, HM⟩ := jE (nth K5 k)
 rw [← HM] at lq
 have MA : k ≤ 100000 := g6
 have MC : (k : Int) < (LN : Int) := by omega
 obtain ⟨R0, KJ⟩ := jE ((List.range k).map fun k => pcO (cIt BB k))
 rw [← KJ] at HO H4
 have Mj : (bIts BB nx).map pcO = R0 ++ (tIt BB nx).map pcO := by unfold bIts; (rw [List.map_append, List.map_map, show BB.Code.length = k by rw [K6.out]; exact KA.out.symm, KJ]); rfl
 have Mk := jH Mj
 have MF : Hid (w.heap.size ≤ B) := jH (by rw [HJ.out]; exact KB.out.size)
 have Hm : Hid (∀ (T : List It) (n : Nat) (a' : Option Addr) (cp' : Nat) (w' : World), (tIt BB nx).map pcO = T → n = k + T.length → Own w' B 66 10 cpc (.slice a' n cp') (R0 ++ T) → Keeps W w' → ∃ a cp, (Ending.returned (.slice a' n cp') : Ending) = .returned (.slice a (bIts BB nx).length cp) ∧ Own w' w.heap.size 66 10 cpc (.slice a (bIts BB nx).length cp) ((bIts BB nx).map pcO) ∧ Keeps w w') := jH fun T n a' cp' w' hT hn ho hk => by
  have e : (bIts BB nx).length = n := by rw [← List.length_map (f := pcO), Mk.out, hT, List.length_append, H4.out, hn]
  refine ⟨a', cp', by rw [e], ?_, KB.out.trans hk⟩
  rw [e, Mk.out, hT]
  exact ho.mono MF.out
 have HY := H7.out.cell (j := 10) rfl
 have HN := H7.out.cell (j := 13) rfl
 have hl := Hl.cell lq
 obtain ⟨Hf, Hn⟩ := jE (wr.heap.size)
 obtain ⟨wq, Ks⟩ := jE (wr.alloc (.cells #[.int .i64 22, .int .i64 0, .int .i64 0, .int .i64 0, .int .i64 0, .bool false, .int .i64 0, .int .i64 (-1), .int .i64 (-1), .int .i64 LA] 66))
 have Ho : Hid (Blk wq Hf (.cells #[.int .i64 22, .int .i64 0, .int .i64 0, .int .i64 0, .int .i64 0, .bool false, .int .i64 0, .int .i64 (-1), .int .i64 (-1), .int .i64 LA] 66)) := jH (by rw [Ks]; exact Blk.top' _ _ Hn)
 have Hc : Hid (Keeps wr wq) := jH (by rw [Ks]; exact (Keeps.refl _).alloc _)
 have Hi : Hid (wr.heap.size ≤ Hf) := jH (Nat.le_of_eq Hn.symm)
 have MG : Hid (∀ g, (Value.slice a k cp).ownBlock = some g → g < Hf) := jH fun g hg => by rw [Hn]; exact own_lt' HO.out hg
 have HS := jH HM
 have Kt := HK
 have he : bE = 1 ∨ bE = 4 ∨ (bE = 2 ∨ bE = 3) := by omega
 clear Ka hk Mj HM KJ lq g1 g2 g3 g4 g5 g6
 go_upto_region 12 with fail
 rw [← Ks, ← Hn]
 clear Ks Hn y2 HY HN hl
 have HY := (H7.out.keep Hc.out).cell (j := 10) rfl
 rcases he with rfl | rfl | he
 ·have HT : Hid ((tIt BB nx).map pcO = []) := jH (by rw [K6.out]; rfl)
  go_wp2_with fail
  go_ret
  exact Hm.out [] k a cp _ HT.out rfl (by rw [List.append_nil]; exact HO.out.keep Hc.out) (Kt.out.trans Hc.out)
 ·have Ke : k < AN := HG.out.2.2.1 (Or.inr rfl)
  obtain ⟨ab, af, rfl, aq⟩ := Ky.out k Ke
  obtain ⟨OA, HL⟩ := jE (nth bA k)
  rw [← HL] at aq
  have Mg : (k : Int) < (AN : Int) := by omega
  have ha := Hc.out.cell (KC.out.cell aq)
  have KK := Kz.out k jo
  rw [← HS.out] at KK
  have hl := Hc.out.cell (KC.out.cell KK)
  clear KK
  have HT : Hid (tIt BB nx = if bT = nx ∧ ¬ bL = nx then [⟨⟨oppK lK, lD, lA, lB, lN, H9⟩, bL, -1, OA, LA⟩] else (⟨⟨lK, lD, lA, lB, lN, H9⟩, bT, -1, OA, LA⟩ : It) :: (if bL = nx then [] else [⟨jI, bL, -1, -1, LA⟩])) := jH (by rw [K6.out]; unfold tIt; dsimp only; rw [if_neg jd, if_neg jd, if_pos rfl, ← KA.out, ← HS.out, ← HL])
  have HF := HG.out.2.2.2.2.1 rfl
  have KL := jH HF
  have y3 := (H7.out.keep Hc.out).cell (j := 3) rfl
  have y4 := (H7.out.keep Hc.out).cell (j := 4) rfl
  have y5 := (H7.out.keep Hc.out).cell (j := 5) rfl
  have y6 := (H7.out.keep Hc.out).cell (j := 6) rfl
  have y7 := (H7.out.keep Hc.out).cell (j := 7) rfl
  have y8 := (H7.out.keep Hc.out).cell (j := 8) rfl
  have y9 := (H7.out.keep Hc.out).cell (j := 9) rfl
  have HH := (H7.out.keep Hc.out).cell (j := 11) rfl
  have HN := (H7.out.keep Hc.out).cell (j := 13) rfl
  obtain ⟨H8, Hy⟩ := jE (wq.heap.size)
  obtain ⟨wA, Hw⟩ := jE ((wq.alloc (.cells #[.int .i64 0, .int .i64 0, .int .i64 0, .int .i64 0, .int .i64 0, .bool false, .int .i64 0, .int .i64 0, .int .i64 0, .int .i64 0] 66)).drew)
  have H3 : Hid (Blk wA H8 (.cells #[.int .i64 0, .int .i64 0, .int .i64 0, .int .i64 0, .int .i64 0, .bool false, .int .i64 0, .int .i64 0, .int .i64 0, .int .i64 0] 66)) := jH (by rw [Hw]; exact (Blk.top' _ _ Hy).keep ((Keeps.refl _).drew))
  have Kq : Hid (Keeps wq wA) := jH (by rw [Hw]; exact ((Keeps.refl _).alloc _).drew)
  obtain ⟨Kb, H6⟩ := hid2 Hw Hy
  have HZ : Hid (Hf < H8) := jH (by rw [Hy]; exact Ho.out.lt)
  clear Hw Hy aq HL Ke HF
  go_upto_region 21 with fail
  refine wp_region_head_tail (S := Cells [(b7, 3, .slice (some ⟨ab, af, none⟩) AN K7), (b7, 4, .int .i64 lK), (b7, 5, .int .i64 lD), (b7, 6, .int .i64 lA), (b7, 7, .int .i64 lB), (b7, 8, .int .i64 lN), (b7, 9, .bool H9), (b7, 11, .int .i64 bT), (b7, 13, .slice (some ⟨lb, Hv, none⟩) LN K8), (ab, af + k, .int .i64 OA), (lb, Hv + k, .int .i64 LA)]) 16 0 (v := .pointer (some ⟨b7, 4, none⟩)) jx rfl jx jx jx jd (fun _ _ _ h => h) (Or.inl ⟨by rfl, fun w => by rfl⟩) jx jx jx jd jx ?hS2 (fun H0 => ?_)
  case hS2 => exact ⟨y3, y4, y5, y6, y7, y8, y9, HH, HN, ha, hl, trivial⟩
  simp only [jU, jG]
  try simp only [Act.put, jS]
  refine jp 1 H0 ?_
  refine jp 2 H0 ?_
  refine jp 3 H0 ?_
  refine jp 4 H0 ?_
  refine jp 5 H0 ?_
  refine jp 6 H0 ?_
  refine jp 7 H0 ?_
  refine jp 8 H0 ?_
  refine jp 9 H0 ?_
  refine jp 10 H0 ?_
  refine jp 11 H0 ?_
  refine jp 12 H0 ?_
  refine jp 13 H0 ?_
  refine jp 14 H0 ?_
  refine readyC 15 ?_
  intro K hK
  go_simp
  refine goOn hK (Cells.keep H0 ((Keeps.refl _).alloc _)) ?_
  clear hK K H0
  intro H0
  refine wpAnyH_done jx ?_ _
  dsimp only [TailQ]
  clear H0 y3 y4 y5 y6 y7 y8 y9 HY HH HN ha hl
  rw [← Kb.out, ← H6.out]
  clear Kb
  obtain ⟨u0, u1, u2, u3, u4, u5⟩ := H3.out.k6
  have u6 := H3.out.cell (j := 6) rfl
  have u7 := H3.out.cell (j := 7) rfl
  have u8 := H3.out.cell (j := 8) rfl
  have u9 := H3.out.cell (j := 9) rfl
  obtain ⟨v0, v1, v2, v3, v4, v5⟩ := H3.out.t6
  have v6 := H3.out.thawed 6
  have v7 := H3.out.thawed 7
  have v8 := H3.out.thawed 8
  have v9 := H3.out.thawed 9
  have vl := H3.out.lt
  go_upto_region 22 with fail
  obtain ⟨wP, Hx⟩ := jE ((((((((((wA.setCell ⟨H8, 0, none⟩ (.int .i64 lK)).setCell ⟨H8, 1, none⟩ (.int .i64 lD)).setCell ⟨H8, 2, none⟩ (.int .i64 lA)).setCell ⟨H8, 3, none⟩ (.int .i64 lB)).setCell ⟨H8, 4, none⟩ (.int .i64 lN)).setCell ⟨H8, 5, none⟩ (.bool H9)).setCell ⟨H8, 6, none⟩ (.int .i64 bT)).setCell ⟨H8, 7, none⟩ (.int .i64 (-1))).setCell ⟨H8, 8, none⟩ (.int .i64 OA)).setCell ⟨H8, 9, none⟩ (.int .i64 LA))
  have Ht : Hid (Blk wP H8 (.cells #[.int .i64 lK, .int .i64 lD, .int .i64 lA, .int .i64 lB, .int .i64 lN, .bool H9, .int .i64 bT, .int .i64 (-1), .int .i64 OA, .int .i64 LA] 66)) := jH (by rw [Hx]; exact blk_put10 H3.out _ _ _ _ _ _ _ _ _ _)
  have HR : Hid (Keeps wq wP) := jH (by rw [Hx]; exact (Keeps.setCell (Keeps.setCell (Keeps.setCell (Keeps.setCell (Keeps.setCell (Keeps.setCell (Keeps.setCell (Keeps.setCell (Keeps.setCell (Keeps.setCell Kq.out (Nat.le_of_eq H6.out.symm) _) (Nat.le_of_eq H6.out.symm) _) (Nat.le_of_eq H6.out.symm) _) (Nat.le_of_eq H6.out.symm) _) (Nat.le_of_eq H6.out.symm) _) (Nat.le_of_eq H6.out.symm) _) (Nat.le_of_eq H6.out.symm) _) (Nat.le_of_eq H6.out.symm) _) (Nat.le_of_eq H6.out.symm) _) (Nat.le_of_eq H6.out.symm) _))
  rw [← Hx]
  clear Hx u0 v0 u1 v1 u2 v2 u3 v3 u4 v4 u5 v5 u6 v6 u7 v7 u8 v8 u9 v9 vl
  obtain ⟨Hp, Kf⟩ := hid2 (Ho.out.keep HR.out) (H7.out.keep (Hc.out.trans HR.out))
  have K0 := Kf.out.cell (j := 12) rfl
  have j6 := Hp.out.cell (j := 6) rfl
  have Ku := Hp.out.thawed 6
  have jl := Hp.out.lt
  go_upto_region 23 with fail
  obtain ⟨wS, Kg⟩ := jE (wP.setCell ⟨Hf, 6, none⟩ (.int .i64 bL))
  have Hd : Hid (Blk wS Hf (.cells #[.int .i64 22, .int .i64 0, .int .i64 0, .int .i64 0, .int .i64 0, .bool false, .int .i64 bL, .int .i64 (-1), .int .i64 (-1), .int .i64 LA] 66)) := jH (by rw [Kg]; exact Blk.set Hp.out 6 (.int .i64 bL))
  have KM : Hid (Keeps wr wS) := jH (by rw [Kg]; exact Keeps.setCell (Hc.out.trans HR.out) Hi.out _)
  have Kh : Hid (Blk wS H8 (.cells #[.int .i64 lK, .int .i64 lD, .int .i64 lA, .int .i64 lB, .int .i64 lN, .bool H9, .int .i64 bT, .int .i64 (-1), .int .i64 OA, .int .i64 LA] 66)) := jH (by rw [Kg]; exact Blk.grown Ht.out (grown_setCell wP Hf 6 _) (by have := HZ.out; simp; omega))
  rw [← Kg]
  clear Kg K0 j6 Ku jl
  have Hj := jH (H7.out.keep KM.out)
  have HH := Hj.out.cell (j := 11) rfl
  have K0 := Hj.out.cell (j := 12) rfl
  obtain ⟨PK, KN⟩ : ∃ z : Int, z = if bT = nx ∧ ¬ bL = nx then oppK lK else lK := ⟨_, rfl⟩
  obtain ⟨PB, KO⟩ : ∃ z : Int, z = if bT = nx ∧ ¬ bL = nx then bL else bT := ⟨_, rfl⟩
  obtain ⟨JT, KP⟩ : ∃ z : Int, z = if bT = nx ∧ ¬ bL = nx then bT else bL := ⟨_, rfl⟩
  obtain ⟨Ml, Mm, Mn⟩ := hid3 KN KO KP
  have Mo : Hid ((tIt BB nx).map pcO = (⟨⟨PK, lD, lA, lB, lN, H9⟩, PB, -1, OA, LA⟩ : It) :: (if JT = nx then [] else [⟨jI, JT, -1, -1, LA⟩])) := jH (by
   have hl := KL.out
   have ho : oppK lK ≠ 23 := by unfold oppK; split <;> (try split) <;> (try split) <;> decide
   rw [HT.out, KN, KO, KP]
   by_cases h : bT = nx ∧ ¬ bL = nx
   ·rw [if_pos h, if_pos h, if_pos h, if_pos h, if_pos h.1, List.map_cons, List.map_nil]
    unfold pcO
    rw [if_neg ho]
   rw [if_neg h, if_neg h, if_neg h, if_neg h, List.map_cons]
   have e1 : pcO (⟨⟨lK, lD, lA, lB, lN, H9⟩, bT, -1, OA, LA⟩ : It) = ⟨⟨lK, lD, lA, lB, lN, H9⟩, bT, -1, OA, LA⟩ := if_neg (show ¬ lK = 23 by omega)
   rw [e1]
   by_cases q : bL = nx
   ·rw [if_pos q, List.map_nil]
   rw [if_neg q, List.map_cons, List.map_nil]; rfl)
  clear KN KO KP HT
  obtain ⟨Q, hQ⟩ : ∃ z : Bool, z = decide (bT = nx ∧ ¬ bL = nx) := ⟨_, rfl⟩
  have HQ := jH hQ
  clear hQ HH K0
  go_cut [118] (fun s118 wx => s118 = .bool Q ∧ Hid (Keeps wS wx))
  case first =>
   have HH := Hj.out.cell (j := 11) rfl
   have K0 := Hj.out.cell (j := 12) rfl
   by_cases hq : bT = nx
   case pos =>
    have t1 : (bT == nx) = true := by simpa using hq
    by_cases hp : bL = nx
    case pos =>
     have t2 : (bL != nx) = false := by simpa using hp
     have t3 : (bL == nx) = true := by simpa using hp
     obtain rfl : Q = false := by rw [HQ.out]; exact decide_eq_false (fun z => z.2 hp)
     clear hq hp
     go_wp2_with fail
     go_meet
     case rel => exact ⟨rfl, jH (Keeps.refl _)⟩
    case neg =>
    have t2 : (bL != nx) = true := by simpa using hp
    have t3 : (bL == nx) = false := by simpa using hp
    obtain rfl : Q = true := by rw [HQ.out]; exact decide_eq_true ⟨hq, hp⟩
    clear hq hp
    go_wp2_with fail
    go_meet
    case rel => exact ⟨rfl, jH (Keeps.refl _)⟩
   case neg =>
   have t1 : (bT == nx) = false := by simpa using hq
   obtain rfl : Q = false := by rw [HQ.out]; exact decide_eq_false (fun z => hq z.1)
   clear hq
   go_wp2_with fail
   go_meet
   case rel => exact ⟨rfl, jH (Keeps.refl _)⟩
  case rest =>
  obtain ⟨rfl, Ki⟩ := hcut
  obtain ⟨Hz, Hg, HA, HU⟩ := hid4 (KM.out.trans Ki.out) (Kh.out.keep Ki.out) (Hd.out.keep Ki.out) (Hj.out.keep Ki.out)
  clear KM Kh Hd Hj Ki
  obtain ⟨wT, KQ⟩ := jE wc
  subst KQ
  go_upto_if 118 with fail
  go_cut [] (fun wx => Hid (Keeps wr wx) ∧ Hid (Blk wx H8 (.cells #[.int .i64 PK, .int .i64 lD, .int .i64 lA, .int .i64 lB, .int .i64 lN, .bool H9, .int .i64 PB, .int .i64 (-1), .int .i64 OA, .int .i64 LA] 66)) ∧ Hid (Blk wx Hf (.cells #[.int .i64 22, .int .i64 0, .int .i64 0, .int .i64 0, .int .i64 0, .bool false, .int .i64 JT, .int .i64 (-1), .int .i64 (-1), .int .i64 LA] 66)))
  case first =>
   cases hq : Q with
   | false =>
    have HC : Hid (PK = lK ∧ PB = bT ∧ JT = bL) := jH (by have z := of_decide_eq_false (HQ.out.symm.trans hq); rw [Ml.out, Mm.out, Mn.out, if_neg z, if_neg z, if_neg z]; exact ⟨rfl, rfl, rfl⟩)
    clear hq
    go_wp2_with fail
    go_meet
    case rel => obtain ⟨c1, c2, c3⟩ := HC.out; subst c1 c2 c3; exact ⟨Hz, Hg, HA⟩
   | true =>
    have HC : Hid (PK = oppK lK ∧ PB = bL ∧ JT = bT) := jH (by have z := of_decide_eq_true (HQ.out.symm.trans hq); rw [Ml.out, Mm.out, Mn.out, if_pos z, if_pos z, if_pos z]; exact ⟨rfl, rfl, rfl⟩)
    clear hq
    have Mp := jH (fun w => otherBranch_any lK w KL.out.1 KL.out.2)
    obtain ⟨OK, Mq⟩ := jE (oppK lK)
    rw [← Mq] at Mp HC
    have y4 := HU.out.cell (j := 4) rfl
    have p0 := Hg.out.cell (j := 0) rfl
    have MH := Hg.out.thawed 0
    have MI := Hg.out.lt
    clear Mq
    go_upto_region 25 with (go_at_call 43; refine (Mp.out _).mono ?_; rintro e wa ⟨rfl, rfl⟩)
    obtain ⟨w1, Hu⟩ := jE (wT.setCell ⟨H8, 0, none⟩ (.int .i64 OK))
    have HB : Hid (Keeps wr w1) := jH (by rw [Hu]; exact Keeps.setCell Hz.out (by have := HZ.out; have := Hi.out; dsimp only; omega) _)
    have Kj : Hid (Blk w1 H8 (.cells #[.int .i64 OK, .int .i64 lD, .int .i64 lA, .int .i64 lB, .int .i64 lN, .bool H9, .int .i64 bT, .int .i64 (-1), .int .i64 OA, .int .i64 LA] 66)) := jH (by rw [Hu]; exact Blk.set Hg.out 0 (.int .i64 OK))
    have HD : Hid (Blk w1 Hf (.cells #[.int .i64 22, .int .i64 0, .int .i64 0, .int .i64 0, .int .i64 0, .bool false, .int .i64 bL, .int .i64 (-1), .int .i64 (-1), .int .i64 LA] 66)) := jH (by rw [Hu]; exact Blk.grown HA.out (grown_setCell wT H8 0 _) (by have := HZ.out; simp; omega))
    rw [← Hu]
    clear Hu y4 p0 MH MI Hg HA HU Hz
    have K1 := jH (H7.out.keep HB.out)
    have K0 := K1.out.cell (j := 12) rfl
    have p6 := Kj.out.cell (j := 6) rfl
    have MJ := Kj.out.thawed 6
    have MK := Kj.out.lt
    go_upto_region 26 with fail
    obtain ⟨w2, Kk⟩ := jE (w1.setCell ⟨H8, 6, none⟩ (.int .i64 bL))
    have Mr : Hid (Keeps wr w2) := jH (by rw [Kk]; exact Keeps.setCell HB.out (by have := HZ.out; have := Hi.out; dsimp only; omega) _)
    have ML : Hid (Blk w2 H8 (.cells #[.int .i64 OK, .int .i64 lD, .int .i64 lA, .int .i64 lB, .int .i64 lN, .bool H9, .int .i64 bL, .int .i64 (-1), .int .i64 OA, .int .i64 LA] 66)) := jH (by rw [Kk]; exact Blk.set Kj.out 6 (.int .i64 bL))
    have Kv : Hid (Blk w2 Hf (.cells #[.int .i64 22, .int .i64 0, .int .i64 0, .int .i64 0, .int .i64 0, .bool false, .int .i64 bL, .int .i64 (-1), .int .i64 (-1), .int .i64 LA] 66)) := jH (by rw [Kk]; exact Blk.grown HD.out (grown_setCell w1 H8 6 _) (by have := HZ.out; simp; omega))
    rw [← Kk]
    clear Kk K0 p6 MJ MK K1 HB Kj HD
    have MM := jH (H7.out.keep Mr.out)
    have HH := MM.out.cell (j := 11) rfl
    have j6 := Kv.out.cell (j := 6) rfl
    have Ku := Kv.out.thawed 6
    have j6l := Kv.out.lt
    go_wp2_with fail
    go_meet
    case rel =>
    obtain ⟨c1, c2, c3⟩ := HC.out
    subst c1 c2 c3
    exact ⟨jH (Keeps.setCell Mr.out Hi.out _), jH (Blk.grown ML.out (grown_setCell w2 Hf 6 _) (by have := HZ.out; simp; omega)), jH (Blk.set Kv.out 6 (.int .i64 JT))⟩
  case rest =>
  obtain ⟨K2, Hq, KR⟩ := hcut
  clear Ho H3 Kq Ht HR Hp Kf Hz Hg HA HU
  obtain ⟨e0, e1, e2, e3, e4, e5⟩ := Hq.out.k6
  have e6 := Hq.out.cell (j := 6) rfl
  have e7 := Hq.out.cell (j := 7) rfl
  have e8 := Hq.out.cell (j := 8) rfl
  have e9 := Hq.out.cell (j := 9) rfl
  have KS := jH (HO.out.keep K2.out)
  have KT : Hid (B ≤ wc.heap.size) := jH (Nat.le_trans KD.out K2.out.size)
  go_upto_region 28 with (at_builtin; refine wpList_pushes jr (.tmp 131) (.tmp 133) 60 jr Tryd.underlying60 info_piece jr jd (base := B) (f := cpc) (l := R0) jr (by exact KS.out.keep ku5) [(⟨⟨PK, lD, lA, lB, lN, H9⟩, PB, -1, OA, LA⟩ : It)] _ _ jr jt cpc_len cpc_one (by rw [H4.out]; simp only [jL]; omega) (by rw [H4.out]; simp only [jL]; unfold maxLen; omega) (by have := KT.out; first | omega | (simp only [sz_alloc, sz_drew]; omega)) ?_; intro v7 w7 H1 H2 Hb He; obtain ⟨KH, KI, e7⟩ := own_form' H1; rw [List.length_append, H4.out, List.length_singleton] at e7; subst e7; have Kr := jH H1; have Kd := jH (Keeps.trans' ((Kt.out.trans K2.out).trans (show Keeps wc _ from ku5)) H2 (Nat.le_of_eq HJ.out.symm)); have Hk := jH (Blk.grown (KR.out.keep ku5) Hb (by intro e; have := MG.out Hf e.symm; omega)); clear H1 H2 Hb He)
  clear e0 e1 e2 e3 e4 e5 e6 e7 e8 e9
  have j6 := Hk.out.cell (j := 6) rfl
  by_cases hj : JT = nx
  case pos =>
   have t3 : (JT != nx) = false := by simpa using hj
   have HV : Hid ((tIt BB nx).map pcO = [(⟨⟨PK, lD, lA, lB, lN, H9⟩, PB, -1, OA, LA⟩ : It)]) := jH (by rw [Mo.out, if_pos hj])
   clear hj
   go_wp2_with fail
   go_ret
   exact Hm.out _ (k + 1) KH KI _ HV.out rfl Kr.out Kd.out
  case neg =>
  have t3 : (JT != nx) = true := by simpa using hj
  have HV : Hid ((tIt BB nx).map pcO = [(⟨⟨PK, lD, lA, lB, lN, H9⟩, PB, -1, OA, LA⟩ : It), ⟨jI, JT, -1, -1, LA⟩]) := jH (by rw [Mo.out, if_neg hj])
  have Hr : Hid ((R0 ++ [(⟨⟨PK, lD, lA, lB, lN, H9⟩, PB, -1, OA, LA⟩ : It)]).length = k + 1) := jH (by rw [List.length_append, H4.out]; rfl)
  have KU : Hid (B ≤ w7.heap.size) := jH (by rw [HJ.out]; exact Kd.out.size)
  clear hj j6
  obtain ⟨e0, e1, e2, e3, e4, e5⟩ := Hk.out.k6
  have e6 := Hk.out.cell (j := 6) rfl
  have e7 := Hk.out.cell (j := 7) rfl
  have e8 := Hk.out.cell (j := 8) rfl
  have e9 := Hk.out.cell (j := 9) rfl
  go_wp2_with (at_builtin; refine wpList_pushes jr (.tmp 139) (.tmp 141) 60 jr Tryd.underlying60 info_piece jr jd (base := B) (f := cpc) (l := R0 ++ [(⟨⟨PK, lD, lA, lB, lN, H9⟩, PB, -1, OA, LA⟩ : It)]) jr (by exact Kr.out.keep ku5) [(⟨jI, JT, -1, -1, LA⟩ : It)] _ _ jr jt cpc_len cpc_one (by rw [Hr.out]; simp only [jL]; omega) (by rw [Hr.out]; simp only [jL]; unfold maxLen; omega) (by have := KU.out; first | omega | (simp only [sz_alloc, sz_drew]; omega)) ?_; intro v8 w8 H1 H2 Hb He; obtain ⟨KV, KW, Kl⟩ := own_form' H1; rw [List.length_append, Hr.out, List.length_singleton] at Kl; subst Kl; have KX := jH H1; have KY := jH (Keeps.trans' ((Kd.out).trans (show Keeps w7 _ from ku5)) H2 (Nat.le_of_eq HJ.out.symm)); clear H1 H2 Hb He)
  go_ret
  exact Hm.out _ (k + 1 + 1) KV KW _ HV.out rfl (by have z := KX.out; rw [List.append_assoc] at z; exact z) KY.out
 have HE := jH he
 go_upto_if 66 with fail
 clear HY
 go_cut [66] (fun s66 wx => s66 = .bool true ∧ Hid (Keeps wq wx))
 case first =>
  rcases he with rfl | rfl
  ·go_wp2_with fail
   go_meet
   case rel => exact ⟨rfl, jH (Keeps.refl _)⟩
  go_wp2_with fail
  go_meet
  case rel => exact ⟨rfl, jH (Keeps.refl _)⟩
 case rest =>
 obtain ⟨rfl, K2⟩ := hcut
 clear he
 obtain ⟨Hs, Hp⟩ := hid2 (Hc.out.trans K2.out) (Ho.out.keep K2.out)
 have Kf := jH (H7.out.keep Hs.out)
 obtain ⟨OJ, Ms⟩ : ∃ z : Int, z = if bE = 3 then nth bA k else -1 := ⟨_, rfl⟩
 have KZ := jH Ms
 have HT : Hid ((tIt BB nx).map pcO = if bT = nx then [] else [⟨jI, bT, -1, OJ, LA⟩]) := jH (by
  rw [K6.out]
  unfold tIt
  dsimp only
  rw [KZ.out, ← KA.out, ← HS.out]
  rcases HE.out with q | q
  ·rw [if_pos q, if_neg (show ¬ bE = 3 by omega)]
   by_cases z : bT = nx
   ·rw [if_pos z]; rfl
   rw [if_neg z]; rfl
  rw [if_neg (show ¬ bE = 2 by omega), if_pos q, if_pos q]
  by_cases z : bT = nx
  ·rw [if_pos z]; rfl
  rw [if_neg z]; rfl)
 clear Ms
 obtain ⟨wT, KQ⟩ := jE wc
 subst KQ
 have HH := Kf.out.cell (j := 11) rfl
 by_cases hq : bT = nx
 case pos =>
  have t1 : (bT != nx) = false := by simpa using hq
  have HV : Hid ((tIt BB nx).map pcO = []) := jH (by rw [HT.out, if_pos hq])
  clear hq
  go_wp2_with fail
  go_ret
  exact Hm.out [] k a cp _ HV.out rfl (by rw [List.append_nil]; exact HO.out.keep Hs.out) (Kt.out.trans Hs.out)
 case neg =>
 have t1 : (bT != nx) = true := by simpa using hq
 have HV : Hid ((tIt BB nx).map pcO = [⟨jI, bT, -1, OJ, LA⟩]) := jH (by rw [HT.out, if_neg hq])
 have j6 := Hp.out.cell (j := 6) rfl
 have Ku := Hp.out.thawed 6
 have jl := Hp.out.lt
 clear hq
 go_upto_region 17 with fail
 obtain ⟨w1, Hu⟩ := jE (wT.setCell ⟨Hf, 6, none⟩ (.int .i64 bT))
 have HB : Hid (Keeps wr w1) := jH (by rw [Hu]; exact Keeps.setCell Hs.out Hi.out _)
 have HD : Hid (Blk w1 Hf (.cells #[.int .i64 22, .int .i64 0, .int .i64 0, .int .i64 0, .int .i64 0, .bool false, .int .i64 bT, .int .i64 (-1), .int .i64 (-1), .int .i64 LA] 66)) := jH (by rw [Hu]; exact Blk.set Hp.out 6 (.int .i64 bT))
 rw [← Hu]
 clear Hu HH j6 Ku jl Kf Hp Hs
 have K1 := jH (H7.out.keep HB.out)
 have HY := K1.out.cell (j := 10) rfl
 go_upto_if 78 with fail
 clear HY
 go_cut [] (fun wx => Hid (Keeps wr wx) ∧ Hid (Blk wx Hf (.cells #[.int .i64 22, .int .i64 0, .int .i64 0, .int .i64 0, .int .i64 0, .bool false, .int .i64 bT, .int .i64 (-1), .int .i64 OJ, .int .i64 LA] 66)))
 case first =>
  rcases HE.out with q | q
  ·have HC : Hid (OJ = -1) := jH (by rw [KZ.out, if_neg jo])
   have t2 : (bE == 3) = false := by rw [q]; rfl
   clear q
   go_wp2_with fail
   go_meet
   case rel => exact ⟨HB, jH (by rw [HC.out]; exact HD.out)⟩
  have Ke : k < AN := HG.out.2.2.1 (Or.inl q)
  have HC : Hid (OJ = nth bA k) := jH (by rw [KZ.out, if_pos q])
  obtain ⟨ab, af, rfl, aq⟩ := Ky.out k Ke
  rw [← HC.out] at aq
  have Mg : (k : Int) < (AN : Int) := by omega
  have t2 : (bE == 3) = true := by rw [q]; rfl
  have ha := HB.out.cell (KC.out.cell aq)
  have y3 := K1.out.cell (j := 3) rfl
  have j8 := HD.out.cell (j := 8) rfl
  have j8f := HD.out.thawed 8
  have jl := HD.out.lt
  clear q Ke aq
  go_wp2_with fail
  go_meet
  case rel => exact ⟨jH (Keeps.setCell HB.out Hi.out _), jH (Blk.set HD.out 8 (.int .i64 OJ))⟩
 case rest =>
 obtain ⟨HX, Hd⟩ := hcut
 clear Ho HD K1 HB
 obtain ⟨e0, e1, e2, e3, e4, e5⟩ := Hd.out.k6
 have e6 := Hd.out.cell (j := 6) rfl
 have e7 := Hd.out.cell (j := 7) rfl
 have e8 := Hd.out.cell (j := 8) rfl
 have e9 := Hd.out.cell (j := 9) rfl
 have KS := jH (HO.out.keep HX.out)
 have KT : Hid (B ≤ wc.heap.size) := jH (Nat.le_trans KD.out HX.out.size)
 go_wp2_with (at_builtin; refine wpList_pushes jr (.tmp 85) (.tmp 87) 60 jr Tryd.underlying60 info_piece jr jd (base := B) (f := cpc) (l := R0) jr (by exact KS.out.keep ku5) [(⟨jI, bT, -1, OJ, LA⟩ : It)] _ _ jr jt cpc_len cpc_one (by rw [H4.out]; simp only [jL]; omega) (by rw [H4.out]; simp only [jL]; unfold maxLen; omega) (by have := KT.out; first | omega | (simp only [sz_alloc, sz_drew]; omega)) ?_; intro v8 w8 H1 H2 Hb He; obtain ⟨KV, KW, Kl⟩ := own_form' H1; rw [List.length_append, H4.out, List.length_singleton] at Kl; subst Kl; have KX := jH H1; have KY := jH (Keeps.trans' ((Kt.out.trans HX.out).trans (show Keeps wc _ from ku5)) H2 (Nat.le_of_eq HJ.out.symm)); clear H1 H2 Hb He)
 go_ret
 exact Hm.out _ (k + 1) KV KW _ HV.out rfl KX.out KY.out
end Go.Proofs.YtgdamggkaklhjaaDoor
