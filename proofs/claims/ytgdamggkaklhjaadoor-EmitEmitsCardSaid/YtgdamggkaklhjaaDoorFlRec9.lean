/-
flow.Recover: the blocks of a program, or that it can't be f
-/
import Derived.Test.YtgdamggkaklhjaaDoorFlRec6
import Derived.Test.YtgdamggkaklhjaaDoorFlRec8
set_option linter.all false
namespace Go.Proofs.YtgdamggkaklhjaaDoor
open Go.RowKit BH
set_option maxHeartbeats 1000000000
set_option maxRecDepth 100000
theorem info_spots : (Tryd.prog.info? 81).map (fun i => (i.zero, i.size, i.bytes)) = some (some (.slice none 0 0), 1, 24) := by kernel_rfl
theorem put3 {w wf : World} {z : Nat} {T : TypeId} {c0 c1 c2 : Value} (h : Blk w z (.cells #[c0, c1, c2] T)) (v0 v1 v2 : Value) (hf : wf = ((w.setCell ⟨z, 0, none⟩ v0).setCell ⟨z, 1, none⟩ v1).setCell ⟨z, 2, none⟩ v2) :
  Blk wf z (.cells #[v0, v1, v2] T) ∧ w.grownBy wf (some z) := by
 subst hf
 exact ⟨((h.set 0 _).set 1 _).set 2 _, grown_trans (grown_trans (grown_setCell _ _ _ _) (grown_setCell _ _ _ _)) (grown_setCell _ _ _ _)⟩
theorem keepsPut {w wr wf : World} {z : Nat} (hk : Keeps w wr) (hz : w.heap.size ≤ z) (hg : wr.grownBy wf (some z)) : Keeps w wf := Below.grown hk hg hk.size (by intro q e; cases e; exact hz)
def FlAns (m : Img) (w : World) (e : Ending) (w' : World) : Prop := ∃ fv, e = .returned (.tuple #[fv, .int .i64 (recE m)]) ∧ FlowAt w' fv (recA m) ∧ Keeps w w'
theorem flowNil_at (w : World) : FlowAt w (.agg #[.slice none 0 0, .slice none 0 0, .slice none 0 0]) ⟨[], [], []⟩ := by
 have hn : ∀ (k : Nat) (c : Nat → Nat → Value), Arr w (.slice none 0 0) 0 k c := fun k c => ⟨none, 0, rfl, Nat.le_refl _, Nat.zero_le _, fun _ => rfl, fun h => absurd h (Nat.lt_irrefl 0)⟩
 exact ⟨_, _, _, rfl, ⟨fun _ => undef, fun _ => undef, fun _ => undef, hn _ _, fun i h => absurd h (Nat.not_lt_zero _)⟩, ⟨fun _ => undef, hn _ _, fun i h => absurd h (Nat.not_lt_zero _)⟩, hn _ _⟩
theorem FlAns.bad {m : Img} {w w' : World} {er : Int} (h : recE m = er ∧ er ≠ 0) (hk : Keeps w w') : FlAns m w (.returned (.tuple #[.agg #[.slice none 0 0, .slice none 0 0, .slice none 0 0], .int .i64 er])) w' := by
 obtain ⟨h, h0⟩ := h
 refine ⟨_, by rw [h], ?_, hk⟩
 unfold recA
 rw [if_neg (by rw [h]; exact h0)]
 exact flowNil_at _
theorem FlAns.fine {m : Img} {w w' : World} {v : Value} (h : recE m = 0) (hf : FlowAt w' v (recF m)) (hk : Keeps w w') : FlAns m w (.returned (.tuple #[v, .int .i64 0])) w' := by
 refine ⟨v, by rw [h], ?_, hk⟩
 unfold recA
 rw [if_pos h]
 exact hf
theorem one_bad {m : Img} (h0 : imgFault m = 0) (h2 : ¬ 2000 < m.Text.length) (hb : recB m = true) : recE m = 9 ∧ (9 : Int) ≠ 0 := ⟨recE_bad h0 h2 hb, by decide⟩
theorem start_fin {m : Img} {v0 v1 v2 v3 v4 : Value} (wa : World) (hI : ImgAt wa (.agg #[v0, v1, v2, v3, v4, .int .i64 m.Entry]) m) :
  ∃ (W : World) (c : Nat → Nat), W = (((wa.alloc (.map #[] 0)).alloc (.map #[] 0)).alloc (.map #[] 0)).alloc (.cells #[v0, v1, v2, v3, v4, .int .i64 m.Entry, .slice none 0 0, .map (some wa.heap.size), .map (some (wa.heap.size + 1)), .map (some (wa.heap.size + 1 + 1)), .slice none 0 0, .slice none 0 0, .slice none 0 0] 80) ∧
   Fin m wa v0 v1 v2 v3 v4 (.slice none 0 0) [] [] (wa.heap.size + 1 + 1 + 1) wa.heap.size (wa.heap.size + 1) (wa.heap.size + 1 + 1) (.slice none 0 0) (.slice none 0 0) (.slice none 0 0) c W ∧ MapC 4 c Tryd.prog 3 3 (fun x : Int => .int .i64 x) wfI litI W wa.heap.size 0 (fun _ => none) ∧
   MIBC c W (wa.heap.size + 1) 0 [] ∧ MK6 c W (wa.heap.size + 1 + 1) 0 (fun _ => none) := by
 obtain ⟨w1, H0⟩ := jE (wa.alloc (.map #[] 0))
 obtain ⟨w2, H1⟩ := jE (w1.alloc (.map #[] 0))
 obtain ⟨w3, H2⟩ := jE (w2.alloc (.map #[] 0))
 have s1 : w1.heap.size = wa.heap.size + 1 := by rw [H0, sz_alloc]
 have s2 : w2.heap.size = wa.heap.size + 1 + 1 := by rw [H1, sz_alloc, s1]
 have s3 : w3.heap.size = wa.heap.size + 1 + 1 + 1 := by rw [H2, sz_alloc, s2]
 have k1 : Keeps wa w1 := by rw [H0]; exact (Keeps.refl _).alloc _
 have k2 : Keeps w1 w2 := by rw [H1]; exact (Keeps.refl _).alloc _
 have k3 : Keeps w2 w3 := by rw [H2]; exact (Keeps.refl _).alloc _
 obtain ⟨o, ho⟩ : ∃ o : Obj, o = .cells #[v0, v1, v2, v3, v4, .int .i64 m.Entry, .slice none 0 0, .map (some wa.heap.size), .map (some (wa.heap.size + 1)), .map (some (wa.heap.size + 1 + 1)), .slice none 0 0, .slice none 0 0, .slice none 0 0] 80 := ⟨_, rfl⟩
 have k4 : Keeps w3 (w3.alloc o) := (Keeps.refl _).alloc _
 have H3 : MapF Tryd.prog 3 3 (fun x : Int => .int .i64 x) wfI litI w1 wa.heap.size 0 (fun _ => none) := by rw [H0]; exact MapF.made wa
 have H4 : MapF Tryd.prog 3 4 (fun x : Int => .int .i64 x) wfI litB w2 (wa.heap.size + 1) 0 (fun _ => none) := by rw [H1, ← s1]; exact MapF.made w1
 have H5 : MapF Tryd.prog 3 3 (fun x : Int => .int .i64 x) wfI litI w3 (wa.heap.size + 1 + 1) 0 (fun _ => none) := by rw [H2, ← s2]; exact MapF.made w2
 have hk : Keeps wa (w3.alloc o) := k1.trans (k2.trans (k3.trans k4))
 have hb : Blk (w3.alloc o) (wa.heap.size + 1 + 1 + 1) o := Blk.top' _ _ s3.symm
 refine ⟨w3.alloc o, fun b => if b = wa.heap.size then 4 else if b = wa.heap.size + 1 then 5 else if b = wa.heap.size + 1 + 1 then 6 else if b = wa.heap.size + 1 + 1 + 1 then 1 else 0, by rw [H2, H1, H0, ho], ?_, ⟨H3.keep (k2.trans (k3.trans k4)), ?_⟩, ⟨?_, ?_⟩, ⟨H5.keep k4, ?_⟩⟩
 ·refine ⟨hk, fun b hb => ?_, hI, ⟨by rw [← ho]; exact hb, ?_⟩, OwnC.nil _ _ _ _ _ _ _, rfl, ?_⟩
  ·rw [if_neg jo, if_neg jo, if_neg jo, if_neg jo]
  ·dsimp only
   rw [if_neg jo, if_neg jo, if_neg jo, if_pos rfl]
  exact (OwnC.nil 3 _ _ 0 3 1 ci).part.imp fun _ _ i hi => by cases hi
 ·dsimp only
  rw [if_pos rfl]
 ·rw [show isK [] = fun _ => none from by funext x; unfold isK; rw [if_neg (by simp)]]
  exact H4.keep (k3.trans k4)
 ·dsimp only
  rw [if_neg jo, if_pos rfl]
 dsimp only
 rw [if_neg jo, if_neg jo, if_pos rfl]
theorem Fin.snoc {m : Img} {w0 : World} {v0 v1 v2 v3 v4 va : Value} {vs : List Sle} {L : List (List Sp)} {xb ob lb kb B : Nat} {vB vT vF : Value} {c : Nat → Nat} {w wa w7 : World} {v7 : Value} {s : Sle} {l : List Sp}
  (h : Fin m w0 v0 v1 v2 v3 v4 va vs L xb ob lb kb vB vT vF c w) (hs : OwnC 3 c w B 85 8 csp s.v l) (ka : Keeps w wa) (o7 : Own w7 w0.heap.size 81 1 sle v7 (vs ++ [s])) (g7 : wa.grownBy w7 va.ownBlock) (f7 : ∀ b, v7.ownBlock = some b → va.ownBlock = some b ∨ wa.heap.size ≤ b) :
  ∃ c', Turn (fun i => i = 1 ∨ i = 2) c w c' (w7.setCell ⟨xb, 6, none⟩ v7) ∧ Turn (fun i => i = 2) c w c' w7 ∧ Fin m w0 v0 v1 v2 v3 v4 v7 (vs ++ [s]) (L ++ [l]) xb ob lb kb vB vT vF c' (w7.setCell ⟨xb, 6, none⟩ v7) ∧ Part 3 (fun w => SpAt w s.v l) c' (w7.setCell ⟨xb, 6, none⟩ v7) := by
 obtain ⟨c', ht, ho⟩ := h.all.push ka o7 g7 f7
 have hb := h.blk.turn ht jd
 obtain ⟨H2, H1⟩ := hb.set 6 v7
 have H0 : Turn (fun i => i = 1 ∨ i = 2) c w c' (w7.setCell ⟨xb, 6, none⟩ v7) := (ht.mono fun i q => Or.inr q).trans (H1.mono fun i q => Or.inl q)
 have hp : Part 3 (fun w => SpAt w s.v l) c w := hs.part.imp fun w q => q.arr csp_len
 refine ⟨c', H0, ht, ⟨h.keep.trans' (H0.below h.keep.size h.zero jd) (Nat.le_refl _), H0.zero h.keep.size h.zero, h.img, H2, ho.turn H1 jd, by simp [h.len], ?_⟩, hp.turn H0 jd⟩
 refine ((h.sps.and hp).imp (fun w q i hi => ?_)).turn H0 jd
 rw [List.length_append, List.length_singleton] at hi
 rcases Nat.lt_or_ge i L.length with z | z
 ·rw [nth_app_lt _ _ (by rw [h.len]; exact z), nth_app_lt _ _ z]; exact q.1 i z
 rw [nth_app_eq _ _ (by rw [h.len]; omega), nth_app_eq _ _ jo]; exact q.2
theorem own1_take (v : Int) (l : List Sp) (om : Int → Option Int) {j : Nat} (h : j < l.length) : own1 v (l.take (j + 1)) om = putI (own1 v (l.take j) om) (nth l j).A v := by
 unfold own1
 rw [take_succ_nth _ _ h, List.foldl_append]
 rfl
theorem recover_any {v : Value} {m : Img} {w : World} (ht : Tab w) (hs : Siz w) (hm : ImgAt w v m) : Calls Tryd.prog 10 #[v] w (FlAns m w) := by
 have KK := hm
 obtain ⟨v0, v1, v2, v3, v4, rfl, i0, i1, i2, i3, i4⟩ := hm
 obtain ⟨x0, Hw, rfl⟩ := Arr.form i0
 obtain ⟨x1, Hx, rfl⟩ := Arr.form i1
 obtain ⟨tv, KL, MM⟩ := i2
 obtain ⟨x2, Hy, rfl⟩ := Arr.form KL
 obtain ⟨x3, HM, rfl⟩ := Arr.form i3
 obtain ⟨x4, HN, rfl⟩ := Arr.form i4
 obtain ⟨v0, PV⟩ : ∃ z : Value, z = .slice x0 m.Text.length Hw := ⟨_, rfl⟩
 obtain ⟨v1, PW⟩ : ∃ z : Value, z = .slice x1 m.Funcs.length Hx := ⟨_, rfl⟩
 obtain ⟨v2, PX⟩ : ∃ z : Value, z = .slice x2 m.Tables.length Hy := ⟨_, rfl⟩
 obtain ⟨TL, KM⟩ := jE (m.Text.length)
 obtain ⟨NF, KN⟩ := jE (m.Funcs.length)
 obtain ⟨NT, KO⟩ := jE (m.Tables.length)
 obtain ⟨KP, KQ, KR, Kn⟩ := hid4 KK ht hs (fun (W' : World) (hk : Keeps w W') => imgCheck_any _ m W' (KK.keep hk))
 obtain ⟨PY, KS, KT⟩ := hid3 i1 KL MM
 clear i0 i1 KL MM i3 i4 KK ht hs PV PW PX
 rw [← KM, ← KN, ← KO] at Kn KP ⊢
 obtain ⟨KU, H9, HT⟩ := hid3 KM KN KO
 clear KM KN KO
 obtain ⟨W, hW, MN, Hl, MO, hsW⟩ := two_blocks' w (.cells #[.slice x0 TL Hw, .slice x1 NF Hx, .slice x2 NT Hy, .slice x3 m.Data.length HM, .slice x4 m.Lines.length HN, .int .i64 m.Entry] 28) (.cells #[.slice none 0 0, .slice none 0 0, .slice none 0 0] 45)
 obtain ⟨HW, HU, Hm, H4⟩ := hid4 hW MN Hl MO
 have m0 := (Hl).cell (j := 0) rfl; have m1 := (Hl).cell (j := 1) rfl; have m2 := (Hl).cell (j := 2) rfl; have m3 := (Hl).cell (j := 3) rfl; have m4 := (Hl).cell (j := 4) rfl; have m5 := (Hl).cell (j := 5) rfl
 clear hW MN Hl MO
 obtain ⟨FE, KV⟩ := jE (imgFault m)
 rw [← KV] at Kn
 have Hn := jH KV
 clear KV
 go_enter Tryd.func10, Tryd.ntmps10
 go_upto_region 1 with fail
 rw [← HW.out]
 clear HW
 by_cases h0 : FE = 0
 case neg =>
  have t0 : (FE != 0) = true := by simpa using h0
  go_wp2_with (go_at_call 24; refine (Kn.out _ (HU.out.trans ku5)).mono ?_; rintro e wa ⟨rfl, H0⟩; have q0 := (H4.out.keep H0).cell (j := 0) rfl; have q1 := (H4.out.keep H0).cell (j := 1) rfl; have q2 := (H4.out.keep H0).cell (j := 2) rfl; have z0 := (H4.out.keep H0).thawed 0; have z1 := (H4.out.keep H0).thawed 1; have z2 := (H4.out.keep H0).thawed 2; have lq := (H4.out.keep H0).lt)
  obtain ⟨wf, H3⟩ := jE ((((wa).setCell ⟨w.heap.size + 1, 0, none⟩ (.slice none 0 0)).setCell ⟨w.heap.size + 1, 1, none⟩ (.slice none 0 0)).setCell ⟨w.heap.size + 1, 2, none⟩ (.slice none 0 0))
  rw [← H3]
  obtain ⟨H5, H2⟩ := put3 (H4.out.keep H0) _ _ _ H3
  have Ha := jH (keepsPut (HU.out.trans H0) jo H2)
  obtain ⟨e0, e1, e2⟩ := H5.k3
  clear H3 H5 H2
  exact bodyPost_ret (v := .tuple #[.agg #[.slice none 0 0, .slice none 0 0, .slice none 0 0], .int .i64 FE]) (by simp [results, Tryd.results10, go_sem, e0, e1, e2]) rfl (FlAns.bad (⟨by rw [Hn.out]; exact recE_fault (by rw [← Hn.out]; exact h0), h0⟩) Ha.out)
 case pos =>
 subst h0
 have hg := imgGood m Hn.out.symm
 go_upto_region 4 with (go_at_call 24; refine (Kn.out _ (HU.out.trans ku5)).mono ?_; rintro e wa ⟨rfl, H0⟩; have q0 := (H4.out.keep H0).cell (j := 0) rfl; have q1 := (H4.out.keep H0).cell (j := 1) rfl; have q2 := (H4.out.keep H0).cell (j := 2) rfl; have z0 := (H4.out.keep H0).thawed 0; have z1 := (H4.out.keep H0).thawed 1; have z2 := (H4.out.keep H0).thawed 2; have lq := (H4.out.keep H0).lt; have n0 := (Hm.out.keep H0).cell (j := 0) rfl; have n1 := (Hm.out.keep H0).cell (j := 1) rfl; have n2 := (Hm.out.keep H0).cell (j := 2) rfl; have n3 := (Hm.out.keep H0).cell (j := 3) rfl; have n4 := (Hm.out.keep H0).cell (j := 4) rfl; have n5 := (Hm.out.keep H0).cell (j := 5) rfl)
 by_cases hbig : 2000 < TL
 case pos =>
  have tb : decide ((2000 : Int) < (TL : Int)) = true := decide_eq_true jo
  go_wp2_with fail
  obtain ⟨wf, H3⟩ := jE ((((wa).setCell ⟨w.heap.size + 1, 0, none⟩ (.slice none 0 0)).setCell ⟨w.heap.size + 1, 1, none⟩ (.slice none 0 0)).setCell ⟨w.heap.size + 1, 2, none⟩ (.slice none 0 0))
  rw [← H3]
  obtain ⟨H5, H2⟩ := put3 (H4.out.keep H0) _ _ _ H3
  have Ha := jH (keepsPut (HU.out.trans H0) jo H2)
  obtain ⟨e0, e1, e2⟩ := H5.k3
  clear H3 H5 H2
  exact bodyPost_ret (v := .tuple #[.agg #[.slice none 0 0, .slice none 0 0, .slice none 0 0], .int .i64 1]) (by simp [results, Tryd.results10, go_sem, e0, e1, e2]) rfl (FlAns.bad (⟨recE_big Hn.out.symm (by rw [← KU.out]; exact hbig), by decide⟩) Ha.out)
 case neg =>
 have tb : decide ((2000 : Int) < (TL : Int)) = false := decide_eq_false jo
 go_upto_region 6 with fail
 have Hz : Keeps w wa := HU.out.trans H0
 obtain ⟨W6, c6, MP, HA, KW, KX, KY⟩ := start_fin wa (KP.out.keep Hz)
 obtain ⟨ob, Ko⟩ := jE (wa.heap.size)
 obtain ⟨lb, Kp⟩ := jE (wa.heap.size + 1)
 obtain ⟨kb, H6⟩ := jE (wa.heap.size + 1 + 1)
 obtain ⟨xb, HB⟩ := jE (wa.heap.size + 1 + 1 + 1)
 obtain ⟨MQ, MR, KZ, MS⟩ := hid4 Ko Kp H6 HB
 have MT := jH MP
 rw [← HB, ← H6, ← Kp, ← Ko] at HA
 rw [← Ko] at KW
 rw [← Kp] at KX
 rw [← H6] at KY
 have MU : BlkC 0 c6 W6 w.heap.size (.cells #[.slice x0 TL Hw, .slice x1 NF Hx, .slice x2 NT Hy, .slice x3 m.Data.length HM, .slice x4 m.Lines.length HN, .int .i64 m.Entry] 28) := ⟨(Hm.out.keep H0).keep HA.keep, HA.zero _ (Hm.out.keep H0).lt⟩
 have MV : BlkC 0 c6 W6 (w.heap.size + 1) (.cells #[.slice none 0 0, .slice none 0 0, .slice none 0 0] 45) := ⟨(H4.out.keep H0).keep HA.keep, HA.zero _ (H4.out.keep H0).lt⟩
 obtain ⟨MW, MX, MY, MZ⟩ := hid4 HA KW KX KY
 obtain ⟨Kq, M0, H1, HG⟩ := hid4 MU MV Hz hg
 have M1 : TL ≤ 2000 := by omega
 have P0 : NF ≤ 40 := by rw [H9.out]; exact hg.funcs
 have P1 : NT ≤ 20 := by rw [HT.out]; exact hg.tabs
 have He : Hid (¬ 2000 < m.Text.length) := jH (by rw [← KU.out]; exact hbig)
 have Hf : Hid (m.Text.length ≤ 2000) := jH (by rw [← KU.out]; exact M1)
 clear Ko Kp H6 HB MP HA KW KX KY Hz hg MU MV hbig
 have PZ := @run_makeMap Tryd.prog
 go_upto_region 7 with fail
 clear PZ
 rw [← MT.out, ← MS.out, ← KZ.out, ← MR.out, ← MQ.out]
 clear MT MS KZ MR MQ n0 n1 n2 n3 n4 n5 m0 m1 m2 m3 m4 m5 q0 q1 q2 z0 z1 z2 lq tb
 have n1 := Kq.out.1.cell (j := 1) rfl
 go_wp2_with fail
 clear n1
 go_loopw [41] (fun s41 wr => ∃ (i : Nat) (c1 : Nat → Nat) (va : Value) (vs : List Sle), i ≤ NF ∧ s41 = .int .i64 i ∧ Hid (Turn (fun i => i = 1 ∨ i = 2 ∨ i = 3 ∨ i = 4) c6 W6 c1 wr) ∧ Hid (Fin m wa (.slice x0 TL Hw) (.slice x1 NF Hx) (.slice x2 NT Hy) (.slice x3 m.Data.length HM) (.slice x4 m.Lines.length HN) va vs ((allS m).take i) xb ob lb kb (.slice none 0 0) (.slice none 0 0) (.slice none 0 0) c1 wr) ∧ Hid (MapC 4 c1 Tryd.prog 3 3 (fun x : Int => .int .i64 x) wfI litI wr ob (2000 * i) (ownS (allS m) i)) ∧ Hid (∀ j, j < i → badF m.Text (nth m.Funcs j) = false)) (fun s41 _ => NF - (intOf s41).toNat)
 case atStart => exact ⟨0, c6, _, [], Nat.zero_le _, rfl, jH (Turn.refl _ _ _), MW, MX, jH (fun j hj => absurd hj (Nat.not_lt_zero _))⟩
 case round =>
 obtain ⟨i, c1, va, vs, hi, rfl, HV, Hg, M2, M3⟩ := hrel
 by_cases hlt : i < NF
 case neg =>
  have tl : decide ((i : Int) < (NF : Int)) = false := decide_eq_false jo
  have HX : Swept m := anyN_no (fun j hj => M3.out j (by rw [← H9.out] at hj; omega))
  have P2 : Fin m wa (.slice x0 TL Hw) (.slice x1 NF Hx) (.slice x2 NT Hy) (.slice x3 m.Data.length HM) (.slice x4 m.Lines.length HN) va vs (allS m) xb ob lb kb (.slice none 0 0) (.slice none 0 0) (.slice none 0 0) c1 wr := by have z := Hg.out; (rw [show i = (allS m).length by rw [allS_len, ← H9.out]; omega, List.take_length] at z); exact z
  obtain ⟨OM, M4⟩ := jE (ownS (allS m) m.Funcs.length)
  have P3 : MapC 4 c1 Tryd.prog 3 3 (fun x : Int => .int .i64 x) wfI litI wr ob 80000 OM := by have z := M2.out; (rw [show i = m.Funcs.length by rw [← H9.out]; omega, ← M4] at z); exact MapC.mono z (by rw [← H9.out]; omega)
  obtain ⟨we, Q0⟩ := jE wr
  subst Q0
  obtain ⟨H7, M5, P4, Kr⟩ := hid4 HX P2 P3 M4
  obtain ⟨Q1, Q2, P5, HY⟩ := hid4 (MY.out.turn HV.out jd) (MZ.out.turn HV.out jd) (Kq.out.turn HV.out jd) (M0.out.turn HV.out jd)
  have n2 := P5.out.1.cell (j := 2) rfl
  clear HX P2 P3 M4 Hg M2 M3 MW MX MY MZ Kq M0
  go_wp2_with fail
  clear n2 tl
  go_loopw [84] (fun s84 wr => ∃ (k : Nat) (c2 : Nat → Nat), k ≤ NT ∧ s84 = .int .i64 k ∧ Hid (Turn (fun z => z = 5) c1 we c2 wr) ∧ Hid (MIBC c2 wr lb (20 * k) ((m.Tables.take k).flatten)) ∧ Hid (∀ j, j < k → tblB m OM j = false)) (fun s84 _ => NT - (intOf s84).toNat)
  case atStart => exact ⟨0, c1, Nat.zero_le _, rfl, jH (Turn.refl _ _ _), Q1, jH (fun j hj => absurd hj (Nat.not_lt_zero _))⟩
  case round =>
  obtain ⟨k, c2, hk, rfl, HC, M6, M7⟩ := hrel
  by_cases hlt2 : k < NT
  case neg =>
   have Q3 : decide ((k : Int) < (NT : Int)) = false := decide_eq_false jo
   have P6 : MIBC c2 wr lb 400 (keysM m (allS m) 0) := by have z := M6.out; (rw [show k = m.Tables.length by rw [← HT.out]; omega, List.take_length] at z); exact MapC.mono z (by rw [← HT.out]; omega)
   have HZ : ∀ j, j < m.Tables.length → tblB m OM j = false := fun j hj => M7.out j (by rw [← HT.out] at hj; omega)
   obtain ⟨Q4, M8⟩ := hid2 P6 HZ
   obtain ⟨wm, Q5⟩ := jE wr
   subst Q5
   obtain ⟨P7, M9, Q6, P8⟩ := hid4 (M5.out.turn HC.out jd jd jd jd) (P4.out.turn HC.out jd) (Q2.out.turn HC.out jd) (P5.out.turn HC.out jd)
   have P9 := jH (HY.out.turn HC.out jd)
   have n1 := P8.out.1.cell (j := 1) rfl
   clear P6 HZ M6 M7
   go_wp2_with fail
   clear n1 Q3
   go_loopw [116] (fun s116 wr => ∃ (q : Nat) (c4 : Nat → Nat), q ≤ NF ∧ s116 = .int .i64 q ∧ Hid (Turn (fun z => z = 5) c2 wm c4 wr) ∧ Hid (∃ nn, nn ≤ 400 + 5000 * q ∧ MIBC c4 wr lb nn (keysM m (allS m) q)) ∧ Hid (∀ j, j < q → anyN (fun r => spB m OM j (nth (nth (allS m) j) r)) (nth (allS m) j).length = false)) (fun s116 _ => NF - (intOf s116).toNat)
   case atStart => exact ⟨0, c2, Nat.zero_le _, rfl, jH (Turn.refl _ _ _), jH ⟨400, by omega, Q4.out⟩, jH (fun j hj => absurd hj (Nat.not_lt_zero _))⟩
   case round =>
   obtain ⟨q, c4, hq, rfl, H8, Ma, Mb⟩ := hrel
   by_cases hlt4 : q < NF
   case neg =>
    have Q7 : decide ((q : Int) < (NF : Int)) = false := decide_eq_false jo
    obtain ⟨nn, Mc, K0⟩ := Ma.out
    have Md : q = m.Funcs.length := by rw [← H9.out]; omega
    have Pa : MIBC c4 wr lb nn (keysM m (allS m) m.Funcs.length) := by rw [← Md]; exact K0
    have K1 : recB m = false := recB_no (fun j hj => H7.out.f hj) (fun j hj => by rw [← Kr.out]; exact M8.out j hj) (fun j hj => by rw [← Kr.out]; exact Mb.out j (by rw [Md]; exact hj))
    obtain ⟨wc, Q8⟩ := jE wr
    subst Q8
    obtain ⟨Q9, Me, Qa, Qb⟩ := hid4 Pa K1 (P7.out.turn H8.out jd jd jd jd) (Q6.out.turn H8.out jd)
    obtain ⟨Qc, Qd⟩ := hid2 (P8.out.turn H8.out jd) (P9.out.turn H8.out jd)
    have n1 := Qc.out.1.cell (j := 1) rfl
    have Qe : Hid (BlkS wa.heap.size c4 wc (.slice none 0 0) [] (cutF m 0).bs) := jH (BlkS.nil _ _ _)
    have Qf : Hid (OwnC 9 c4 wc wa.heap.size 3 1 ci (.slice none 0 0) ((List.range 0).map fun i => ((cutF m i).bs.length : Int))) := jH (OwnC.nil _ _ _ _ _ _ _)
    clear Pa K1 Md K0 Mc Ma Mb
    go_wp2_with fail
    clear n1 Q7
    go_loopw [130] (fun s130 wr => ∃ (p : Nat) (c5 : Nat → Nat) (vB vF : Value) (rs : List Bv), p ≤ NF ∧ s130 = .int .i64 p ∧ Hid (Turn (fun i => i = 1 ∨ i = 6 ∨ i = 9 ∨ i = 10 ∨ 16 ≤ i) c4 wc c5 wr) ∧ Hid (Fin m wa (.slice x0 TL Hw) (.slice x1 NF Hx) (.slice x2 NT Hy) (.slice x3 m.Data.length HM) (.slice x4 m.Lines.length HN) va vs (allS m) xb ob lb kb vB (.slice none 0 0) vF c5 wr) ∧ Hid (BlkS wa.heap.size c5 wr vB rs (cutF m p).bs) ∧ Hid (MK6 c5 wr kb (2000 * p) (cutF m p).bm) ∧ Hid (OwnC 9 c5 wr wa.heap.size 3 1 ci vF ((List.range p).map fun i => ((cutF m i).bs.length : Int)))) (fun s130 _ => NF - (intOf s130).toNat)
    case atStart => exact ⟨0, c4, _, _, [], Nat.zero_le _, rfl, jH (Turn.refl _ _ _), Qa, Qe, Qb, Qf⟩
    case round =>
    obtain ⟨p, c5, vB, vF, rs, hp, rfl, K2, Pb, Pc, Pd, Pe⟩ := hrel
    by_cases hlt5 : p < NF
    case neg =>
     have tl5 : decide ((p : Int) < (NF : Int)) = false := decide_eq_false jo
     have Ks : p = m.Funcs.length := by rw [← H9.out]; omega
     have Kt : BlkS wa.heap.size c5 wr vB rs (cutF m m.Funcs.length).bs := by rw [← Ks]; exact Pc.out
     have Pf : MK6 c5 wr kb (2000 * p) (cutF m m.Funcs.length).bm := by rw [← Ks]; exact Pd.out
     have Mf : OwnC 9 c5 wr wa.heap.size 3 1 ci vF ((List.range m.Funcs.length).map fun i => ((cutF m i).bs.length : Int)) := by rw [← Ks]; exact Pe.out
     have Mg := cutF_ok HG.out H7.out Hf.out
     have K3 := cutF_sm HG.out H7.out Hf.out (Nat.le_refl m.Funcs.length)
     have hj := join_any Pb.out Kt Pf (K3.mono (by rw [← H9.out]; omega)) (fun i hi => (Mg _ (nthMem hi)).1) (fun i hi => by obtain ⟨-, b1, b2, b3, b4⟩ := Mg _ (nthMem hi); exact ⟨wfI_of jo jo, wfI_of jo jo⟩) HG.out.tabs (fun t ht => ⟨(HG.out.tab t ht).1, fun x hx => by obtain ⟨a, ha, e⟩ := memNth hx; have := (HG.out.tab t ht).2 a ha; have := HG.out.text; rw [e] at *; omega⟩)
     obtain ⟨ba, bc, Pg⟩ := own_form' Kt.row.1
     obtain ⟨fa, Mh, Ph⟩ := own_form' Mf.1
     obtain ⟨Mi, K4⟩ := jE (rs.length)
     rw [← K4] at Pg
     rw [List.length_map, List.length_range] at Ph
     subst Pg Ph
     obtain ⟨HJ, HB9, Qg, Qh⟩ := hid4 hj Kt Mf (Qd.out.turn K2.out jo)
     clear hj Kt Pf Mf Mg K3 Ks K4
     go_wp2_with (go_at_call 28; refine HJ.out.mono ?_; rintro e wb ⟨rfl, cj, vT, rsj, tsj, Mj, K5, Pi, Mk⟩; obtain ⟨Ml, Mm, e7⟩ := own_form' Mk.row.1; subst e7; have y10 := K5.blk.1.cell (j := 10) rfl; have y11 := K5.blk.1.cell (j := 11) rfl; have y12 := K5.blk.1.cell (j := 12) rfl; have Hh := Qh.out.turn Mj jo; have q0 := (Hh.1).cell (j := 0) rfl; have q1 := (Hh.1).cell (j := 1) rfl; have q2 := (Hh.1).cell (j := 2) rfl; have z0 := (Hh.1).thawed 0; have z1 := (Hh.1).thawed 1; have z2 := (Hh.1).thawed 2; have lq := Hh.1.lt; have Qi := jH K5; have Qj := jH Pi; have Qk := jH Mk; have Ql := jH (Qg.out.turn Mj jo); have Pj := jH Hh; clear K5 Pi Mk Hh Mj)
     obtain ⟨wf, H3⟩ := jE (((wb.setCell ⟨w.heap.size + 1, 0, none⟩ (.slice ba Mi bc)).setCell ⟨w.heap.size + 1, 1, none⟩ (.slice Ml tsj.length Mm)).setCell ⟨w.heap.size + 1, 2, none⟩ (.slice fa m.Funcs.length Mh))
     rw [← H3]
     obtain ⟨H5, H2⟩ := put3 Pj.out.1 _ _ _ H3
     have Ha := jH (keepsPut (H1.out.trans Qi.out.keep) jo H2)
     obtain ⟨e0, e1, e2⟩ := H5.k3
     have Ku : Turn (fun z => z = 0) cj wb cj wf := grown_turn H2 (fun b e => by cases e; exact Pj.out.2)
     have Qm : Hid (FlowAt wf (.agg #[.slice ba Mi bc, .slice Ml tsj.length Mm, .slice fa m.Funcs.length Mh]) (recF m)) := jH ⟨_, _, _, rfl, (Qj.out.turn Ku jd (fun i hi => by omega)).blocks, (Qk.out.turn Ku jd (fun i _ => by omega)).tabs, (Ql.out.turn Ku jd).1.ints⟩
     clear H3 H5 H2 Ku
     exact bodyPost_ret (v := .tuple #[.agg #[.slice ba Mi bc, .slice Ml tsj.length Mm, .slice fa m.Funcs.length Mh], .int .i64 0]) (by simp [results, Tryd.results10, go_sem, e0, e1, e2]) rfl (FlAns.fine (recE_good Hn.out.symm He.out Me.out) Qm.out Ha.out)
    case pos =>
    have Qn : (p : Int) < (NF : Int) := by omega
    have K6 : p < m.Funcs.length := by rw [← H9.out]; exact hlt5
    obtain ⟨s1, s2, -, s4⟩ := fun_short HG.out Hf.out K6 (H7.out.f K6)
    have hcut := cut_any (f := p) Pb.out Pc.out Pd.out (Q9.out.turn K2.out jo) (isK_isL m) Pe.out (by rw [allS_len]; exact K6) rfl s2 s1 (fun _ => first_isL HG.out H7.out K6) (cutF_sm HG.out H7.out Hf.out (Nat.le_of_lt K6)) jo (by rw [List.length_map, List.length_range]; omega) jo
    have Pk : ((List.range (p + 1)).map fun i => ((cutF m i).bs.length : Int)) = ((List.range p).map fun i => ((cutF m i).bs.length : Int)) ++ [((cutF m p).bs.length : Int)] := by rw [List.range_succ, List.map_append]; rfl
    obtain ⟨Mn, Qo, Qp⟩ := hid3 hcut Pk s1
    clear hcut Pk s1 s2 s4
    go_wp2_with (go_at_call 27; refine Mn.out.mono ?_; rintro e wb ⟨rfl, cm, vB7, vF7, rs7, Pl, Pm, Pn, Po, Pp⟩; have Qq := jH (K2.out.trans Pl); have Qr := jH Pm; have Qs := jH Pn; have Qt := jH (MapC.mono Po (show _ ≤ 2000 * (p + 1) by have := Qp.out; omega)); have Qu := jH Pp; clear Pl Pm Pn Po Pp)
    go_roundw
    case rel => exact ⟨p + 1, cm, vB7, vF7, rs7, by omega, by go_num, Qq, Qr, Qs, Qt, jH (by rw [Qo.out]; exact Qu.out)⟩
    case measure => exact jm
   case pos =>
   have Qv : (q : Int) < (NF : Int) := by omega
   have Ho : q < m.Funcs.length := by rw [← H9.out]; exact hlt4
   have Mo := P7.out.turn H8.out jd jd jd jd
   have K7 := M9.out.turn H8.out jd
   have Pq := P9.out.turn H8.out jd
   obtain ⟨nn, Mc, K0⟩ := Ma.out
   obtain ⟨s1, s2, -, s4⟩ := fun_short HG.out Hf.out Ho (H7.out.f Ho)
   have Qw := first_isL HG.out H7.out Ho
   have H2 := (HG.out.func q Ho).2.2
   have HD := sumF_mono HG.out (show 0 ≤ q by omega) (Nat.le_of_lt Ho)
   have HE : sumF m 0 = 0 := rfl
   have Mp := mark_any (f := q) Mo K7 K0 (by rw [allS_len]; exact Ho) Ho s2 s1 (by have := Hf.out; omega) jo HG.out.tabs (fun t ht => ⟨(HG.out.tab t ht).1, fun x hx => by obtain ⟨a, ha, e⟩ := memNth hx; have := (HG.out.tab t ht).2 a ha; have := HG.out.text; rw [e] at *; omega⟩) HG.out.funcs
   obtain ⟨BD, Mq⟩ := jE (anyN (fun r => spB m OM q (nth (nth (allS m) q) r)) (nth (allS m) q).length)
   rw [← Mq] at Mp
   obtain ⟨Pr, Kv, Qx, Qy⟩ := hid4 Mp Mq Pq Mo
   have Qz : Hid (nn + 1 + 2 * (nth (allS m) q).length ≤ 400 + 5000 * (q + 1)) := jH jo
   clear Mp Mq Pq Mo K7 K0 s1 s2 s4 Qw H2 HD HE Mc
   cases BD with
   | true =>
    have K8 : Hid (recB m = true) := jH (recB_s Ho (by rw [← Kr.out]; exact Kv.out.symm))
    go_wp2_with (go_at_call 26; refine Pr.out.mono ?_; rintro e wb ⟨cm, K9, QA, -⟩; obtain rfl := QA rfl; have Hp := Qx.out.turn K9 jd; have q0 := (Hp.1).cell (j := 0) rfl; have q1 := (Hp.1).cell (j := 1) rfl; have q2 := (Hp.1).cell (j := 2) rfl; have z0 := (Hp.1).thawed 0; have z1 := (Hp.1).thawed 1; have z2 := (Hp.1).thawed 2; have lq := Hp.1.lt)
    obtain ⟨wf, H3⟩ := jE ((((wb).setCell ⟨w.heap.size + 1, 0, none⟩ (.slice none 0 0)).setCell ⟨w.heap.size + 1, 1, none⟩ (.slice none 0 0)).setCell ⟨w.heap.size + 1, 2, none⟩ (.slice none 0 0))
    rw [← H3]
    obtain ⟨H5, H2⟩ := put3 (Hp.1) _ _ _ H3
    have Ha := jH (keepsPut (H1.out.trans (Qy.out.turn K9 jd jd jd jd).keep) jo H2)
    obtain ⟨e0, e1, e2⟩ := H5.k3
    clear H3 H5 H2
    exact bodyPost_ret (v := .tuple #[.agg #[.slice none 0 0, .slice none 0 0, .slice none 0 0], .int .i64 9]) (by simp [results, Tryd.results10, go_sem, e0, e1, e2]) rfl (FlAns.bad (one_bad Hn.out.symm He.out K8.out) Ha.out)
   | false =>
    go_wp2_with (go_at_call 26; refine Pr.out.mono ?_; rintro e wb ⟨cm, K9, -, Ps⟩; obtain ⟨rfl, Pt⟩ := Ps rfl; have K2 := jH (H8.out.trans K9); have QB := jH Pt; clear K9 Ps Pt)
    go_roundw
    case rel => exact ⟨q + 1, cm, by omega, by go_num, K2, jH ⟨_, Qz.out, QB.out⟩, jH (fun j hj => by
     rcases Nat.lt_or_ge j q with z | z
     ·exact Mb.out j z
     obtain rfl : j = q := by omega
     exact Kv.out.symm)⟩
    case measure => exact jm
  case pos =>
  have QC : (k : Int) < (NT : Int) := by omega
  have Ka : k < m.Tables.length := by rw [← HT.out]; exact hlt2
  obtain ⟨_, _, te, -, -, -, t4⟩ := KS.out
  injection te with te1 te2 te3
  subst te1 te3
  obtain ⟨tb, QD, QE, tc⟩ := t4 jo
  subst QE
  obtain ⟨sa, Mr, Ms, s1, s2, s3, s4⟩ := KT.out k Ka
  obtain ⟨LT, Kw⟩ := jE (nth m.Tables k)
  obtain ⟨TN, Kx⟩ := jE (LT.length)
  rw [← Kw, ← Kx] at Ms s4
  have Pu := M5.out.turn HC.out jd jd jd jd
  have y0 : wr.cell? ⟨tb, QD + k, none⟩ = some (.slice sa TN Mr) := by (have z := (H1.out.trans Pu.keep).cell (tc k 0 Ka jd)); (try dsimp only at z); rw [Ms] at z; simpa using z
  have Hi := HG.out.tab k Ka
  rw [← Kw, ← Kx] at Hi
  have Pv : TN ≤ 20 := Hi.1
  obtain ⟨wp, QF⟩ := jE wr
  subst QF
  obtain ⟨Ky, Kb, Mt, QG⟩ := hid4 Kw Kx Hi s4
  have Mu : Hid (MIBC c2 wp lb (20 * k + 0) ((m.Tables.take k).flatten ++ LT.take 0)) := jH (by rw [List.take_zero, List.append_nil]; exact M6.out)
  clear Ms s1 s2 s3 s4 tc t4 te2 Kw Kx Hi Pu
  go_wp2_with fail
  clear y0
  go_loopw [90] (fun s90 wn => ∃ (j : Nat) (c3 : Nat → Nat), j ≤ TN ∧ s90 = .int .i64 j ∧ Hid (Turn (fun z => z = 5) c2 wp c3 wn) ∧ Hid (MIBC c3 wn lb (20 * k + j) ((m.Tables.take k).flatten ++ LT.take j)) ∧ Hid (∀ q, q < j → (OM (nth LT q)).isNone = false)) (fun s90 _ => TN - (intOf s90).toNat)
  case atStart => exact ⟨0, c2, Nat.zero_le _, rfl, jH (Turn.refl _ _ _), Mu, jH (fun j hj => absurd hj (Nat.not_lt_zero _))⟩
  case round =>
  obtain ⟨j, c3, hj, rfl, Hq, Kz, Pw⟩ := hrel
  have Hb := HC.out.trans Hq.out
  by_cases hlt3 : j < TN
  case neg =>
   have QH : decide ((j : Int) < (TN : Int)) = false := decide_eq_false jo
   have Px : MIBC c3 wr lb (20 * (k + 1)) ((m.Tables.take (k + 1)).flatten) := by have z := Kz.out; (rw [show j = LT.length by rw [← Kb.out]; omega, List.take_length] at z); rw [take_succ_nth _ _ Ka, List.flatten_append, ← Ky.out, List.flatten_singleton]; exact MapC.mono z (by rw [← Kb.out]; omega)
   have Kc : tblB m OM k = false := by unfold tblB; rw [← Ky.out, ← Kb.out]; exact anyN_no (fun q hq => Pw.out q jo)
   obtain ⟨QI, Mv⟩ := hid2 Px Kc
   have Mw := jH Hb
   clear Px Kc Hb
   go_wp2_with fail
   go_roundw
   case rel => exact ⟨k + 1, c3, by omega, by go_num, Mw, QI, jH (fun q hq => by
    rcases Nat.lt_or_ge q k with z | z
    ·exact M7.out q z
    obtain rfl : q = k := by omega
    exact Mv.out)⟩
   case measure => exact jm
  case pos =>
  have Mx : (j : Int) < (TN : Int) := by omega
  obtain ⟨ab, QJ, My, HF⟩ := QG.out jo
  subst My
  obtain ⟨x, hx⟩ := jE (nth LT j)
  have HO := M5.out.turn Hb jd jd jd jd
  have y1 : wr.cell? ⟨ab, QJ + j, none⟩ = some (.int .i64 x) := by (have z := (H1.out.trans HO.keep).cell (HF j 0 hlt3 jd)); (try dsimp only at z); rw [← hx] at z; simpa using z
  have HB := Mt.out.2 j hlt3
  rw [← hx] at HB
  have Py : x < 2000 := by have := Hf.out; omega
  have Mz := jH (wfI_of (c := x) jo jo)
  have x7 := jv wr xb 7 (.map (some ob)) (HO.blk.1.cell rfl)
  have x8 := jv wr xb 8 (.map (some lb)) (HO.blk.1.cell rfl)
  obtain ⟨HP, Kd, QK⟩ := hid3 (P4.out.turn Hb jd) hx (H1.out.trans HO.keep)
  have HQ := HY.out.turn Hb jd
  have QL := jH HQ
  cases hom : OM x with
  | none =>
   obtain ⟨E1, E2⟩ := hid2 (show (OM x).getD 0 = 0 by rw [hom]; rfl) (show (OM x).isSome = false by rw [hom]; rfl)
   have K8 : Hid (recB m = true) := jH (recB_t Ka (by rw [← Kr.out]; unfold tblB; (refine anyN_yes (k := j) (by rw [← Ky.out, ← Kb.out]; exact hlt3) ?_); rw [← Ky.out, ← Kd.out, hom]; rfl))
   obtain ⟨q0, q1, q2⟩ := (HQ.1).k3
   obtain ⟨z0, z1, z2⟩ := (HQ.1).t3
   have lq := HQ.1.lt
   clear HF HB Py hx HO Hb hom HQ
   go_wp2_with (at_lookup; refine wpList_look_ok _ rfl (.tmp 98) (.tmp 99) rfl MKII ob 80000 OM rfl HP.out.1 x rfl Mz.out ?_; rw [E1.out, E2.out])
   obtain ⟨wf, H3⟩ := jE ((((wr).setCell ⟨w.heap.size + 1, 0, none⟩ (.slice none 0 0)).setCell ⟨w.heap.size + 1, 1, none⟩ (.slice none 0 0)).setCell ⟨w.heap.size + 1, 2, none⟩ (.slice none 0 0))
   rw [← H3]
   obtain ⟨H5, H2⟩ := put3 (QL.out.1) _ _ _ H3
   have Ha := jH (keepsPut (QK.out) jo H2)
   obtain ⟨e0, e1, e2⟩ := H5.k3
   clear H3 H5 H2
   exact bodyPost_ret (v := .tuple #[.agg #[.slice none 0 0, .slice none 0 0, .slice none 0 0], .int .i64 9]) (by simp [results, Tryd.results10, go_sem, e0, e1, e2]) rfl (FlAns.bad (one_bad Hn.out.symm He.out K8.out) Ha.out)
  | some g =>
   obtain ⟨E1, E2⟩ := hid2 (show (OM x).getD 0 = g by rw [hom]; rfl) (show (OM x).isSome = true by rw [hom]; rfl)
   have QM : Hid ((OM x).isNone = false) := jH (by rw [hom]; rfl)
   clear HF HB Py hx HO Hb hom HQ
   go_wp2_with (first | (at_lookup; refine wpList_look_ok _ rfl (.tmp 98) (.tmp 99) rfl MKII ob 80000 OM rfl HP.out.1 x rfl Mz.out ?_; rw [E1.out, E2.out]) | (at_mapUpdate; refine wpList_put _ rfl (.tmp 109) (.tmp 110) (.const (.bool true)) rfl MKIB lb (20 * k + j) _ rfl (Kz.out.1.keep ku5) (by unfold maxLen; omega) x rfl Mz.out true rfl trivial ?_; intro w4 HR Ke; rw [isK_put] at HR; have H8 := jH (Hq.out.trans (((show Keeps wr _ from ku5).turn (fun z => z = 5) c3).trans (grown_turn Ke (fun b e => by cases e; exact Kz.out.2)))); have QN := jH HR; clear HR Ke))
   go_roundw
   case rel => exact ⟨j + 1, c3, by omega, by go_num, H8, jH ⟨by rw [take_succ_nth _ _ (by rw [← Kb.out]; exact hlt3), ← Kd.out, ← List.append_assoc]; exact QN.out, Kz.out.2⟩, jH (fun q hq => by
    rcases Nat.lt_or_ge q j with z | z
    ·exact Pw.out q z
    obtain rfl : q = j := by omega
    rw [← Kd.out]; exact QM.out)⟩
   case measure => exact jm
 case pos =>
 have QO : (i : Int) < (NF : Int) := by omega
 have Hr : i < m.Funcs.length := by rw [← H9.out]; exact hlt
 have QP := PY.out
 obtain ⟨_, _, fe, -, -, -, f4⟩ := QP
 injection fe with fe1 fe2 fe3
 subst fe1 fe3
 obtain ⟨fb, KA, QQ, fc⟩ := f4 jo
 subst QQ
 have H2 := (HG.out.func i Hr).2.2
 obtain ⟨⟨HH, fst, Hs⟩, HS⟩ : ∃ f, f = nth m.Funcs i := ⟨_, rfl⟩
 rw [← HS] at H2
 dsimp only at H2
 obtain ⟨g1, g2, g3⟩ := H2
 have HD := sumF_mono HG.out (show 0 ≤ i by omega) (Nat.le_of_lt Hr)
 have HE : sumF m 0 = 0 := rfl
 have d0 : wr.cell? ⟨fb, KA + i * 3, none⟩ = some (.string HH) := by have z := (H1.out.trans Hg.out.keep).cell (fc i 0 Hr jd); dsimp only at z; rw [← HS] at z; exact z
 have d1 : wr.cell? ⟨fb, KA + i * 3 + 1, none⟩ = some (.int .i64 fst) := by have z := (H1.out.trans Hg.out.keep).cell (fc i 1 Hr jd); dsimp only at z; rw [← HS] at z; exact z
 have d2 : wr.cell? ⟨fb, KA + i * 3 + 2, none⟩ = some (.int .i64 Hs) := by have z := (H1.out.trans Hg.out.keep).cell (fc i 2 Hr jd); dsimp only at z; rw [← HS] at z; exact z
 have QR : fb < wr.heap.size := lt_of_cell d0
 have Pz : 0 ≤ fst := by omega
 have Ht : fst + Hs ≤ (m.Text.length : Int) := by omega
 have PA : Hid (∀ W', Keeps wr W' → Calls Tryd.prog 25 #[.agg #[.slice x0 TL Hw, .slice (some ⟨fb, KA, none⟩) NF Hx, .slice x2 NT Hy, .slice x3 m.Data.length HM, .slice x4 m.Lines.length HN, .int .i64 m.Entry], .agg #[.string HH, .int .i64 fst, .int .i64 Hs]] W' (SwAns (swA m.Text ⟨HH, fst, Hs⟩) W')) :=
  jH (fun W' hk' => sweep_any (f := ⟨HH, fst, Hs⟩) (KQ.out.keep (H1.out.trans (Hg.out.keep.trans hk'))) (KR.out.keep (H1.out.trans (Hg.out.keep.trans hk'))) (KP.out.keep (H1.out.trans (Hg.out.keep.trans hk'))) Pz g2 Ht Hf.out)
 have PB := jH HS
 clear HS g1 g2 g3 HD HE fc f4 fe2 Pz Ht
 go_upto_region 10 with fail
 obtain ⟨wq, cq, PC, QS, KB, MA⟩ := one_paint wr c1 (.cells #[.string HH, .int .i64 fst, .int .i64 Hs] 40) 7
 rw [← PC]
 obtain ⟨b7, HI⟩ := jE (wr.heap.size)
 rw [← HI]
 rw [← HI] at MA
 have PD := Hg.out.turn (KB (fun _ => False)) (fun q => q) (fun q => q) (fun q => q) (fun q => q)
 have PE := M2.out.turn (KB (fun _ => False)) (fun q => q)
 have KC := HV.out.trans (KB (fun i => i = 1 ∨ i = 2 ∨ i = 3 ∨ i = 4))
 have PF := Kq.out.turn KC jd
 obtain ⟨n0, n1, n2, n3, n4, n5⟩ := (PF.1).k6
 obtain ⟨u0, u1, u2⟩ := (MA.1).k3
 obtain ⟨KD, QT, QU, Hu⟩ := hid4 PD PE KC (M0.out.turn KC jd)
 have PG := jH QS
 clear PD PE KC PF MA HI PC KB d0 d1 d2 QR
 by_cases hbd : badF m.Text (nth m.Funcs i) = true
 case pos =>
  have Hv : Hid (swA m.Text ⟨HH, fst, Hs⟩ = none) := jH (by rw [PB.out]; unfold swA; rw [if_pos hbd])
  have PH := recB_f Hr hbd
  have K8 := jH PH
  clear hbd PH
  go_wp2_with (go_at_call 25; refine (PA.out _ (PG.out.trans ku5)).mono ?_; rintro e wb ⟨hn, -, H6⟩; obtain rfl := hn Hv.out; have q0 := (Hu.out.1.keep H6).cell (j := 0) rfl; have q1 := (Hu.out.1.keep H6).cell (j := 1) rfl; have q2 := (Hu.out.1.keep H6).cell (j := 2) rfl; have z0 := (Hu.out.1.keep H6).thawed 0; have z1 := (Hu.out.1.keep H6).thawed 1; have z2 := (Hu.out.1.keep H6).thawed 2; have lq := (Hu.out.1.keep H6).lt)
  obtain ⟨wf, H3⟩ := jE ((((wb).setCell ⟨w.heap.size + 1, 0, none⟩ (.slice none 0 0)).setCell ⟨w.heap.size + 1, 1, none⟩ (.slice none 0 0)).setCell ⟨w.heap.size + 1, 2, none⟩ (.slice none 0 0))
  rw [← H3]
  obtain ⟨H5, H2⟩ := put3 (Hu.out.1.keep H6) _ _ _ H3
  have Ha := jH (keepsPut (H1.out.trans (KD.out.keep.trans H6)) jo H2)
  obtain ⟨e0, e1, e2⟩ := H5.k3
  clear H3 H5 H2
  exact bodyPost_ret (v := .tuple #[.agg #[.slice none 0 0, .slice none 0 0, .slice none 0 0], .int .i64 9]) (by simp [results, Tryd.results10, go_sem, e0, e1, e2]) rfl (FlAns.bad (one_bad Hn.out.symm He.out K8.out) Ha.out)
 case neg =>
 have HK : badF m.Text (nth m.Funcs i) = false := by simpa using hbd
 obtain ⟨s1, s2, s3, s4⟩ := fun_short HG.out Hf.out Hr HK
 obtain ⟨SL, MB⟩ := jE (nth (allS m) i)
 obtain ⟨SN, MC⟩ := jE (SL.length)
 rw [← MB] at s1 s2 s3
 rw [← MC] at s1
 have QV : Hid (swA m.Text ⟨HH, fst, Hs⟩ = some SL) := jH (by rw [PB.out]; unfold swA; rw [if_neg hbd, s3])
 obtain ⟨MD, Hv, QW, Kv⟩ := hid4 MB MC s2 HK
 obtain ⟨QX, QY, PI⟩ := own_form' KD.out.all.1
 obtain ⟨NV, KE⟩ := jE (vs.length)
 rw [← KE] at PI
 subst PI
 have QZ : NV ≤ 40 := by rw [KE, KD.out.len, List.length_take]; omega
 have ME := jH KE
 clear hbd HK s2 s3 s4 MB MC KE
 go_upto_region 13 with (go_at_call 25; refine (PA.out _ (PG.out.trans ku5)).mono ?_; rintro e wb ⟨-, HX, H6⟩; obtain ⟨sv, rfl, MF⟩ := HX _ QV.out; obtain ⟨sa, sc, e7⟩ := own_form' MF; rw [← Hv.out] at e7; subst e7)
 obtain ⟨cb, KF, Kf⟩ := OwnC.fresh cq 3 H6 MF (Nat.le_refl _)
 have KG := KD.out.turn (KF (fun _ => False)) (fun q => q) (fun q => q) (fun q => q) (fun q => q)
 have PJ := QT.out.turn (KF (fun _ => False)) (fun q => q)
 have PK := QU.out.trans (KF (fun i => i = 1 ∨ i = 2 ∨ i = 3 ∨ i = 4))
 have y6 := jv wb xb 6 (.slice QX NV QY) (KG.blk.1.cell rfl)
 have R0 := KG.blk.1.lt
 obtain ⟨Kg, PL, PM, R1⟩ := hid4 KG PJ PK (show OwnC 3 cb wb wq.heap.size 85 8 csp (⟨sa, SN, sc⟩ : Sle).v SL from Kf)
 have KZ := jH H6
 obtain ⟨PN, Kh⟩ := jE (NV + 1)
 have R2 := jH (show (vs ++ [(⟨sa, SN, sc⟩ : Sle)]).length = PN by rw [List.length_append, List.length_singleton, Kh, ME.out])
 clear KG PJ PK Kf KF MF HX Kh u0 u1 u2 n0 n1 n2 n3 n4 n5
 go_upto_region 14 with (at_builtin; refine wpList_pushes jr (.tmp 60) (.tmp 62) 78 jr Tryd.underlying78 info_spots jr jd (base := wa.heap.size) (f := sle) (l := vs) jr (by exact Kg.out.all.1.keep ku5) [⟨sa, SN, sc⟩] _ _ jr jt sle_len sle_one (by simp only [jL, ← ME.out]; omega) (by simp only [jL, ← ME.out]; unfold maxLen; omega) (by have := Kg.out.keep.size; first | omega | (simp only [sz_alloc]; omega)) ?_; intro v7 w7 Hc Ki Kj Kk; obtain ⟨R3, R4, e7⟩ := own_form' Hc; rw [R2.out] at e7; subst e7; obtain ⟨c5, KH, Kl, MG, MH⟩ := Kg.out.snoc R1.out (show Keeps wb _ from ku5) Hc Kj Kk; have KI := Kg.out.blk.turn Kl jd; have y6 := KI.1.cell (j := 6) rfl; have f6 := KI.1.thawed 6; have l6 := KI.1.lt)
 obtain ⟨w8, MI⟩ := jE (w7.setCell ⟨xb, 6, none⟩ (.slice R3 PN R4))
 rw [← MI] at KH MG MH
 rw [← MI]
 obtain ⟨R5, PO, R6, R7⟩ := hid4 (PM.out.trans (KH.mono (J := (fun i => i = 1 ∨ i = 2 ∨ i = 3 ∨ i = 4)) fun z h => by rcases h with h | h <;> simp [h])) MG MH (PL.out.turn KH jd)
 clear MI KH Kl MG MH KI y6 f6 l6 Hc Ki Kj Kk R0 Kg PL PM
 go_wp2_with fail
 go_loopw [68] (fun s68 wn => ∃ (j : Nat) (c3 : Nat → Nat), j ≤ SN ∧ s68 = .int .i64 j ∧ Hid (Turn (fun z => z = 4) c5 w8 c3 wn) ∧ Hid (MapC 4 c3 Tryd.prog 3 3 (fun x : Int => .int .i64 x) wfI litI wn ob (2000 * i + j) (own1 i (SL.take j) (ownS (allS m) i)))) (fun s68 _ => SN - (intOf s68).toNat)
 case atStart => exact ⟨0, c5, Nat.zero_le _, rfl, jH (Turn.refl _ _ _), R7⟩
 case round =>
 obtain ⟨wo, R8⟩ := jE wr
 obtain ⟨j, c3, hj, rfl, Hq, HP⟩ := hrel
 have Hb := R5.out.trans (Hq.out.mono (J := (fun i => i = 1 ∨ i = 2 ∨ i = 3 ∨ i = 4)) fun z h => by simp [h])
 by_cases hlt3 : j < SN
 case neg =>
  have QH : decide ((j : Int) < (SN : Int)) = false := decide_eq_false jo
  have Km := PO.out.turn Hq.out jd jd jd jd
  obtain ⟨Kd, Mt⟩ := hid2 Km Hb
  have PP : MapC 4 c3 Tryd.prog 3 3 (fun x : Int => .int .i64 x) wfI litI wr ob (2000 * (i + 1)) (ownS (allS m) (i + 1)) := by have z := HP.out; (rw [show j = SL.length by rw [← Hv.out]; omega, List.take_length, MD.out] at z); exact MapC.mono z (by rw [← MD.out, ← Hv.out]; omega)
  have R9 := jH PP
  clear Km Hb PP
  go_wp2_with fail
  go_roundw
  case rel => exact ⟨i + 1, c3, _, _, by omega, by go_num, Mt, jH (by rw [take_succ_nth _ _ (by rw [allS_len]; exact Hr), ← MD.out]; exact Kd.out), R9, jH (fun k hk => by
   rcases Nat.lt_or_ge k i with q | q
   ·exact M3.out k q
   obtain rfl : k = i := by omega
   exact Kv.out)⟩
  case measure => exact jm
 case pos =>
 have Mx : (j : Int) < (SN : Int) := by omega
 have Km := PO.out.turn Hq.out jd jd jd jd
 have Ra := (R6.out.turn Hq.out jd).here
 obtain ⟨_, _, pe, -, -, -, p4⟩ := Ra
 injection pe with pe1 pe2 pe3
 subst pe1
 rw [← Hv.out] at p4
 obtain ⟨Hd, Hj, My, pc⟩ := p4 jo
 subst My
 have Hk := QW.out (nth SL j) (by rw [nth_eq _ _ (by rw [← Hv.out]; exact hlt3)]; exact List.getElem_mem _)
 obtain ⟨⟨A, Z, ⟨K, D, A2, B, N, Lg⟩⟩, hs⟩ : ∃ s, s = nth SL j := ⟨_, rfl⟩
 rw [← hs] at Hk
 have Rb := Hk.a0
 have Rc := Hk.a1
 dsimp only at Rb Rc
 have g : ∀ q, q < 8 → wr.cell? ⟨Hd, Hj + j * 8 + q, none⟩ = some ((csp ⟨A, Z, ⟨K, D, A2, B, N, Lg⟩⟩).getD q undef) := fun q hq => by rw [hs]; exact pc j q hlt3 hq
 have d0 := jc wr Hd (Hj + j * 8) A (g 0 jo)
 have d1 := jc wr Hd (Hj + j * 8 + 1) Z (g 1 jo)
 have d2 := jc wr Hd (Hj + j * 8 + 2) K (g 2 jo)
 have d3 := jc wr Hd (Hj + j * 8 + 3) D (g 3 jo)
 have d4 := jc wr Hd (Hj + j * 8 + 4) A2 (g 4 jo)
 have d5 := jc wr Hd (Hj + j * 8 + 5) B (g 5 jo)
 have d6 := jc wr Hd (Hj + j * 8 + 6) N (g 6 jo)
 have d7 := jv wr Hd (Hj + j * 8 + 7) (.bool Lg) (g 7 jo)
 have MJ : Hd < wr.heap.size := lt_of_cell d0
 have Rd : Hid ((nth SL j).A = A) := jH (by rw [← hs])
 clear hs g pc p4 pe2 pe3 Hk R8
 go_upto_region 17 with fail
 obtain ⟨wz, cz, PQ, Re, KJ, MK⟩ := one_paint wr c3 (.cells #[.int .i64 A, .int .i64 Z, .int .i64 K, .int .i64 D, .int .i64 A2, .int .i64 B, .int .i64 N, .bool Lg] 85) 7
 rw [← PQ]
 obtain ⟨PR, HL⟩ := jE (wr.heap.size)
 rw [← HL]
 rw [← HL] at MK
 have PS := Hq.out.trans (KJ (fun z => z = 4))
 have PT := HP.out.turn (KJ (fun _ => False)) (fun q => q)
 have x7 := jv wz.drew xb 7 (.map (some ob)) ((Km.blk.turn (KJ (fun _ => False)) (fun q => q)).1.cell rfl)
 have y0 := jc wz.drew PR 0 A (MK.1.cell rfl)
 obtain ⟨Rf, ML⟩ := hid2 PS PT
 clear PQ Re KJ MK HL PS PT Km Hb d0 d1 d2 d3 d4 d5 d6 d7 MJ
 refine wp_region_head (S := Cells [(xb, 7, .map (some ob)), (PR, 0, .int .i64 A)]) 7 jx jx jx jx jd jx ?hS1 (fun hHeld => ?_)
 case hS1 => exact ⟨x7, y0, trivial⟩
 simp only [jU]
 refine jp 0 hHeld ?_
 refine jp 1 hHeld ?_
 refine jp 2 hHeld ?_
 refine jp 3 hHeld ?_
 refine jp 4 hHeld ?_
 refine jp 5 hHeld ?_
 refine jp 6 hHeld ?_
 refine wpAnyH_done jx ?_ _
 dsimp only [TailQ]
 clear hHeld x7 y0
 have hn := HP.out
 go_upto_region 18 with (at_mapUpdate; refine wpList_put _ rfl (.tmp 75) (.tmp 77) (.tmp 78) rfl MKII ob (2000 * i + j) _ rfl (ML.out.1.keep ku5) (by unfold maxLen; omega) A rfl (wfI_of jo jo) (i : Int) rfl (wfI_of jo jo) ?_; intro w4 HR Ke)
 have PU : Turn (fun z => z = 4) c5 w8 cz w4 := (Rf.out.trans ((show Keeps wz _ from ku5).turn _ cz)).trans (grown_turn Ke (fun b e => by cases e; exact ML.out.2))
 have K7 : MapC 4 cz Tryd.prog 3 3 (fun x : Int => .int .i64 x) wfI litI w4 ob (2000 * i + (j + 1)) (own1 i (SL.take (j + 1)) (ownS (allS m) i)) := by (rw [own1_take _ _ _ (by rw [← Hv.out]; exact hlt3), Rd.out]); exact ⟨HR, ML.out.2⟩
 obtain ⟨H8, Rg⟩ := hid2 PU K7
 clear PU K7 HR Ke hn
 go_wp2_with fail
 go_roundw
 case rel => exact ⟨j + 1, cz, by omega, by go_num, H8, Rg⟩
 case measure => exact jm
