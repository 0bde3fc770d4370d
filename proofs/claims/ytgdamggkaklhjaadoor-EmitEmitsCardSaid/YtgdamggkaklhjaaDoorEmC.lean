/-
check of emit: do the parts fit?
-/
import Derived.Test.YtgdamggkaklhjaaDoorEmG
set_option linter.all false
namespace Go.Proofs.YtgdamggkaklhjaaDoor
open Go.RowKit BH
set_option maxHeartbeats 1000000000
set_option maxRecDepth 100000
def PaAt (w : World) (v : Value) (l : List Pa) : Prop :=
 ∃ tv : Nat → Value, Arr w v l.length 2 (fun i j => if j = 0 then .int .i64 (nth l i).Func else tv i) ∧ ∀ i, i < l.length → Ints w (tv i) (nth l i).Blocks
theorem PaAt.keep {w w' : World} {v : Value} {l : List Pa} (h : PaAt w v l) (hk : Keeps w w') : PaAt w' v l := by
 obtain ⟨tv, h1, h2⟩ := h
 exact ⟨tv, h1.keep hk, fun i hi => Arr.keep (h2 i hi) hk⟩
def fnS (l : List Pa) (i : Nat) : List Int := (l.take i).map (·.Func)
def bkS (l : List Pa) (i : Nat) : List Int := (l.take i).flatMap (·.Blocks)
def headBC (f : Fl) (l : List Pa) (i : Nat) : Bool := headBad f l i || decide ((nth l i).Func ∈ fnS l i)
def partBC (f : Fl) (l : List Pa) (i : Nat) : Bool := headBC f l i || anyN (blkBad f l i) (nth l i).Blocks.length
def fitC (f : Fl) (l : List Pa) : Bool := decide (l.length = f.Firsts.length) && (!anyN (partBC f l) l.length && decide ((l.flatMap (·.Blocks)).length = f.Blocks.length))
theorem mem_fnS {l : List Pa} {i : Nat} {x : Int} : x ∈ fnS l i ↔ ∃ j, j < i ∧ j < l.length ∧ (nth l j).Func = x := by
 unfold fnS
 rw [List.mem_map]
 constructor
 ·rintro ⟨p, hp, rfl⟩
  obtain ⟨j, hj, e⟩ := List.mem_iff_getElem.1 hp
  rw [List.length_take] at hj
  rw [List.getElem_take] at e
  exact ⟨j, by omega, by omega, by rw [nth_eq _ _ jo, e]⟩
 rintro ⟨j, h1, h2, rfl⟩
 refine ⟨nth l j, ?_, rfl⟩
 rw [nth_eq _ _ h2]
 exact List.mem_iff_getElem.2 ⟨j, by rw [List.length_take]; omega, by rw [List.getElem_take]⟩
theorem mem_bkS {l : List Pa} {i j : Nat} {x : Int} (h1 : j < i) (h2 : j < l.length) (hx : x ∈ (nth l j).Blocks) : x ∈ bkS l i := by
 unfold bkS
 rw [List.mem_flatMap]
 refine ⟨nth l j, ?_, hx⟩
 rw [nth_eq _ _ h2]
 exact List.mem_iff_getElem.2 ⟨j, by rw [List.length_take]; omega, by rw [List.getElem_take]⟩
theorem fitC_is (f : Fl) (l : List Pa) : fitC f l = fitP f l := by
 unfold fitC fitP
 congr 2
 congr 1
 cases h : anyN (partBad f l) l.length with
 | true =>
  obtain ⟨i, hi, hb⟩ := anyN_true h
  refine anyN_yes hi ?_
  unfold partBad at hb
  unfold partBC headBC
  rw [Bool.or_eq_true] at hb
  rcases hb with q | q
  ·rw [q]; rfl
  rw [q, Bool.or_true]
 | false =>
  refine anyN_no fun i hi => ?_
  have hb := anyN_false h i hi
  unfold partBad at hb
  rw [Bool.or_eq_false_iff] at hb
  unfold partBC headBC
  rw [hb.1, hb.2, Bool.or_false, Bool.false_or]
  refine decide_eq_false fun hm => ?_
  obtain ⟨j, h1, h2, e⟩ := mem_fnS.1 hm
  have H0 := anyN_false h j h2
  unfold partBad at H0
  rw [Bool.or_eq_false_iff] at H0
  have a1 := of_decide_eq_false hb.1
  have a2 := of_decide_eq_false H0.1
  have H1 : 0 < (nth l i).Blocks.length := by omega
  have H2 : 0 < (nth l j).Blocks.length := by omega
  have e1 : nth (nth l i).Blocks 0 = nth f.Firsts (nth l i).Func.toNat := Classical.byContradiction fun q => a1 (Or.inr (Or.inr (Or.inr q)))
  have e2 : nth (nth l j).Blocks 0 = nth f.Firsts (nth l j).Func.toNat := Classical.byContradiction fun q => a2 (Or.inr (Or.inr (Or.inr q)))
  have a3 := of_decide_eq_false (anyN_false hb.2 0 H1)
  refine a3 (Or.inr (Or.inr (Or.inl ?_)))
  unfold seenB
  rw [List.mem_append]
  refine Or.inl (mem_bkS h1 h2 ?_)
  rw [e1, ← e, ← e2]
  exact nthMem H2
theorem run_mk {P : Program} {α : Type} {t e : TypeId} {bytes : Nat} (h : α → Value) (z : α) (ht : P.underlying t = some (.slice e)) (hi : (P.info? e).map (fun i => (i.zero, i.size, i.bytes)) = some (some (h z), 1, bytes)) (hz : (h z).cells = #[h z]) {n : Nat} (hb : bytes * n ≤ 281474976710656) (hn : n ≤ maxLen) :
  ∃ o : Obj, (∀ w, (Instr.makeSlice t (.int .i64 n) (.int .i64 n)).run P w = .ok (.slice (some ⟨w.heap.size, 0, none⟩) n n) (w.alloc o)) ∧ ∀ (w : World) (B : Nat), B ≤ w.heap.size → Own (w.alloc o) B e 1 (fun x => [h x]) (.slice (some ⟨w.heap.size, 0, none⟩) n n) (List.replicate n z) := by
 obtain ⟨ti, h1, h2, h3, h4⟩ := infoParts hi
 refine ⟨.cells (madeCells (h z).cells (n * 1)) e, fun w => ?_, fun w B hB => ?_⟩
 ·have q := run_make (P := P) w t e ti (h z) ht h1 h2 .i64 .i64 n n jo (Int.le_refl _) (by rw [h4]; omega) (by unfold maxLen at hn; omega)
  rw [h3] at q
  simpa using q
 exact ownMadeG h z hz (World.ownsRow_lit w _ n hB hn (size_madeCells _ _))
theorem two_rows {α β : Type} {W : World} {o1 o2 : Obj} {e1 e2 : TypeId} {h1 : α → Value} {h2 : β → Value} {n1 n2 : Nat} {l1 : List α} {l2 : List β} {w : World} (i j : Nat) (hk : Keeps ((W.alloc o1).alloc o2) w)
  (a1 : ∀ (w : World) (B : Nat), B ≤ w.heap.size → Own (w.alloc o1) B e1 1 (fun x => [h1 x]) (.slice (some ⟨w.heap.size, 0, none⟩) n1 n1) l1) (a2 : ∀ (w : World) (B : Nat), B ≤ w.heap.size → Own (w.alloc o2) B e2 1 (fun x => [h2 x]) (.slice (some ⟨w.heap.size, 0, none⟩) n2 n2) l2) (c : Nat → Nat) :
  ∃ c', (∀ I, Turn I c W c' w) ∧ OwnC i c' w W.heap.size e1 1 (fun x => [h1 x]) (.slice (some ⟨W.heap.size, 0, none⟩) n1 n1) l1 ∧ OwnC j c' w W.heap.size e2 1 (fun x => [h2 x]) (.slice (some ⟨W.heap.size + 1, 0, none⟩) n2 n2) l2 := by
 have k0 : Keeps W w := (((Keeps.refl W).alloc o1).alloc o2).trans hk
 refine ⟨fun b => if b = W.heap.size then i else if b = W.heap.size + 1 then j else c b, fun I => ⟨k0.only _, fun b hb => by (show (if b = W.heap.size then i else if b = W.heap.size + 1 then j else c b) = c b); rw [if_neg jo, if_neg jo]⟩, ⟨(a1 W W.heap.size (Nat.le_refl _)).keep (((Keeps.refl _).alloc o2).trans hk), fun b q => ?_⟩, ⟨?_, fun b q => ?_⟩⟩
 ·cases q; exact if_pos rfl
 ·have z := a2 (W.alloc o1) W.heap.size (by rw [sz_alloc]; omega)
  rw [sz_alloc] at z
  exact z.keep hk
 cases q
 show (if W.heap.size + 1 = W.heap.size then i else if W.heap.size + 1 = W.heap.size + 1 then j else c _) = j
 rw [if_neg jo, if_pos rfl]
theorem bkS_succ {l : List Pa} {i : Nat} (h : i < l.length) : bkS l (i + 1) = bkS l i ++ (nth l i).Blocks := by
 unfold bkS
 rw [take_succ_nth l i h, List.flatMap_append]
 simp
theorem seenB_succ {l : List Pa} {i k : Nat} (h : k < (nth l i).Blocks.length) : seenB l i (k + 1) = seenB l i k ++ [nth (nth l i).Blocks k] := by
 unfold seenB
 rw [take_succ_nth _ k h, List.append_assoc]
theorem seenB_zero (l : List Pa) (i : Nat) : seenB l i 0 = bkS l i := by unfold seenB bkS; simp
theorem seenB_len {l : List Pa} {i k : Nat} (h : k ≤ (nth l i).Blocks.length) : (seenB l i k).length = (bkS l i).length + k := by
 unfold seenB bkS
 rw [List.length_append, List.length_take, Nat.min_eq_left h]
theorem fnS_succ {l : List Pa} {i : Nat} (h : i < l.length) : fnS l (i + 1) = fnS l i ++ [(nth l i).Func] := by
 unfold fnS
 rw [take_succ_nth l i h, List.map_append]
 rfl
theorem nd_le {s : List Int} {n : Nat} (h : s.Nodup) (hb : ∀ x, x ∈ s → 0 ≤ x ∧ x < n) : s.length ≤ n := by
 have q := h.length_le_of_subset (l₂ := (List.range n).map fun i : Nat => (i : Int)) fun x hx => by have := hb x hx; rw [List.mem_map]; exact ⟨x.toNat, List.mem_range.2 jo, by omega⟩
 simpa using q
theorem nd_snoc {s : List Int} {x : Int} (h : s.Nodup) (hx : ¬ x ∈ s) : (s ++ [x]).Nodup := by
 rw [List.nodup_append]
 refine ⟨h, by simp, fun a ha b hb e => ?_⟩
 rw [List.mem_singleton.1 hb] at e
 exact hx (e ▸ ha)
theorem fits_any {v lv : Value} {f : Fl} {l : List Pa} {w : World} (hF : FlowAt w v f) (hl : PaAt w lv l) (h1 : f.Blocks.length ≤ 1000000000) (h2 : f.Firsts.length ≤ 1000000000) :
  Calls Tryd.prog 11 #[v, lv] w fun e w' => e = .returned (.int .i64 (if fitP f l = true then 0 else 8)) ∧ Keeps w w' := by
 rw [← fitC_is]
 obtain ⟨f0, f1, f2, rfl, ⟨cv, av, lv', Kz, -⟩, -, hI⟩ := hF
 obtain ⟨bo, H4, rfl, -, -, -, b4⟩ := Kz
 obtain ⟨fo, Hc, rfl, -, -, -, q4⟩ := hI
 obtain ⟨tv, ⟨lo, KA, rfl, -, -, -, l4⟩, K8⟩ := hl
 obtain ⟨NF, Hu⟩ := jE (f.Firsts.length)
 obtain ⟨NB, HC⟩ := jE (f.Blocks.length)
 rw [← Hu] at h2 q4 ⊢
 rw [← HC] at h1 b4 ⊢
 obtain ⟨R, hR⟩ : ∃ R : Int, R = if fitC f l = true then 0 else 8 := ⟨_, rfl⟩
 rw [← hR]
 obtain ⟨W, hW, Hf, K9⟩ : ∃ W, W = w.alloc (.cells #[.slice bo NB H4, f1, .slice fo NF Hc] 45) ∧ Blk W w.heap.size (.cells #[.slice bo NB H4, f1, .slice fo NF Hc] 45) ∧ Keeps w W := ⟨_, rfl, Blk.top _ _, (Keeps.refl _).alloc _⟩
 have m0 := Hf.cell (j := 0) rfl
 have m2 := Hf.cell (j := 2) rfl
 obtain ⟨HW, HK, HX⟩ := hid3 hW K9 Hf
 by_cases hlen : l.length = NF
 case neg =>
  have HR : Hid (R = 8) := jH (by rw [hR, if_neg]; unfold fitC; rw [← Hu, decide_eq_false hlen]; simp)
  have t0 : ((l.length : Int) == (NF : Int)) = false := by simp; omega
  clear hlen hR hW K9 Hf b4 q4 l4 K8 Hu HC
  go_enter Tryd.func11, Tryd.ntmps11
  go_upto_region 1 with fail
  rw [← HW.out]
  go_wp2_with fail
  go_ret
  exact ⟨by rw [HR.out]; rfl, HK.out⟩
 case pos =>
 rw [hlen] at l4 K8 ⊢
 have H8 : Hid (∀ i, i < NF → partBC f l i = true → R = 8) := jH fun i hi hb => by rw [hR, if_neg]; unfold fitC; (rw [anyN_yes (by rw [hlen]; exact hi) hb]); simp
 have KB : Hid ((∀ i, i < NF → partBC f l i = false) → R = if (l.flatMap (·.Blocks)).length = NB then 0 else 8) := jH fun h => by
  rw [hR]
  unfold fitC
  rw [anyN_no (by rw [hlen]; exact h), ← Hu, ← HC, decide_eq_true hlen]
  by_cases q : (l.flatMap (·.Blocks)).length = NB
  ·rw [if_pos q, decide_eq_true q]; rfl
  rw [if_neg q, decide_eq_false q]; rfl
 have KC := jH Hu
 have Ka := jH HC
 have HD := jH hlen
 obtain ⟨o5, HE, Kj⟩ := run_mk (P := Tryd.prog) (n := NF) (fun x : Bool => bV x) false Tryd.underlying89 info_boolD rfl jo (by unfold maxLen; omega)
 obtain ⟨o6, HF, Kk⟩ := run_mk (P := Tryd.prog) (n := NB) (fun x : Bool => bV x) false Tryd.underlying89 info_boolD rfl jo (by unfold maxLen; omega)
 obtain ⟨Kb, Kc, HG⟩ := hid3 Kj Kk (show _ ∧ _ from ⟨HE, HF⟩)
 clear hR Hu HC hlen Hf hW K9 Kj Kk HE HF
 go_enter Tryd.func11, Tryd.ntmps11
 go_upto_region 3 with fail
 rw [← HW.out]
 clear HW
 go_cut [5, 6] (fun s5 s6 wc => ∃ (g5 g6 : Nat) (cc : Nat → Nat), s5 = .slice (some ⟨g5, 0, none⟩) NF NF ∧ s6 = .slice (some ⟨g6, 0, none⟩) NB NB ∧ Hid (Turn (fun z => z = 1 ∨ z = 2) (fun _ => 0) W cc wc) ∧ Hid (OwnB 1 cc wc W.heap.size (.slice (some ⟨g5, 0, none⟩) NF NF) (List.replicate NF false)) ∧ Hid (OwnB 2 cc wc W.heap.size (.slice (some ⟨g6, 0, none⟩) NB NB) (List.replicate NB false)))
 case first =>
  obtain ⟨HE, HF⟩ := HG.out
  go_upto_region 3 with fail
  refine wp_region_held_drew (S := Cells [(w.heap.size, 2, .slice fo NF Hc), (w.heap.size, 0, .slice bo NB H4)]) jx ⟨m2, m0, trivial⟩ (fun H0 => ?_)
  clear m0 m2
  refine jp 0 H0 ?_
  refine jp 1 H0 ?_
  refine jp 2 H0 ?_
  refine jp 4 H0 ?_
  refine jp 5 H0 ?_
  refine jp 6 H0 ?_
  refine wpAnyH_ready (rs := [3, 7]) jx (by simp) ?_
  refine AllReadyH.cons (o := ?oa) ?ha ?sa (AllReadyH.cons (o := ?ob) ?hb ?sb AllReadyH.nil)
  case ha => (simp only [jT]; try rfl)
  case hb => (simp only [jT]; try rfl)
  case sa =>
   intro K hK
   go_simp
   refine goOn hK (Cells.keep H0 ((Keeps.refl _).alloc _)) (fun hHeld2 => ?_)
   clear hK K H0
   have H0 := hHeld2
   clear hHeld2
   refine jp 8 H0 ?_
   refine readyC 7 ?_
   intro K hK
   go_simp
   refine goOn hK (Cells.keep H0 ((Keeps.refl _).alloc _)) (fun hHeld2 => ?_)
   clear hK K H0
   have H0 := hHeld2
   clear hHeld2
   refine jp 9 H0 ?_
   refine wpAnyH_done jx ?_ _
   clear H0 HE HF
   obtain ⟨cc, ht, HH, HI⟩ := two_rows 1 2 ((Keeps.refl _).drew) Kb.out Kc.out (fun _ => 0)
   obtain ⟨HT, H3, H1⟩ := hid3 (ht (fun z => z = 1 ∨ z = 2)) HH HI
   clear ht HH HI
   go_wp2_with fail
   go_meet
   case rel => exact ⟨_, _, cc, rfl, rfl, HT, H3, H1⟩
  case sb =>
  intro K hK
  go_simp
  refine goOn hK (Cells.keep H0 ((Keeps.refl _).alloc _)) (fun hHeld2 => ?_)
  clear hK K H0
  have H0 := hHeld2
  clear hHeld2
  refine readyC 3 ?_
  intro K hK
  go_simp
  refine goOn hK (Cells.keep H0 ((Keeps.refl _).alloc _)) (fun hHeld2 => ?_)
  clear hK K H0
  have H0 := hHeld2
  clear hHeld2
  refine jp 8 H0 ?_
  refine jp 9 H0 ?_
  refine wpAnyH_done jx ?_ _
  clear H0 HE HF
  obtain ⟨cc, ht, HI, HH⟩ := two_rows 2 1 ((Keeps.refl _).drew) Kc.out Kb.out (fun _ => 0)
  obtain ⟨HT, H3, H1⟩ := hid3 (ht (fun z => z = 1 ∨ z = 2)) HH HI
  clear ht HH HI
  go_wp2_with fail
  go_meet
  case rel => exact ⟨_, _, cc, rfl, rfl, HT, H3, H1⟩
 case rest =>
 obtain ⟨g5, g6, cc, rfl, rfl, HT, H3, H1⟩ := hcut
 clear HG Kb Kc m0 m2
 go_wp2_with fail
 go_loopw [28, 7] (fun s28 s7 wr => ∃ (i : Nat) (F5 B6 : List Bool) (cc : Nat → Nat), i ≤ NF ∧ s28 = .int .i64 i ∧ s7 = .int .i64 (bkS l i).length ∧ Hid (Turn (fun z => z = 1 ∨ z = 2) (fun _ => 0) W cc wr) ∧ Hid (OwnB 1 cc wr W.heap.size (.slice (some ⟨g5, 0, none⟩) NF NF) F5) ∧ Hid (OwnB 2 cc wr W.heap.size (.slice (some ⟨g6, 0, none⟩) NB NB) B6) ∧ Hid (F5.length = NF ∧ B6.length = NB ∧ (∀ x, x < NF → nth F5 x = decide ((x : Int) ∈ fnS l i)) ∧ ∀ x, x < NB → nth B6 x = decide ((x : Int) ∈ bkS l i)) ∧ Hid ((bkS l i).Nodup ∧ ∀ x, x ∈ bkS l i → 0 ≤ x ∧ x < NB) ∧ Hid (∀ j, j < i → partBC f l j = false)) (fun s28 _ _ => NF - (intOf s28).toNat)
 case atStart => exact ⟨0, _, _, cc, Nat.zero_le _, rfl, rfl, HT, H3, H1, jH ⟨List.length_replicate, List.length_replicate, fun x hx => by rw [nth_eq _ _ (by rw [List.length_replicate]; exact hx), List.getElem_replicate]; simp [fnS], fun x hx => by rw [nth_eq _ _ (by rw [List.length_replicate]; exact hx), List.getElem_replicate]; simp [bkS]⟩, jH ⟨by simp [bkS], fun x hx => by simp [bkS] at hx⟩, jH (fun j hj => absurd hj (Nat.not_lt_zero _))⟩
 case round =>
 clear HT H3 H1
 obtain ⟨i, F5, B6, cc, hi, rfl, rfl, HT, H3, H1, HL, Hv, Kl⟩ := hrel
 have H9 : Hid (Keeps w wr) := jH (HK.out.trans (HT.out.below (Nat.le_refl _) (fun _ _ => rfl) jd))
 have Hk : Hid (Keeps W wr) := jH (HT.out.below (Nat.le_refl _) (fun _ _ => rfl) jd)
 by_cases H7 : i < NF
 case neg =>
  obtain rfl : i = NF := by omega
  have Hl : (bkS l i).length = (l.flatMap (·.Blocks)).length := by unfold bkS; rw [← HD.out, List.take_length]
  have hr := KB.out Kl.out
  rw [← Hl] at hr
  have m0 := jv wr w.heap.size 0 (.slice bo NB H4) ((HX.out.keep Hk.out).cell rfl)
  obtain ⟨CT, Hm⟩ := jE ((bkS l i).length)
  rw [← Hm] at hr ⊢
  by_cases hq : CT = NB
  ·subst hq
   have HR := jH (show R = 0 by rw [hr, if_pos rfl])
   clear Hl hr Hm H7 hi
   go_wp2_with fail
   go_ret
   exact ⟨by rw [HR.out]; rfl, H9.out⟩
  have HR := jH (show R = 8 by rw [hr, if_neg hq])
  have tq : ((CT : Int) == (NB : Int)) = false := by simp; omega
  clear Hl hr Hm H7 hi hq
  go_wp2_with fail
  go_ret
  exact ⟨by rw [HR.out]; rfl, H9.out⟩
 case pos =>
 have hlz : (i : Int) < (NF : Int) := by omega
 have Km : i < l.length := by rw [HD.out]; exact H7
 obtain ⟨lb, Kn, rfl, lc⟩ := l4 jo
 obtain ⟨KD, tc, te, -, -, -, t4⟩ := K8 i H7
 obtain ⟨⟨F, BL⟩, hP⟩ : ∃ p, p = nth l i := ⟨_, rfl⟩
 have d0 : wr.cell? ⟨lb, Kn + i * 2, none⟩ = some (.int .i64 F) := by have z := H9.out.cell (lc i 0 H7 jo); rw [if_pos rfl, ← hP] at z; exact z
 have d1 := jv wr lb (Kn + i * 2 + 1) (tv i) (H9.out.cell (lc i 1 H7 jo))
 rw [← hP] at te t4
 dsimp only at te t4
 rw [te] at d1
 obtain ⟨BN, Kd⟩ := jE (BL.length)
 rw [← Kd] at d1 t4
 obtain ⟨wq, cq, Ko, HY, HZ, K0⟩ := one_paint wr cc (.cells #[.int .i64 F, .slice KD BN tc] 54) 7
 obtain ⟨b9, Hn⟩ := jE (wr.heap.size)
 rw [← Hn] at K0
 obtain ⟨HP, Ho, Hp, Kp⟩ := hid4 hP Kd (H9.out.trans HY) (HT.out.trans (HZ (fun z => z = 1 ∨ z = 2)))
 obtain ⟨Hq, HJ, Hb⟩ := hid3 (H3.out.turn (HZ (fun _ => False)) (fun q => q)) (H1.out.turn (HZ (fun _ => False)) (fun q => q)) K0
 obtain ⟨n0, n1⟩ := K0.1.k2
 have m0 := jv wq w.heap.size 0 (.slice bo NB H4) (((HX.out.keep Hk.out).keep HY).cell rfl)
 have m2 := jv wq w.heap.size 2 (.slice fo NF Hc) (((HX.out.keep Hk.out).keep HY).cell rfl)
 obtain ⟨Kq, KE⟩ := hid2 Ko t4
 clear HT H3 H1 hP Kd HY HZ K0 Ko te t4
 go_upto_region 8 with fail
 rw [← Kq.out, ← Hn]
 clear Kq Hn d0 d1
 have Ha : headBC f l i = (decide (F < 0 ∨ (NF : Int) ≤ F ∨ BN = 0 ∨ ¬ nth BL 0 = nth f.Firsts F.toNat) || decide (F ∈ fnS l i)) := by unfold headBC headBad; rw [← HP.out, Ho.out, KC.out]
 by_cases hF0 : F < 0
 case pos =>
  have HR := jH (H8.out i H7 (show partBC f l i = true by unfold partBC; rw [Ha, decide_eq_true (Or.inl hF0)]; rfl))
  have t1 : decide (F < 0) = true := decide_eq_true hF0
  clear Ha hF0
  go_quiet (fail)
  go_wp2_with fail
  go_ret
  exact ⟨by rw [HR.out]; rfl, Hp.out.drewN _⟩
 case neg =>
 obtain ⟨fn, rfl⟩ : ∃ n : Nat, F = n := ⟨F.toNat, by omega⟩
 have t1 : decide ((fn : Int) < 0) = false := decide_eq_false hF0
 by_cases hF1 : NF ≤ fn
 case pos =>
  have HR := jH (H8.out i H7 (show partBC f l i = true by unfold partBC; rw [Ha, decide_eq_true (Or.inr (Or.inl jo))]; rfl))
  have t2 : decide ((NF : Int) ≤ (fn : Int)) = true := decide_eq_true jo
  have HM : decide (NF ≤ fn) = true := decide_eq_true hF1
  clear Ha hF0 hF1
  go_quiet (fail)
  go_wp2_with fail
  go_ret
  exact ⟨by rw [HR.out]; rfl, Hp.out.drewN _⟩
 case neg =>
 have t2 : decide ((NF : Int) ≤ (fn : Int)) = false := decide_eq_false jo
 have HM : decide (NF ≤ fn) = false := decide_eq_false hF1
 have hfz : (fn : Int) < (NF : Int) := by omega
 obtain ⟨Hw, HN, Hx, HO⟩ := HL.out
 obtain ⟨pp, p2, p3, p4, p5⟩ := ownC_cell Hq.out (j := fn) (by rw [Hw]; omega)
 have p1 := jv wq g5 fn (.bool (nth F5 fn)) pp
 clear pp
 have Hy := Hx fn jo
 cases hf5 : nth F5 fn with
 | true =>
  have HR := jH (H8.out i H7 (show partBC f l i = true by unfold partBC; rw [Ha, ← Hy, hf5, Bool.or_true]; rfl))
  rw [hf5] at p1
  clear Ha hF0 hF1 Hw HN Hx HO p2 p3 p4 p5 Hy hf5
  go_quiet (fail)
  go_wp2_with fail
  go_ret
  exact ⟨by rw [HR.out]; rfl, Hp.out.drewN _⟩
 | false =>
 rw [hf5] at p1
 by_cases hB0 : BN = 0
 case pos =>
  have HR := jH (H8.out i H7 (show partBC f l i = true by unfold partBC; rw [Ha, decide_eq_true (Or.inr (Or.inr (Or.inl hB0)))]; rfl))
  subst hB0
  clear Ha hF0 hF1 Hw HN Hx HO p2 p3 p4 p5 Hy hf5
  go_quiet (fail)
  go_wp2_with fail
  go_ret
  exact ⟨by rw [HR.out]; rfl, Hp.out.drewN _⟩
 case neg =>
 obtain ⟨tb, HQ, rfl, K1⟩ := KE.out jo
 obtain ⟨fb, Ke, rfl, Kf⟩ := q4 jo
 have K2 := Hp.out
 obtain ⟨B0, Hg⟩ := jE (nth BL 0)
 obtain ⟨G0, Hh⟩ := jE (nth f.Firsts fn)
 have e0 : wq.cell? ⟨tb, HQ, none⟩ = some (.int .i64 B0) := by have z := K2.cell (K1 0 0 jo jo); simp only [Nat.zero_mul, Nat.add_zero] at z; rw [Hg]; exact z
 have e1 : wq.cell? ⟨fb, Ke + fn, none⟩ = some (.int .i64 G0) := by have z := K2.cell (Kf fn 0 jo jo); simp only [Nat.mul_one, Nat.add_zero] at z; rw [Hh]; exact z
 have Kr : (0 : Int) < (BN : Int) := by omega
 have KF : 0 < BN := by omega
 have KG : ((BN : Int) == 0) = false := by simp; omega
 have KH : (BN == 0) = false := by simp; omega
 rw [Int.toNat_natCast, ← Hg, ← Hh] at Ha
 by_cases Hf : B0 = G0
 case neg =>
  have HR := jH (H8.out i H7 (show partBC f l i = true by unfold partBC; rw [Ha, decide_eq_true (Or.inr (Or.inr (Or.inr Hf)))]; rfl))
  have t5 : (B0 == G0) = false := by simpa using Hf
  clear Ha hF0 hF1 hB0 Hf Hw HN Hx HO p2 p3 p4 p5 Hy hf5 K2 Hg Hh K1 Kf
  go_quiet (fail)
  go_wp2_with fail
  go_ret
  exact ⟨by rw [HR.out]; rfl, Hp.out.drewN _⟩
 case pos =>
 obtain rfl : B0 = G0 := Hf
 have KI : Hid (headBC f l i = false) := jH (by rw [Ha, ← Hy, hf5, Bool.or_false]; refine decide_eq_false ?_; rintro (q | q | q | q) <;> first | omega | exact q rfl)
 obtain ⟨Hz, Kg⟩ := hid2 (show _ ∧ _ ∧ _ ∧ _ from ⟨Hw, HN, Hx, HO⟩) K1
 clear Ha hF0 hF1 hB0 Hw HN Hx HO p2 p3 p4 p5 Hy hf5 K2 Hg Hh K1 Kf
 refine wp_region_held_drew (S := Cells [(b9, 0, .int .i64 fn), (b9, 1, .slice (some ⟨tb, HQ, none⟩) BN tc), (g5, fn, .bool false), (tb, HQ, .int .i64 B0), (w.heap.size, 2, .slice (some ⟨fb, Ke, none⟩) NF Hc), (fb, Ke + fn, .int .i64 B0)]) jx ⟨n0, n1, p1, e0, m2, e1, trivial⟩ (fun H0 => ?_)
 clear n0 n1 p1 e0 m2 e1 m0
 refine jp 0 H0 ?_
 refine jp 1 H0 ?_
 refine jp 2 H0 ?_
 refine jp 3 H0 ?_
 refine jp 4 H0 ?_
 refine jp 5 H0 ?_
 refine jp 6 H0 ?_
 refine jp 7 H0 ?_
 refine jp 8 H0 ?_
 refine jp 9 H0 ?_
 refine jp 10 H0 ?_
 refine jp 11 H0 ?_
 refine jp 12 H0 ?_
 refine jp 13 H0 ?_
 refine jp 14 H0 ?_
 refine jp 15 H0 ?_
 refine jp 16 H0 ?_
 refine jp 17 H0 ?_
 refine jp 18 H0 ?_
 refine jp 19 H0 ?_
 refine jp 20 H0 ?_
 refine jp 21 H0 ?_
 refine jp 22 H0 ?_
 refine jp 23 H0 ?_
 refine jp 24 H0 ?_
 refine jp 25 H0 ?_
 refine jp 26 H0 ?_
 refine jp 27 H0 ?_
 refine jp 28 H0 ?_
 refine jp 29 H0 ?_
 refine jp 30 H0 ?_
 refine jp 31 H0 ?_
 refine jp 32 H0 ?_
 refine jp 33 H0 ?_
 refine jp 34 H0 ?_
 refine jp 35 H0 ?_
 refine wpAnyH_done jx ?_ _
 clear H0 KG KH Kr KF t1 t2 HM
 have Hd : Keeps wq wq.drew := (Keeps.refl _).drew
 obtain ⟨Hj, H5, H6, Hr⟩ := hid4 (Hb.out.keep Hd) (Hq.out.keep Hd) (HJ.out.keep Hd) (Kp.out.keep Hd)
 obtain ⟨wz, HS⟩ := jE (wq.drew)
 rw [← HS] at Hj H5 H6 Hr ⊢
 clear HS Hd Hb Hq HJ Kp Hp
 obtain ⟨pp, p2, p3, p4, p5⟩ := ownC_cell H5.out (j := fn) (by rw [Hz.out.1]; omega)
 have p1 := jv wz g5 fn (.bool (nth F5 fn)) pp
 have n0 := Hj.out.1.cell (j := 0) rfl
 obtain ⟨wy, Hi⟩ := jE (wz.setCell ⟨g5, fn, none⟩ (.bool true))
 have K3 : Turn (fun z => z = 1) cq wz cq wy := by rw [Hi]; exact p5 _
 have H3 : Hid (OwnB 1 cq wy W.heap.size (.slice (some ⟨g5, 0, none⟩) NF NF) (F5.set fn true)) := jH (by rw [Hi]; exact p4 true)
 obtain ⟨H1, Hb, HT⟩ := hid3 (H6.out.turn K3 jd) (Hj.out.turn K3 jd) (Hr.out.trans (K3.mono (J := fun z => z = 1 ∨ z = 2) fun z q => Or.inl q))
 clear pp p4 p5 K3 Hj H5 H6 Hr
 go_upto_region 11 with fail
 rw [← Hi]
 clear Hi p1 p2 p3 n0
 have n1 := Hb.out.1.cell (j := 1) rfl
 go_wp2_with fail
 clear n1
 obtain ⟨CT, Hm⟩ := jE ((bkS l i).length)
 rw [← Hm]
 have Ks := jH Hm
 clear Hm
 go_loopw [75, 7] (fun s75 s7 wr => ∃ (k : Nat) (B6 : List Bool) (cc : Nat → Nat), k ≤ BN ∧ s75 = .int .i64 k ∧ s7 = .int .i64 ((CT + k : Nat) : Int) ∧ Hid (Turn (fun z => z = 1 ∨ z = 2) (fun _ => 0) W cc wr) ∧ Hid (OwnB 1 cc wr W.heap.size (.slice (some ⟨g5, 0, none⟩) NF NF) (F5.set fn true)) ∧ Hid (OwnB 2 cc wr W.heap.size (.slice (some ⟨g6, 0, none⟩) NB NB) B6) ∧ Hid (BlkC 7 cc wr b9 (.cells #[.int .i64 fn, .slice (some ⟨tb, HQ, none⟩) BN tc] 54)) ∧ Hid (B6.length = NB ∧ ∀ x, x < NB → nth B6 x = decide ((x : Int) ∈ seenB l i k)) ∧ Hid ((seenB l i k).Nodup ∧ ∀ x, x ∈ seenB l i k → 0 ≤ x ∧ x < NB) ∧ Hid (∀ j, j < k → blkBad f l i j = false)) (fun s75 _ _ => BN - (intOf s75).toNat)
 case atStart => exact ⟨0, B6, cq, Nat.zero_le _, rfl, rfl, HT, H3, H1, Hb, jH ⟨Hz.out.2.1, fun x hx => by rw [seenB_zero]; exact Hz.out.2.2.2 x hx⟩, jH (by rw [seenB_zero]; exact Hv.out), jH (fun j hj => absurd hj (Nat.not_lt_zero _))⟩
 case round =>
 clear HT H3 H1 Hb Hv HL
 obtain ⟨k, B6, cc, hk, rfl, rfl, HT, H3, H1, Hb, HL, Hv, HU⟩ := hrel
 have Hk : Hid (Keeps W wr) := jH (HT.out.below (Nat.le_refl _) (fun _ _ => rfl) jd)
 have H9 : Hid (Keeps w wr) := jH (HK.out.trans Hk.out)
 by_cases HA : k < BN
 case neg =>
  obtain rfl : k = BN := by omega
  have Kh : bkS l (i + 1) = seenB l i k := by rw [bkS_succ Km, ← HP.out]; unfold seenB; rw [← HP.out, Ho.out, List.take_length]; rfl
  have Kt := jH Kh
  have Ku : CT + k = (bkS l (i + 1)).length := by rw [Kh, seenB_len (by rw [← HP.out]; exact Nat.le_of_eq Ho.out), Ks.out]
  obtain ⟨KJ, Kv⟩ := hid2 Ku H7
  have Kw : Hid ((F5.set fn true).length = NF ∧ ∀ x, x < NF → nth (F5.set fn true) x = decide ((x : Int) ∈ fnS l (i + 1))) := jH (by
   refine ⟨by rw [List.length_set]; exact Hz.out.1, fun x hx => ?_⟩
   rw [nth_setw _ _ _ _ (by rw [Hz.out.1]; exact hx), fnS_succ Km, ← HP.out]
   by_cases q : fn = x
   ·rw [if_pos q, ← q]; exact (decide_eq_true (List.mem_append_right _ (List.mem_singleton.2 rfl))).symm
   rw [if_neg q, Hz.out.2.2.1 x hx, decide_eq_decide, List.mem_append, List.mem_singleton]
   exact ⟨Or.inl, fun z => z.resolve_right (by dsimp only; omega)⟩)
  have Ki : Hid (∀ j, j < i + 1 → partBC f l j = false) := jH fun j hj => by
   by_cases q : j = i
   ·subst q
    unfold partBC
    rw [KI.out, Bool.false_or]
    exact anyN_no fun x hx => HU.out x (by rw [← HP.out] at hx; rw [Ho.out]; exact hx)
   exact Kl.out j jo
  clear Kh Ku HA hk
  go_wp2_with fail
  go_roundw
  case rel => exact ⟨i + 1, F5.set fn true, B6, cc, Kv.out, by go_num, by rw [← KJ.out], HT, H3, H1, jH ⟨Kw.out.1, HL.out.1, Kw.out.2, fun x hx => by rw [Kt.out]; exact HL.out.2 x hx⟩, jH (by rw [Kt.out]; exact Hv.out), Ki⟩
  case measure => have H7 := Kv.out; simp [intOf]; omega
 case pos =>
 have hkz : (k : Int) < (BN : Int) := by omega
 obtain ⟨b, hb⟩ := jE (nth BL k)
 have c0 : wr.cell? ⟨tb, HQ + k, none⟩ = some (.int .i64 b) := by have z := H9.out.cell (Kg.out k 0 HA jo); simp only [Nat.mul_one, Nat.add_zero] at z; rw [hb]; exact z
 have He : blkBad f l i k = decide (b < 0 ∨ (NB : Int) ≤ b ∨ b ∈ seenB l i k ∨ ¬ (nth f.Blocks b.toNat).Func = (fn : Int)) := by unfold blkBad; rw [← HP.out, Ka.out]; dsimp only; rw [← hb]
 have H2 : blkBad f l i k = true → R = 8 := fun q => H8.out i H7 (by unfold partBC; rw [anyN_yes (by rw [← HP.out]; dsimp only; rw [← Ho.out]; exact HA) q, Bool.or_true])
 have HB := jH hb
 clear hb
 by_cases hb0 : b < 0
 case pos =>
  have HR := jH (H2 (by rw [He, decide_eq_true (Or.inl hb0)]))
  have t1 : decide (b < 0) = true := decide_eq_true hb0
  clear H2 He hb0
  go_upto_region 14 with fail
  go_quiet (fail)
  go_wp2_with fail
  go_ret
  exact ⟨by rw [HR.out]; rfl, H9.out.drewN _⟩
 case neg =>
 obtain ⟨bn, rfl⟩ : ∃ n : Nat, b = n := ⟨b.toNat, by omega⟩
 have t1 : decide ((bn : Int) < 0) = false := decide_eq_false hb0
 by_cases hb1 : NB ≤ bn
 case pos =>
  have HR := jH (H2 (by rw [He, decide_eq_true (Or.inr (Or.inl jo))]))
  have t2 : decide ((NB : Int) ≤ (bn : Int)) = true := decide_eq_true jo
  have HM : decide (NB ≤ bn) = true := decide_eq_true hb1
  clear H2 He hb0 hb1
  go_upto_region 14 with fail
  go_quiet (fail)
  go_wp2_with fail
  go_ret
  exact ⟨by rw [HR.out]; rfl, H9.out.drewN _⟩
 case neg =>
 have t2 : decide ((NB : Int) ≤ (bn : Int)) = false := decide_eq_false jo
 have HM : decide (NB ≤ bn) = false := decide_eq_false hb1
 have Kr : (bn : Int) < (NB : Int) := by omega
 obtain ⟨pp, p2, p3, p4, p5⟩ := ownC_cell H1.out (j := bn) (by rw [HL.out.1]; omega)
 have p1 := jv wr g6 bn (.bool (nth B6 bn)) pp
 clear pp
 have Hs := HL.out.2 bn jo
 cases hf6 : nth B6 bn with
 | true =>
  have HR := jH (H2 (by rw [He, decide_eq_true (Or.inr (Or.inr (Or.inl (of_decide_eq_true (by rw [← Hs]; exact hf6)))))]))
  rw [hf6] at p1
  clear H2 He hb0 hb1 p2 p3 p4 p5 Hs hf6
  go_upto_region 14 with fail
  go_quiet (fail)
  go_wp2_with fail
  go_ret
  exact ⟨by rw [HR.out]; rfl, H9.out.drewN _⟩
 | false =>
 rw [hf6] at p1
 rw [hf6] at Hs
 obtain ⟨bb, K4, rfl, KK⟩ := b4 jo
 obtain ⟨FU, K5⟩ := jE ((nth f.Blocks bn).Func)
 have e0 : wr.cell? ⟨bb, K4 + bn * 14, none⟩ = some (.int .i64 FU) := by rw [K5]; exact H9.out.cell (KK bn 0 jo jo)
 have m0 := jv wr w.heap.size 0 (.slice (some ⟨bb, K4, none⟩) NB H4) ((HX.out.keep Hk.out).cell rfl)
 have n0 := Hb.out.1.cell (j := 0) rfl
 rw [Int.toNat_natCast, ← K5] at He
 by_cases hfu : FU = (fn : Int)
 case neg =>
  have HR := jH (H2 (by rw [He, decide_eq_true (Or.inr (Or.inr (Or.inr hfu)))]))
  have t3 : (FU == (fn : Int)) = false := by simpa using hfu
  clear H2 He hb0 hb1 p2 p3 p4 p5 Hs hf6 hfu K5
  go_upto_region 14 with fail
  go_quiet (fail)
  go_wp2_with fail
  go_ret
  exact ⟨by rw [HR.out]; rfl, H9.out.drewN _⟩
 case pos =>
 have KL : Hid (blkBad f l i k = false) := jH (by rw [He]; refine decide_eq_false ?_; rintro (q | q | q | q) <;> first | omega | exact absurd q (of_decide_eq_false Hs.symm) | exact q hfu)
 subst hfu
 have Kx := of_decide_eq_false Hs.symm
 have K6 : seenB l i (k + 1) = seenB l i k ++ [(bn : Int)] := by rw [seenB_succ (by rw [← HP.out]; dsimp only; rw [← Ho.out]; exact HA), ← HP.out]; dsimp only; rw [← HB.out]
 have Ht : Hid ((seenB l i (k + 1)).Nodup ∧ ∀ x, x ∈ seenB l i (k + 1) → 0 ≤ x ∧ x < NB) := jH (by
  rw [K6]
  refine ⟨nd_snoc Hv.out.1 Kx, fun x hx => ?_⟩
  rcases List.mem_append.1 hx with q | q
  ·exact Hv.out.2 x q
  rw [List.mem_singleton.1 q]; omega)
 have hct : CT + k + 1 ≤ NB := by have q := nd_le Ht.out.1 Ht.out.2; (rw [K6, List.length_append, List.length_singleton, seenB_len (by rw [← HP.out]; dsimp only; rw [← Ho.out]; omega), ← Ks.out] at q); exact q
 have HV : Hid (∀ j, j < k + 1 → blkBad f l i j = false) := jH fun j hj => by
  by_cases q : j = k
  ·rw [q]; exact KL.out
  exact HU.out j jo
 obtain ⟨KM, Ky⟩ := hid2 K6 HA
 clear H2 He hb0 hb1 p2 p3 p4 p5 Hs hf6 K5 Kx K6
 go_upto_region 14 with fail
 clear c0
 refine wp_region_held_drew (S := Cells [(b9, 0, .int .i64 fn), (g6, bn, .bool false), (w.heap.size, 0, .slice (some ⟨bb, K4, none⟩) NB H4), (bb, K4 + bn * 14, .int .i64 fn)]) jx ⟨n0, p1, m0, e0, trivial⟩ (fun H0 => ?_)
 clear n0 p1 m0 e0
 refine jp 0 H0 ?_
 refine jp 1 H0 ?_
 refine jp 2 H0 ?_
 refine jp 3 H0 ?_
 refine jp 4 H0 ?_
 refine jp 5 H0 ?_
 refine jp 6 H0 ?_
 refine jp 7 H0 ?_
 refine jp 8 H0 ?_
 refine jp 9 H0 ?_
 refine jp 10 H0 ?_
 refine jp 11 H0 ?_
 refine jp 12 H0 ?_
 refine jp 13 H0 ?_
 refine jp 14 H0 ?_
 refine jp 15 H0 ?_
 refine jp 16 H0 ?_
 refine jp 17 H0 ?_
 refine jp 18 H0 ?_
 refine jp 19 H0 ?_
 refine jp 20 H0 ?_
 refine jp 21 H0 ?_
 refine jp 22 H0 ?_
 refine jp 23 H0 ?_
 refine jp 24 H0 ?_
 refine wpAnyH_done jx ?_ _
 clear H0 t1 t2 HM
 have Hd : Keeps wr wr.drew := (Keeps.refl _).drew
 obtain ⟨Hj, H5, H6, Hr⟩ := hid4 (Hb.out.keep Hd) (H3.out.keep Hd) (H1.out.keep Hd) (HT.out.keep Hd)
 obtain ⟨wz, HS⟩ := jE (wr.drew)
 rw [← HS] at Hj H5 H6 Hr ⊢
 clear HS Hd Hb H3 H1 HT H9 Hk
 obtain ⟨pp, p2, p3, p4, p5⟩ := ownC_cell H6.out (j := bn) (by rw [HL.out.1]; omega)
 have p1 := jv wz g6 bn (.bool (nth B6 bn)) pp
 obtain ⟨wy, Hi⟩ := jE (wz.setCell ⟨g6, bn, none⟩ (.bool true))
 have K7 : Turn (fun z => z = 2) cc wz cc wy := by rw [Hi]; exact p5 _
 have H1 : Hid (OwnB 2 cc wy W.heap.size (.slice (some ⟨g6, 0, none⟩) NB NB) (B6.set bn true)) := jH (by rw [Hi]; exact p4 true)
 obtain ⟨H3, Hb, HT⟩ := hid3 (H5.out.turn K7 jd) (Hj.out.turn K7 jd) (Hr.out.trans (K7.mono (J := fun z => z = 1 ∨ z = 2) fun z q => Or.inr q))
 have KN : Hid ((B6.set bn true).length = NB ∧ ∀ x, x < NB → nth (B6.set bn true) x = decide ((x : Int) ∈ seenB l i (k + 1))) := jH (by
  refine ⟨by rw [List.length_set]; exact HL.out.1, fun x hx => ?_⟩
  rw [nth_setw _ _ _ _ (by rw [HL.out.1]; exact hx), KM.out]
  by_cases q : bn = x
  ·rw [if_pos q, ← q]; exact (decide_eq_true (List.mem_append_right _ (List.mem_singleton.2 rfl))).symm
  rw [if_neg q, HL.out.2 x hx, decide_eq_decide, List.mem_append, List.mem_singleton]
  exact ⟨Or.inl, fun z => z.resolve_right jo⟩)
 clear pp p4 p5 K7 Hj H5 H6 Hr HL
 go_upto_region 17 with fail
 rw [← Hi]
 clear Hi p1 p2 p3
 go_wp2_with fail
 go_roundw
 case rel => exact ⟨k + 1, B6.set bn true, cc, Ky.out, by go_num, by go_num, HT, H3, H1, Hb, KN, Ht, HV⟩
 case measure => have HA := Ky.out; simp [intOf]; omega
end Go.Proofs.YtgdamggkaklhjaaDoor
