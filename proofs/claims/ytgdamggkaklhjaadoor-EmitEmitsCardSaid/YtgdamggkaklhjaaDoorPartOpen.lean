/-
The program that emit puts out, as it grows in memory; what 
-/
import Derived.Test.YtgdamggkaklhjaaDoorEmT
import Derived.Test.YtgdamggkaklhjaaDoorEmC
import Derived.Test.YtgdamggkaklhjaaDoorIsaE
import Derived.Test.YtgdamggkaklhjaaDoorShelf2
set_option linter.all false
section
namespace Go.Proofs.YtgdamggkaklhjaaDoor
open Go.RowKit BH
set_option maxHeartbeats 1000000000
set_option maxRecDepth 100000
structure OutS (B : Nat) (c : Nat → Nat) (w : World) (g : Nat) (vT vF vTb vD vL : Value) (E : Int) (T : List Int) (F : List Fu) (vs : List Sle) (Tb : List (List Int)) (D : List Int) (L : List Ln) : Prop where
 blk : BlkC 1 c w g (.cells #[vT, vF, vTb, vD, vL, .int .i64 E] 28)
 tx : OwnC 2 c w B 5 1 cu vT T
 fn : OwnC 3 c w B 40 3 cfu vF F
 tb : OwnC 4 c w B 25 1 sle vTb vs
 tr : Part 5 (RowsAt vs Tb) c w
 da : Part 6 (fun w => Ints w vD D) c w
 ln : OwnC 7 c w B 42 2 cln vL L
section
variable {B : Nat} {c c' : Nat → Nat} {w w' w7 : World} {g : Nat} {vT vF vTb vD vL v7 : Value} {E : Int} {T T7 : List Int} {F F7 : List Fu} {vs : List Sle} {Tb : List (List Int)} {D : List Int} {L L7 : List Ln} {I : Nat → Prop}
theorem OutS.turn (h : OutS B c w g vT vF vTb vD vL E T F vs Tb D L) (t : Turn I c w c' w') (hI : ∀ i, 1 ≤ i → i ≤ 7 → ¬ I i) : OutS B c' w' g vT vF vTb vD vL E T F vs Tb D L :=
 ⟨h.blk.turn t (hI 1 jo jo), h.tx.turn t (hI 2 jo jo), h.fn.turn t (hI 3 jo jo), h.tb.turn t (hI 4 jo jo), h.tr.turn t (hI 5 jo jo), h.da.turn t (hI 6 jo jo), h.ln.turn t (hI 7 jo jo)⟩
theorem OutS.keep (h : OutS B c w g vT vF vTb vD vL E T F vs Tb D L) (k : Keeps w w') : OutS B c w' g vT vF vTb vD vL E T F vs Tb D L := h.turn (k.turn (fun _ => False) c) fun _ _ _ q => q
theorem OutS.setE (h : OutS B c w g vT vF vTb vD vL E T F vs Tb D L) (x : Int) (hw : w' = w.setCell ⟨g, 5, none⟩ (.int .i64 x)) : Turn (fun i => 1 ≤ i) c w c w' ∧ OutS B c w' g vT vF vTb vD vL x T F vs Tb D L := by
 subst hw
 obtain ⟨hb, ht⟩ := h.blk.set 5 (.int .i64 x)
 exact ⟨ht.mono fun i q => by omega, hb, h.tx.turn ht jd, h.fn.turn ht jd, h.tb.turn ht jd, h.tr.turn ht jd, h.da.turn ht jd, h.ln.turn ht jd⟩
theorem OutS.setT (h : OutS B c w g vT vF vTb vD vL E T F vs Tb D L) (t : Turn (fun i => i = 2) c w c' w7) {T7 : List Int} (o : OwnC 2 c' w7 B 5 1 cu v7 T7) (hw : w' = w7.setCell ⟨g, 0, none⟩ v7) : Turn (fun i => 1 ≤ i) c w c' w' ∧ OutS B c' w' g v7 vF vTb vD vL E T7 F vs Tb D L := by
 subst hw
 obtain ⟨hb, ht⟩ := (h.blk.turn t jd).set 0 v7
 have tt : Turn (fun i => i = 1 ∨ i = 2) c w c' (w7.setCell ⟨g, 0, none⟩ v7) := (t.mono fun i q => Or.inr q).trans (ht.mono fun i q => Or.inl q)
 exact ⟨tt.mono fun i q => by omega, hb, o.turn ht jd, h.fn.turn tt jd, h.tb.turn tt jd, h.tr.turn tt jd, h.da.turn tt jd, h.ln.turn tt jd⟩
theorem OutS.setF (h : OutS B c w g vT vF vTb vD vL E T F vs Tb D L) (t : Turn (fun i => i = 3) c w c' w7) {F7 : List Fu} (o : OwnC 3 c' w7 B 40 3 cfu v7 F7) (hw : w' = w7.setCell ⟨g, 1, none⟩ v7) : Turn (fun i => 1 ≤ i) c w c' w' ∧ OutS B c' w' g vT v7 vTb vD vL E T F7 vs Tb D L := by
 subst hw
 obtain ⟨hb, ht⟩ := (h.blk.turn t jd).set 1 v7
 have tt : Turn (fun i => i = 1 ∨ i = 3) c w c' (w7.setCell ⟨g, 1, none⟩ v7) := (t.mono fun i q => Or.inr q).trans (ht.mono fun i q => Or.inl q)
 exact ⟨tt.mono fun i q => by omega, hb, h.tx.turn tt jd, o.turn ht jd, h.tb.turn tt jd, h.tr.turn tt jd, h.da.turn tt jd, h.ln.turn tt jd⟩
theorem OutS.setL (h : OutS B c w g vT vF vTb vD vL E T F vs Tb D L) (t : Turn (fun i => i = 7) c w c' w7) {L7 : List Ln} (o : OwnC 7 c' w7 B 42 2 cln v7 L7) (hw : w' = w7.setCell ⟨g, 4, none⟩ v7) : Turn (fun i => 1 ≤ i) c w c' w' ∧ OutS B c' w' g vT vF vTb vD v7 E T F vs Tb D L7 := by
 subst hw
 obtain ⟨hb, ht⟩ := (h.blk.turn t jd).set 4 v7
 have tt : Turn (fun i => i = 1 ∨ i = 7) c w c' (w7.setCell ⟨g, 4, none⟩ v7) := (t.mono fun i q => Or.inr q).trans (ht.mono fun i q => Or.inl q)
 exact ⟨tt.mono fun i q => by omega, hb, h.tx.turn tt jd, h.fn.turn tt jd, h.tb.turn tt jd, h.tr.turn tt jd, h.da.turn tt jd, o.turn ht jd⟩
theorem OutS.setTb (h : OutS B c w g vT vF vTb vD vL E T F vs Tb D L) {r : Sle} {l : List Int} (hr : Part 5 (fun w => Ints w r.v l) c w) (t : Turn (fun i => i = 4) c w c' w7) (o : OwnC 4 c' w7 B 25 1 sle v7 (vs ++ [r])) (hw : w' = w7.setCell ⟨g, 2, none⟩ v7) : Turn (fun i => 1 ≤ i) c w c' w' ∧ OutS B c' w' g vT vF v7 vD vL E T F (vs ++ [r]) (Tb ++ [l]) D L := by
 subst hw
 obtain ⟨hb, ht⟩ := (h.blk.turn t jd).set 2 v7
 have tt : Turn (fun i => i = 1 ∨ i = 4) c w c' (w7.setCell ⟨g, 2, none⟩ v7) := (t.mono fun i q => Or.inr q).trans (ht.mono fun i q => Or.inl q)
 exact ⟨tt.mono fun i q => by omega, hb, h.tx.turn tt jd, h.fn.turn tt jd, o.turn ht jd, ((h.tr.and hr).imp fun w q => rowsAt_snoc q.1 q.2).turn tt jd, h.da.turn tt jd, h.ln.turn tt jd⟩
def toB (x : Int) : UInt8 := UInt8.ofNat x.toNat
theorem octs_bytes {w : World} {v : Value} {T : List Int} (ha : Octs w v T) (hT : ∀ x ∈ T, 0 ≤ x ∧ x < 256) : Bytes w v (T.map toB) := by
 unfold Octs at ha
 unfold Bytes
 rw [List.length_map]
 refine ha.congr fun i j hi _ => ?_
 have hx := hT (nth T i) (nthMem hi)
 rw [nthMap _ _ hi]
 unfold toB
 rw [UInt8.toNat_ofNat']
 congr 1
 omega
theorem OutS.foot (h : OutS B c w g vT vF vTb vD vL E T F vs Tb D L) (hT : ∀ x ∈ T, 0 ≤ x ∧ x < 256) {N : Nat} (hc : ∀ b, b < N → c b = 0) : Foot (fun b => N ≤ b ∧ b < w.heap.size) (fun w => ImgAt w (.agg #[vT, vF, vTb, vD, vL, .int .i64 E]) ⟨T.map toB, F, Tb, D, L, E⟩) w := by
 obtain ⟨S5, f5, c5⟩ := h.tr
 obtain ⟨S6, f6, c6⟩ := h.da
 have f := (((h.tx.1.foot.and h.fn.1.foot).and (h.tb.1.foot.and f5)).and f6).and h.ln.1.foot
 have fi := f.imp (Q := fun w => ImgAt w (.agg #[vT, vF, vTb, vD, vL, .int .i64 E]) ⟨T.map toB, F, Tb, D, L, E⟩) fun w q => by obtain ⟨⟨⟨⟨q1, q2⟩, q3, q4⟩, q5⟩, q6⟩ := q; exact ⟨vT, vF, vTb, vD, vL, rfl, octs_bytes (own_octs q1) hT, q2.funs, tabs_of q3 q4, q5, q6.lines⟩
 refine ⟨fun b hb => hb.2, fun w' h' => fi.2 w' fun b hb => h' b ⟨Nat.le_of_not_lt fun q => ?_, f.1 b hb⟩⟩
 have h0 := hc b q
 rcases hb with (((z | z) | (z | z)) | z) | z
 ·have := h.tx.2 b z; omega
 ·have := h.fn.2 b z; omega
 ·have := h.tb.2 b z; omega
 ·have := c5 b z; omega
 ·have := c6 b z; omega
 have := h.ln.2 b z; omega
end
def cpr (x : Int × Int) : List Value := [.int .i64 x.1, .int .i64 x.2]
theorem cpr_len (x : Int × Int) : (cpr x).length = 2 := rfl
theorem cpr_one (x : Int × Int) : ∀ u ∈ cpr x, u.oneCell' = true := by
 intro u hu
 simp [cpr] at hu
 rcases hu with rfl | rfl <;> rfl
theorem info_pair : (Tryd.prog.info? 71).map (fun i => (i.zero, i.size, i.bytes)) = some (some (.agg #[.int .i64 0, .int .i64 0]), 2, 16) := by kernel_rfl
def prs (M : List (It × Int)) : List (Int × Int) := (M.filter fun x => decide (0 ≤ x.1.Old)).map fun x => (x.1.Old, x.2)
theorem prs_snoc (M : List (It × Int)) (x : It × Int) : prs (M ++ [x]) = prs M ++ if 0 ≤ x.1.Old then [(x.1.Old, x.2)] else [] := by
 unfold prs
 rw [List.filter_append, List.map_append]
 by_cases h : 0 ≤ x.1.Old
 ·rw [if_pos h]; simp [h]
 rw [if_neg h]; simp [h]
def newAt (l : List (Int × Int)) (o : Int) : Int := ((l.find? fun x => x.1 == o).map (·.2)).getD 0
theorem newAt_is : ∀ {l : List (Int × Int)}, (l.map (·.1)).Nodup → ∀ x ∈ l, newAt l x.1 = x.2
 | [], _, x, hx => by cases hx
 | y :: r, h, x, hx => by
  rw [List.map_cons, List.nodup_cons] at h
  unfold newAt
  rw [List.find?_cons]
  rcases List.mem_cons.1 hx with e | q
  ·rw [e]; simp
  have hne : ¬ y.1 = x.1 := fun e => h.1 (by rw [e]; exact List.mem_map_of_mem q)
  rw [show (y.1 == x.1) = false by simpa using hne]
  exact newAt_is h.2 x q
def sortP (l : List (Int × Int)) : List (Int × Int) := ((l.map (·.1)).mergeSort fun x y => !decide (y < x)).map fun o => (o, newAt l o)
theorem keys_is {l : List (Int × Int)} (h : (l.map (·.1)).Nodup) : (l.map (·.1)).map (fun o => (o, newAt l o)) = l := by
 rw [List.map_map]
 exact (List.map_congr_left fun x hx => by rw [Function.comp_apply, newAt_is h x hx]; rfl).trans (List.map_id _)
end Go.Proofs.YtgdamggkaklhjaaDoor
end
section
namespace Go.Proofs.YtgdamggkaklhjaaDoor.BH
open Go.RowKit Go.Sort Go.Shelf
set_option maxRecDepth 100000
variable {P : Program} {ρ : Ren}
theorem Own.sortF {γ : Type} (L : SlLaysF0.n6 P ρ) (k : Nat) (aE : ∀ w, (isAgg (ρ.t 24)).run P w = .ok true w) (zE : ∀ w, (Go.sizeOf (ρ.t 24)).run P w = .ok k w) (f : γ → List Value) (hk : ∀ x, (f x).length = k) (h1 : ∀ x, ∀ v ∈ f x, v.oneCell' = true)
  (cf : γ → γ → Int) (hO : SWO (ltOf cf)) (hT : ∀ x y, ltOf cf x y = false → ltOf cf y x = false → x = y) (fn : Nat) (eg : ∀ args w, (callFunc fn args).run P w = .ok (.enter fn args) w)
  (hc : ∀ w x y, Calls P fn #[.agg (f x).toArray, .agg (f y).toArray] w fun e w' => e = .returned (.int .i64 (cf x y)) ∧ ∃ q os, w' = grow (w.drewN q) os)
  {w : World} {base : Nat} {e : TypeId} {v : Value} {l : List γ} (h : Own w base e k f v l) (hm : l.length < 4611686018427387904) :
  Calls P (ρ.f 6) #[v, .func (.func fn) #[] #[]] w fun r w' => r = .returned (.tuple #[]) ∧ Own w' base e k f v (l.mergeSort fun x y => !(ltOf cf) y x) ∧ w.grownBy w' v.ownBlock := by
 cases l with
 | nil =>
  rw [List.mergeSort_nil]
  have h0 := h
  rcases h.2 with ⟨rfl, _⟩ | ⟨g, H1, cur, rfl, _⟩
  ·exact (AnyF.slices_SortFunc_none L none 0 _ w).mono fun r w' ⟨he, hw⟩ => ⟨he, hw ▸ h0, hw ▸ (Keeps.refl w).grown _⟩
  exact (AnyF.slices_SortFunc_none L (some ⟨g, 0, none⟩) H1 _ w).mono fun r w' ⟨he, hw⟩ => ⟨he, hw ▸ h0, hw ▸ (Keeps.refl w).grown _⟩
 | cons x0 r0 =>
  haveI : Inhabited γ := ⟨x0⟩
  obtain ⟨l, hl⟩ := jE (x0 :: r0)
  rw [← hl] at h hm ⊢
  have hv : v ≠ .slice none 0 0 := fun q => by
   rcases h.2 with ⟨_, h0⟩ | ⟨g, H1, cur, q2, _⟩
   ·rw [hl] at h0; simp at h0
   rw [q] at q2; cases q2
  obtain ⟨g, H1, H3, rfl, hb, hn, hcm, hr, H0⟩ := h.srow hk hv
  have H2 : l.toArray.size = l.length := by simp
  have hq := AnyQ.slices_SortFunc_total L k aE zE f hk h1 cf hO fn #[] g 0 H1 l.toArray w eg (fun m os dk _ x y => hc _ x y) hr.holdsK hr.glt (by rw [H2]; exact hm) hT
  rw [H2] at hq
  refine hq.mono fun r w' ⟨he, n, os, hw⟩ => ?_
  have hd : (l.toArray.toList.mergeSort fun x y => !(ltOf cf) y x).toArray.size = l.length := by simp
  have hs := hr.sorted (d' := (l.toArray.toList.mergeSort fun x y => !(ltOf cf) y x).toArray) (by rw [hd, H2]) n os
  rw [← hw] at hs
  obtain ⟨o1, o2⟩ := H0 _ w' hd hs
  exact ⟨he, o1, o2⟩
end Go.Proofs.YtgdamggkaklhjaaDoor.BH
end
section
namespace Go.Proofs.YtgdamggkaklhjaaDoor
open Go.RowKit Go.Sort Go.Shelf BH
set_option maxHeartbeats 1000000000
set_option maxRecDepth 100000
theorem pairs1_any (a b c d : Int) (w : World) (h1 : 0 ≤ a ∧ a < 4611686018427387904) (h2 : 0 ≤ c ∧ c < 4611686018427387904) : Calls Tryd.prog 36 #[.agg #[.int .i64 a, .int .i64 b], .agg #[.int .i64 c, .int .i64 d]] w fun e w' => e = .returned (.int .i64 (a - c)) ∧ ∃ q os, w' = grow (w.drewN q) os := by
 have wT : IntKind.i64.wrap (a - c) = a - c := jw
 have g2 : ∀ o1 o2, ∃ q os, (w.alloc o1).alloc o2 = grow (w.drewN q) os := fun a b => ⟨0, #[a] ++ #[b], by rw [alloc_eq_grow, alloc_eq_grow, grow_grow]; rfl⟩
 have G2 := jH g2
 obtain ⟨a1, a2⟩ := h1
 obtain ⟨b1, b2⟩ := h2
 clear g2
 go_enter Tryd.func36, Tryd.ntmps36
 go_wp2_with fail
 go_ret
 exact ⟨rfl, G2.out _ _⟩
abbrev OldT : Type := { o : Int // 0 ≤ o ∧ o < 4611686018427387904 }
theorem sortPr_any {w : World} {base : Nat} {v : Value} {l : List (Int × Int)} (hn : (l.map (·.1)).Nodup) (hb : ∀ x ∈ l, 0 ≤ x.1 ∧ x.1 < 4611686018427387904) (h : Own w base 71 2 cpr v l) (hm : l.length < 4611686018427387904) :
  Calls Tryd.prog 35 #[v, .func (.func 36) #[] #[]] w fun r w' => r = .returned (.tuple #[]) ∧ Own w' base 71 2 cpr v (sortP l) ∧ w.grownBy w' v.ownBlock := by
 obtain ⟨K, hK⟩ := jE (l.map (·.1))
 have H2 : ∀ o ∈ K, 0 ≤ o ∧ o < 4611686018427387904 := fun o ho => by rw [hK, List.mem_map] at ho; obtain ⟨x, hx, rfl⟩ := ho; exact hb x hx
 obtain ⟨K', H3⟩ : ∃ K' : List OldT, K' = K.attach.map (fun q => (⟨q.1, H2 q.1 q.2⟩ : OldT)) := ⟨_, rfl⟩
 have hv : K'.map (fun q => q.1) = K := by rw [H3, List.map_map]; exact List.attach_map_subtype_val K
 have eo : ∀ (w : World) (L : List OldT), Own w base 71 2 cpr v ((L.map (fun q => q.1)).map fun o => (o, newAt l o)) = Own w base 71 2 (fun q : OldT => cpr (q.1, newAt l q.1)) v L := fun w L => by unfold Own; rw [List.length_map, List.length_map, List.flatMap_map, List.flatMap_map]
 have H1 := keys_is hn
 rw [← hK] at H1
 rw [← H1, ← hv, eo] at h
 have H0 : ∀ x y : OldT, ltOf (fun x y : OldT => x.1 - y.1) x y = decide (x.1 < y.1) := fun x y => by unfold ltOf; rw [decide_eq_decide]; dsimp only; omega
 have hS : SWO (ltOf fun x y : OldT => x.1 - y.1) :=
  { irrefl := fun x => by rw [H0]; simp
    trans := fun x y z h1 h2 => by rw [H0] at *; simp at *; omega
    ntrans := fun x y z h1 h2 => by rw [H0] at *; simp at *; omega }
 have hT : ∀ x y : OldT, ltOf (fun x y : OldT => x.1 - y.1) x y = false → ltOf (fun x y : OldT => x.1 - y.1) y x = false → x = y := fun x y h1 h2 => by rw [H0] at h1 h2; simp at h1 h2; exact Subtype.ext jo
 have hq := Own.sortF Tryd.laysSortPr 2 (fun w => by rfl) (fun w => by rfl) (fun q : OldT => cpr (q.1, newAt l q.1)) (fun _ => rfl) (fun q => cpr_one _) (fun x y : OldT => x.1 - y.1) hS hT 36 (enters_of Tryd.func36 jx rfl) (fun w x y => pairs1_any _ _ _ _ w x.2 y.2) h (by have q := congrArg List.length hv; rw [List.length_map, hK, List.length_map] at q; rw [q]; exact hm)
 refine Calls.mono hq fun r w' ⟨h1, h2, h3⟩ => ⟨h1, ?_, h3⟩
 rw [← eo] at h2
 unfold sortP
 rw [← hK, ← hv]
 have e2 : (K'.mergeSort fun x y => !(ltOf fun x y : OldT => x.1 - y.1) y x).map (fun q => q.1) = (K'.map (fun q => q.1)).mergeSort fun x y => !decide (y < x) :=
  List.map_mergeSort fun a _ b _ => by rw [H0]
 rw [← e2]
 exact h2
end Go.Proofs.YtgdamggkaklhjaaDoor
end
section
namespace Go.Proofs.YtgdamggkaklhjaaDoor
open Go.RowKit BH Go.ChangeShapes Go.WideShapes Go.Deep
set_option maxRecDepth 100000
section
variable {H : Type} {enc : TypeId × Value → H} {w : World}
theorem cells_part : Tryd.prog.cellsOf 54 = 2 := by kernel_rfl
theorem bytes_part : Tryd.prog.bytesOf 54 = 32 := by kernel_rfl
theorem part_open {fuel : Nat} {c0 c1 : Value} {x : DataW H × List MemPlace} (h : DataW.trod enc Tryd.prog w 0 (fun _ => true) true fuel 54 [c0, c1] = some x) (hf : Fits Tryd.prog 54 x.1) :
  ∃ z : Pa, c0 = .int .i64 z.Func ∧ Ints w c1 z.Blocks := by
 obtain ⟨xs, n, -, hd, -, hl, hx⟩ := DataW.trod_struct Tryd.underlying54 h
 simp only [List.size_toArray, jL] at hl
 match xs, hl with
 | [y0, y1], _ =>
  obtain ⟨d, pl⟩ := x
  simp only [Prod.mk.injEq] at hd
  obtain ⟨rfl, -⟩ := hd
  have H0 : ∀ (j : Nat) (t : TypeId) (y : DataW H), [3, 25][j]? = some t → ([y0, y1].map (·.1))[j]? = some y → Fits Tryd.prog t y := fun j t y h1 h2 k hk => by refine hf k ?_; simp only [DataW.weights, Tryd.underlying54]; exact DataW.weights_mem_each h1 h2 k hk
  have h0 := hx 0 _ rfl
  have h1 := hx 1 _ rfl
  simp only [List.getElem?_cons_zero, List.getElem?_cons_succ] at h0 h1
  obtain ⟨a, rfl, -⟩ := int_open Tryd.underlying3 h0
  obtain ⟨l, hi, -, -⟩ := ints_open Tryd.underlying25 cells_int Tryd.underlying3 bytes_int h1 (H0 1 _ _ rfl rfl)
  exact ⟨⟨a, l⟩, rfl, hi⟩
theorem parts_open {fuel : Nat} {c : Value} {x : DataW H × List MemPlace} (h : DataW.trod enc Tryd.prog w 0 (fun _ => true) true fuel 29 [c] = some x) (hf : Fits Tryd.prog 29 x.1) :
  ∃ l : List Pa, PaAt w c l ∧ l.length * 32 ≤ reachBytes := by
 obtain ⟨n, m, cs, ha, hb, hx⟩ := arr_open Tryd.underlying29 cells_part jo h hf
 obtain ⟨f, H0⟩ := choose_lt (α := Pa) (p := fun i z => cs i 0 = .int .i64 z.Func ∧ Ints w (cs i 1) z.Blocks) (fun i hi => by obtain ⟨y, hy, H1⟩ := hx i hi; exact part_open hy H1)
 refine ⟨(List.range n).map f, ⟨fun i => cs i 1, ?_, fun i hi => ?_⟩, by simpa [bytes_part] using hb⟩
 ·simp only [List.length_map, List.length_range]
  exact ha.congr fun i j hi hj => by
   rw [nthRange f hi]
   match j, hj with
   | 0, _ => exact (H0 i hi).1
   | 1, _ => rfl
 simp only [List.length_map, List.length_range] at hi
 rw [nthRange f hi]; exact (H0 i hi).2
end
end Go.Proofs.YtgdamggkaklhjaaDoor
end
