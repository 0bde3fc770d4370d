/-
 The finder of flow.Recover in memory, and (*finder).mark: where blocks of a function begin.
-/
import Derived.Test.YtnekiooaobnndaaDoorFlRec2
import Derived.Test.YtnekiooaobnndaaDoorImgFuncs
import Derived.Test.YtnekiooaobnndaaDoorMapEnt
import Derived.Test.YtnekiooaobnndaaDoorRegHead
import Derived.Deep.QuietTactic
import Derived.BigQuiet
import Derived.Deep.RegionLaw
import Derived.Deep.RegionHeld3
import Derived.Deep.CutBlock
import Derived.Deep.DeepCutAuto
set_option linter.all false
namespace Go.Proofs.YtnekiooaobnndaaDoor
open Go.RowKit BH
set_option maxHeartbeats 1000000000
set_option maxRecDepth 100000
/-- a slice of spots -/
def SpAt (w : World) (v : Value) (l : List Sp) : Prop := Arr w v l.length 8 (fun i j => (csp (nth l i)).getD j undef)
theorem SpAt.keep {w w' : World} {v : Value} {l : List Sp} (h : SpAt w v l) (hk : Keeps w w') : SpAt w' v l := Arr.keep h hk
/-- what is known of an instruction of a function -/
structure SpOk (s : Sp) : Prop where
 a0 : 0 ≤ s.A
 a1 : s.A ≤ 2000
 z0 : 1 ≤ s.Z
 z1 : s.Z ≤ 5
 n0 : -32768 ≤ s.I.N
 n1 : s.I.N ≤ 32767
 k0 : 1 ≤ s.I.K
 k1 : s.I.K ≤ 24
 nt : s.I.K = 24 → 0 ≤ s.I.N
/-- The finder lies in block xb (colour 1): the image's parts, the row of all functions' instructions (2, their rows 3), its maps' blocks, what comes out. All that stood in w0 has colour 0. -/
structure Fin (m : Img) (w0 : World) (v0 v1 v2 v3 v4 va : Value) (vs : List Sle) (L : List (List Sp)) (xb ob lb kb : Nat) (vB vT vF : Value) (c : Nat → Nat) (w : World) : Prop where
 keep : Keeps w0 w
 zero : ∀ b, b < w0.heap.size → c b = 0
 img : ImgAt w0 (.agg #[v0, v1, v2, v3, v4, .int .i64 m.Entry]) m
 blk : BlkC 1 c w xb (.cells #[v0, v1, v2, v3, v4, .int .i64 m.Entry, va, .map (some ob), .map (some lb), .map (some kb), vB, vT, vF] 56)
 all : OwnC 2 c w w0.heap.size 57 1 sle va vs
 len : vs.length = L.length
 sps : Part 3 (fun w => ∀ i, i < L.length → SpAt w (nth vs i).v (nth L i)) c w
section
variable {m : Img} {w0 : World} {v0 v1 v2 v3 v4 va : Value} {vs : List Sle} {L : List (List Sp)} {xb ob lb kb : Nat} {vB vT vF : Value} {c c' : Nat → Nat} {w w' : World} {I : Nat → Prop}
theorem Fin.turn (h : Fin m w0 v0 v1 v2 v3 v4 va vs L xb ob lb kb vB vT vF c w) (t : Turn I c w c' w') (h0 : ¬ I 0) (h1 : ¬ I 1) (h2 : ¬ I 2) (h3 : ¬ I 3) : Fin m w0 v0 v1 v2 v3 v4 va vs L xb ob lb kb vB vT vF c' w' :=
 ⟨h.keep.trans' (t.below h.keep.size h.zero h0) (Nat.le_refl _), t.zero h.keep.size h.zero, h.img, h.blk.turn t h1, h.all.turn t h2, h.len, h.sps.turn t h3⟩
theorem Fin.keeps (h : Fin m w0 v0 v1 v2 v3 v4 va vs L xb ob lb kb vB vT vF c w) (k : Keeps w w') : Fin m w0 v0 v1 v2 v3 v4 va vs L xb ob lb kb vB vT vF c w' :=
 h.turn (k.turn (fun _ => False) c) (fun q => q) (fun q => q) (fun q => q) (fun q => q)
end
/-- the map of beginnings: the keys that have been put -/
def isK (ks : List Int) : Int → Option Bool := fun x => if x ∈ ks then some true else none
theorem isK_put (ks : List Int) (y : Int) : (fun z => if z = y then some true else isK ks z) = isK (ks ++ [y]) := by
 funext z
 unfold isK
 by_cases h : z = y
 ·rw [if_pos h, if_pos (by rw [h]; simp)]
 ·rw [if_neg h]
  by_cases q : z ∈ ks
  ·rw [if_pos q, if_pos (by simp [q])]
  ·rw [if_neg q, if_neg (by simp [q, h])]
abbrev MIBC (c : Nat → Nat) (w : World) (b n : Nat) (ks : List Int) : Prop := MapC 5 c Tryd.prog 3 4 (fun x : Int => .int .i64 x) wfI litB w b n (isK ks)
/-- what mark answers -/
def MarkAns (bad : Bool) (c : Nat → Nat) (w : World) (lb n : Nat) (ks : List Int) (e : Ending) (w' : World) : Prop :=
 ∃ c', Turn (fun i => i = 5) c w c' w' ∧ (bad = true → e = .returned (.int .i64 9)) ∧ (bad = false → e = .returned (.int .i64 0) ∧ MIBC c' w' lb n ks)
theorem MarkAns.bad {b : Bool} {c c' : Nat → Nat} {w w' : World} {lb n : Nat} {ks : List Int} (hb : b = true) (ht : Turn (fun i => i = 5) c w c' w') : MarkAns b c w lb n ks (.returned (.int .i64 9)) w' := ⟨c', ht, fun _ => rfl, fun q => (by rw [hb] at q; cases q)⟩
theorem MarkAns.fine {b : Bool} {c c' : Nat → Nat} {w w' : World} {lb n : Nat} {ks : List Int} (hb : b = false) (ht : Turn (fun i => i = 5) c w c' w') (hm : MIBC c' w' lb n ks) : MarkAns b c w lb n ks (.returned (.int .i64 0)) w' := ⟨c', ht, fun q => (by rw [hb] at q; cases q), fun _ => ⟨rfl, hm⟩⟩
/-- the cells that a round of mark reads -/
def MkS (bX bF xb b6 b7 ob lb f : Nat) (s : Sp) (v1 v2 : Value) (w : World) : Prop :=
 w.cell? ⟨bX, 0, none⟩ = some (.pointer (some ⟨xb, 0, none⟩)) ∧ w.cell? ⟨bF, 0, none⟩ = some (.int .i64 f) ∧ w.cell? ⟨xb, 1, none⟩ = some v1 ∧ w.cell? ⟨xb, 2, none⟩ = some v2 ∧ w.cell? ⟨xb, 7, none⟩ = some (.map (some ob)) ∧ w.cell? ⟨xb, 8, none⟩ = some (.map (some lb)) ∧
  w.cell? ⟨b6, 0, none⟩ = some (.int .i64 s.A) ∧ w.cell? ⟨b6, 1, none⟩ = some (.int .i64 s.Z) ∧ w.cell? ⟨b6, 2, none⟩ = some (.int .i64 s.I.K) ∧ w.cell? ⟨b6, 3, none⟩ = some (.int .i64 s.I.D) ∧ w.cell? ⟨b6, 4, none⟩ = some (.int .i64 s.I.A) ∧ w.cell? ⟨b6, 5, none⟩ = some (.int .i64 s.I.B) ∧ w.cell? ⟨b6, 6, none⟩ = some (.int .i64 s.I.N) ∧ w.cell? ⟨b6, 7, none⟩ = some (.bool s.I.Lg) ∧
  w.cell? ⟨b7, 0, none⟩ = some (.int .i64 (s.A + s.I.N)) ∧ b6 < w.heap.size ∧ b7 < w.heap.size
theorem MkS.keep {bX bF xb b6 b7 ob lb f : Nat} {s : Sp} {v1 v2 : Value} {w w' : World} (h : MkS bX bF xb b6 b7 ob lb f s v1 v2 w) (k : Keeps w w') : MkS bX bF xb b6 b7 ob lb f s v1 v2 w' := by
 obtain ⟨h1, h2, h3, h4, h5, h6, h7, h8, h9, h10, h11, h12, h13, h14, h15, h16, h17⟩ := h
 have := k.size
 exact ⟨k.cell h1, k.cell h2, k.cell h3, k.cell h4, k.cell h5, k.cell h6, k.cell h7, k.cell h8, k.cell h9, k.cell h10, k.cell h11, k.cell h12, k.cell h13, k.cell h14, k.cell h15, by omega, by omega⟩
theorem MkS.grown {bX bF xb b6 b7 ob lb f : Nat} {s : Sp} {v1 v2 : Value} {w w' : World} (h : MkS bX bF xb b6 b7 ob lb f s v1 v2 w) (hg : w.grownBy w' (some lb)) (n1 : bX ≠ lb) (n2 : bF ≠ lb) (n3 : xb ≠ lb) (n4 : b6 ≠ lb) (n5 : b7 ≠ lb) : MkS bX bF xb b6 b7 ob lb f s v1 v2 w' := by
 obtain ⟨h1, h2, h3, h4, h5, h6, h7, h8, h9, h10, h11, h12, h13, h14, h15, h16, h17⟩ := h
 have := hg.size
 have g : ∀ {b o v}, b ≠ lb → w.cell? ⟨b, o, none⟩ = some v → w'.cell? ⟨b, o, none⟩ = some v := fun hne hc => hg.cell hc (fun e => hne (Option.some.inj e))
 exact ⟨g n1 h1, g n2 h2, g n3 h3, g n3 h4, g n3 h5, g n3 h6, g n4 h7, g n4 h8, g n4 h9, g n4 h10, g n4 h11, g n4 h12, g n4 h13, g n4 h14, g n5 h15, by omega, by omega⟩
/-- the cells that the two stores into the map of beginnings read -/
def EntS (bX xb b6 b7 lb : Nat) (A Z T : Int) (w : World) : Prop :=
 w.cell? ⟨bX, 0, none⟩ = some (.pointer (some ⟨xb, 0, none⟩)) ∧ w.cell? ⟨xb, 8, none⟩ = some (.map (some lb)) ∧ w.cell? ⟨b7, 0, none⟩ = some (.int .i64 T) ∧ w.cell? ⟨b6, 0, none⟩ = some (.int .i64 A) ∧ w.cell? ⟨b6, 1, none⟩ = some (.int .i64 Z)
theorem EntS.grown {bX xb b6 b7 lb : Nat} {A Z T : Int} {w w' : World} (h : EntS bX xb b6 b7 lb A Z T w) (hg : w.grownBy w' (some lb)) (h1 : bX ≠ lb) (h2 : xb ≠ lb) (h3 : b6 ≠ lb) (h4 : b7 ≠ lb) : EntS bX xb b6 b7 lb A Z T w' := by
 obtain ⟨q1, q2, q3, q4, q5⟩ := h
 have g : ∀ {b o v}, b ≠ lb → w.cell? ⟨b, o, none⟩ = some v → w'.cell? ⟨b, o, none⟩ = some v := fun hne hc => hg.cell hc (fun e => hne (Option.some.inj e))
 exact ⟨g h1 q1, g h2 q2, g h4 q3, g h3 q4, g h3 q5⟩
section
variable {P : Program} {md : Region.Mode} {ops : Array Oper} {Q : Exit → Act → World → Prop} {S : World → Prop}
/-- an operation of a drawn region is taken first: what it yields is found by the walk -/
theorem takeE (i : Nat) {oi : Oper} {v : Value} {fuel : Nat} {listed listed' : Array Bool} {a a' : Act} {w : World} (hS : S w)
  (h : wpAnyH P md ops Q S fuel listed' a' w)
  (hi : ops[i]? = some oi := by (simp only [List.getElem?_toArray, List.getElem?_cons_zero, List.getElem?_cons_succ]; try rfl))
  (hs : Region.noSelect ops = true := by kernel_rfl) (hf : Region.free md ops listed i = true := by kernel_rfl) (hr : (Region.ready md ops listed).contains i = true := by kernel_rfl)
  (hQ : ∀ c a w, Q (.panic c) (a.put oi.dst v) w → Q (.panic c) a w := by exact fun _ _ _ z => z)
  (hw : Region.wanted oi (yielded ops a.tmps) = true := by rfl)
  (hy : ∀ w, S w → (execOp a.eval oi).run P w = .ok (.value v) w := by (intro w hSw; (try unfold EntS MkS at hSw); (try unfold EntS at hSw); (try unfold MkS at hSw); go_simp; try with_reducible rfl))
  (hl : listed.setIfInBounds i true = listed' := by first | (simp only [List.setIfInBounds_toArray, List.set_cons_zero, List.set_cons_succ]; rfl) | rfl)
  (ha : a.put oi.dst v = a' := by first | (simp only [Act.put, List.setIfInBounds_toArray, List.set_cons_zero, List.set_cons_succ]; rfl) | rfl) :
  wpAnyH P md ops Q S (fuel + 1) listed a w := by
 subst hl ha
 exact wpAnyH_take hi hs hf hr hQ (Or.inl ⟨hw, hy⟩) hS h
end
theorem mark_any {m : Img} {w0 : World} {v0 v1 v2 v3 v4 va : Value} {vs : List Sle} {L : List (List Sp)} {xb ob lb kb nO nL : Nat} {vB vT vF : Value} {c : Nat → Nat} {w : World} {om : Int → Option Int} {ks : List Int} {f : Nat}
  (hX : Fin m w0 v0 v1 v2 v3 v4 va vs L xb ob lb kb vB vT vF c w) (hO : MapC 4 c Tryd.prog 3 3 (fun x : Int => .int .i64 x) wfI litI w ob nO om) (hL : MIBC c w lb nL ks)
  (hf : f < L.length) (hfm : f < m.Funcs.length) (hok : ∀ s ∈ nth L f, SpOk s) (hlen : (nth L f).length ≤ 2000) (hst : 0 ≤ (nth m.Funcs f).Start ∧ (nth m.Funcs f).Start ≤ 2000) (hnL : nL ≤ 1000000) (htl : m.Tables.length ≤ 20) (htt : ∀ i, i < m.Tables.length → (nth m.Tables i).length ≤ 20 ∧ ∀ x ∈ nth m.Tables i, 0 ≤ x ∧ x ≤ 8000) (hfn : m.Funcs.length ≤ 40) :
  Calls Tryd.prog 16 #[.pointer (some ⟨xb, 0, none⟩), .int .i64 f] w (MarkAns (anyN (fun k => spB m om f (nth (nth L f) k)) (nth L f).length) c w lb (nL + 1 + 2 * (nth L f).length) (ks ++ keysF m L f)) := by
 have HX := Lib.hid hX
 have HO := Lib.hid hO
 have HL := Lib.hid hL
 obtain ⟨W, c1, hW, hkW, hT1, hbX, hbF⟩ := two_paint w c (.cells #[.pointer (some ⟨xb, 0, none⟩)] 51) (.cells #[.int .i64 f] 3) 7
 have hXW := hX.turn (hT1 (fun _ => False)) (fun q => q) (fun q => q) (fun q => q) (fun q => q)
 have hOW := hO.turn (hT1 (fun _ => False)) (fun q => q)
 have hLW := hL.turn (hT1 (fun _ => False)) (fun q => q)
 have hXb := hXW.blk.1
 obtain ⟨as_, acap, hva⟩ : ∃ a cp, va = .slice a vs.length cp := own_form' hX.all.1
 subst hva
 obtain ⟨z0, z1, z2, z3, z4, hz, hI0, hI1, hI2, -, -⟩ := hX.img
 injection hz with hz
 simp only [Array.mk.injEq, List.cons.injEq, and_true] at hz
 obtain ⟨rfl, rfl, rfl, rfl, rfl⟩ := hz
 have HI1 := Lib.hid hI1
 obtain ⟨fo, fcap, rfl, f1, f2, f3, f4⟩ := hI1
 obtain ⟨fb, fof, rfl, fc⟩ := f4 (by omega)
 obtain ⟨ST, hST⟩ : ∃ z, z = (nth m.Funcs f).Start := ⟨_, rfl⟩
 have hk0W : Keeps w0 W := hXW.keep
 obtain ⟨SL, hSL⟩ : ∃ z, z = nth L f := ⟨_, rfl⟩
 have hkf : keysF m L f = ST :: SL.flatMap keysP := by unfold keysF; rw [← hST, ← hSL]
 rw [hkf, ← hSL]
 rw [← hSL] at hok hlen
 obtain ⟨SN, hSN⟩ : ∃ z, z = SL.length := ⟨_, rfl⟩
 rw [← hSN] at hlen ⊢
 have HSL := Lib.hid hSL
 have HSN := Lib.hid hSN
 clear hkf hSL hSN
 have g1 : W.cell? ⟨fb, fof + f * 3 + 1, none⟩ = some (.int .i64 ST) := by rw [hST]; exact hk0W.cell (fc f 1 hfm (by omega))
 have u0 : W.cell? ⟨w.heap.size, 0, none⟩ = some (.pointer (some ⟨xb, 0, none⟩)) := hbX.1.cell rfl
 have u1 : W.cell? ⟨w.heap.size + 1, 0, none⟩ = some (.int .i64 f) := hbF.1.cell rfl
 have x1 : W.cell? ⟨xb, 1, none⟩ = some (.slice (some ⟨fb, fof, none⟩) m.Funcs.length fcap) := hXb.cell rfl
 have x6 : W.cell? ⟨xb, 6, none⟩ = some (.slice as_ vs.length acap) := hXb.cell rfl
 have x8 : W.cell? ⟨xb, 8, none⟩ = some (.map (some lb)) := hXb.cell rfl
 have hfz : (f : Int) < (m.Funcs.length : Int) := by omega
 have wST : wfI ST := wfI_of (by omega) (by omega)
 have HWST := Lib.hid wST
 have HT1 := Lib.hid hT1
 have HXW := Lib.hid hXW
 have HOW := Lib.hid hOW
 have HLW := Lib.hid hLW
 have HBX := Lib.hid hbX
 have HBF := Lib.hid hbF
 have HSZ := Lib.hid hkW.size
 have HFC := Lib.hid fc
 have HI2 := Lib.hid hI2
 have HW := Lib.hid hW
 have HSTT := Lib.hid hST
 have HVL := Lib.hid hX.len
 have HOK := Lib.hid hok
 have HTT := Lib.hid htt
 clear hX hO hL hT1 hXW hOW hLW hXb hbX hbF hkW hI0 fc wST hW hST hk0W hok htt f1 f2 f3 f4
 go_enter Tryd.func16, Tryd.ntmps16
 go_upto_region 1 with fail
 rw [← HW.out]
 clear HW
 refine wp_region_head (S := fun w' => w'.cell? ⟨w.heap.size, 0, none⟩ = some (.pointer (some ⟨xb, 0, none⟩)) ∧ w'.cell? ⟨w.heap.size + 1, 0, none⟩ = some (.int .i64 f) ∧ w'.cell? ⟨xb, 1, none⟩ = some (.slice (some ⟨fb, fof, none⟩) m.Funcs.length fcap) ∧ w'.cell? ⟨xb, 8, none⟩ = some (.map (some lb)) ∧ w'.cell? ⟨fb, fof + f * 3 + 1, none⟩ = some (.int .i64 ST)) 13 (by kernel_rfl) (by kernel_rfl) (by kernel_rfl) (by kernel_rfl) (by decide) (by kernel_rfl) ?hS (fun hHeld => ?_)
 case hS => exact ⟨u0, u1, x1, x8, g1⟩
 simp only [List.take_succ_cons, List.take_zero, List.drop_succ_cons, List.drop_zero]
 refine wpAnyH_take (i := 0) (oi := ?oq1x0) (v := ?vq1x0) ?hq1x0 ?aq1x0 ?bq1x0 ?cq1x0 ?qq1x0 (Or.inl ⟨?wq1x0, ?yq1x0⟩) hHeld ?rq1x0
 case hq1x0 => (simp only [List.getElem?_toArray, List.getElem?_cons_zero]; try rfl)
 case aq1x0 => kernel_rfl
 case bq1x0 => kernel_rfl
 case cq1x0 => kernel_rfl
 case qq1x0 => exact fun _ _ _ h => h
 case wq1x0 => rfl
 case yq1x0 =>
  intro w hSw
  (try dsimp only at hSw)
  go_simp
  try with_reducible rfl
 try simp only [Act.put, List.setIfInBounds_toArray, List.set_cons_zero, List.set_cons_succ]
 refine wpAnyH_take (i := 1) (oi := ?oq1x1) (v := ?vq1x1) ?hq1x1 ?aq1x1 ?bq1x1 ?cq1x1 ?qq1x1 (Or.inl ⟨?wq1x1, ?yq1x1⟩) hHeld ?rq1x1
 case hq1x1 => (simp only [List.getElem?_toArray, List.getElem?_cons_zero, List.getElem?_cons_succ]; try rfl)
 case aq1x1 => kernel_rfl
 case bq1x1 => kernel_rfl
 case cq1x1 => kernel_rfl
 case qq1x1 => exact fun _ _ _ h => h
 case wq1x1 => rfl
 case yq1x1 =>
  intro w hSw
  (try dsimp only at hSw)
  go_simp
  try with_reducible rfl
 try simp only [Act.put, List.setIfInBounds_toArray, List.set_cons_zero, List.set_cons_succ]
 refine wpAnyH_take (i := 2) (oi := ?oq1x2) (v := ?vq1x2) ?hq1x2 ?aq1x2 ?bq1x2 ?cq1x2 ?qq1x2 (Or.inl ⟨?wq1x2, ?yq1x2⟩) hHeld ?rq1x2
 case hq1x2 => (simp only [List.getElem?_toArray, List.getElem?_cons_zero, List.getElem?_cons_succ]; try rfl)
 case aq1x2 => kernel_rfl
 case bq1x2 => kernel_rfl
 case cq1x2 => kernel_rfl
 case qq1x2 => exact fun _ _ _ h => h
 case wq1x2 => rfl
 case yq1x2 =>
  intro w hSw
  (try dsimp only at hSw)
  go_simp
  try with_reducible rfl
 try simp only [Act.put, List.setIfInBounds_toArray, List.set_cons_zero, List.set_cons_succ]
 refine wpAnyH_take (i := 3) (oi := ?oq1x3) (v := ?vq1x3) ?hq1x3 ?aq1x3 ?bq1x3 ?cq1x3 ?qq1x3 (Or.inl ⟨?wq1x3, ?yq1x3⟩) hHeld ?rq1x3
 case hq1x3 => (simp only [List.getElem?_toArray, List.getElem?_cons_zero, List.getElem?_cons_succ]; try rfl)
 case aq1x3 => kernel_rfl
 case bq1x3 => kernel_rfl
 case cq1x3 => kernel_rfl
 case qq1x3 => exact fun _ _ _ h => h
 case wq1x3 => rfl
 case yq1x3 =>
  intro w hSw
  (try dsimp only at hSw)
  go_simp
  try with_reducible rfl
 try simp only [Act.put, List.setIfInBounds_toArray, List.set_cons_zero, List.set_cons_succ]
 refine wpAnyH_take (i := 4) (oi := ?oq1x4) (v := ?vq1x4) ?hq1x4 ?aq1x4 ?bq1x4 ?cq1x4 ?qq1x4 (Or.inl ⟨?wq1x4, ?yq1x4⟩) hHeld ?rq1x4
 case hq1x4 => (simp only [List.getElem?_toArray, List.getElem?_cons_zero, List.getElem?_cons_succ]; try rfl)
 case aq1x4 => kernel_rfl
 case bq1x4 => kernel_rfl
 case cq1x4 => kernel_rfl
 case qq1x4 => exact fun _ _ _ h => h
 case wq1x4 => rfl
 case yq1x4 =>
  intro w hSw
  (try dsimp only at hSw)
  go_simp
  try with_reducible rfl
 try simp only [Act.put, List.setIfInBounds_toArray, List.set_cons_zero, List.set_cons_succ]
 refine wpAnyH_take (i := 5) (oi := ?oq1x5) (v := ?vq1x5) ?hq1x5 ?aq1x5 ?bq1x5 ?cq1x5 ?qq1x5 (Or.inl ⟨?wq1x5, ?yq1x5⟩) hHeld ?rq1x5
 case hq1x5 => (simp only [List.getElem?_toArray, List.getElem?_cons_zero, List.getElem?_cons_succ]; try rfl)
 case aq1x5 => kernel_rfl
 case bq1x5 => kernel_rfl
 case cq1x5 => kernel_rfl
 case qq1x5 => exact fun _ _ _ h => h
 case wq1x5 => rfl
 case yq1x5 =>
  intro w hSw
  (try dsimp only at hSw)
  go_simp
  try with_reducible rfl
 try simp only [Act.put, List.setIfInBounds_toArray, List.set_cons_zero, List.set_cons_succ]
 refine wpAnyH_take (i := 6) (oi := ?oq1x6) (v := ?vq1x6) ?hq1x6 ?aq1x6 ?bq1x6 ?cq1x6 ?qq1x6 (Or.inl ⟨?wq1x6, ?yq1x6⟩) hHeld ?rq1x6
 case hq1x6 => (simp only [List.getElem?_toArray, List.getElem?_cons_zero, List.getElem?_cons_succ]; try rfl)
 case aq1x6 => kernel_rfl
 case bq1x6 => kernel_rfl
 case cq1x6 => kernel_rfl
 case qq1x6 => exact fun _ _ _ h => h
 case wq1x6 => rfl
 case yq1x6 =>
  intro w hSw
  (try dsimp only at hSw)
  go_simp
  try with_reducible rfl
 try simp only [Act.put, List.setIfInBounds_toArray, List.set_cons_zero, List.set_cons_succ]
 refine wpAnyH_take (i := 7) (oi := ?oq1x7) (v := ?vq1x7) ?hq1x7 ?aq1x7 ?bq1x7 ?cq1x7 ?qq1x7 (Or.inl ⟨?wq1x7, ?yq1x7⟩) hHeld ?rq1x7
 case hq1x7 => (simp only [List.getElem?_toArray, List.getElem?_cons_zero, List.getElem?_cons_succ]; try rfl)
 case aq1x7 => kernel_rfl
 case bq1x7 => kernel_rfl
 case cq1x7 => kernel_rfl
 case qq1x7 => exact fun _ _ _ h => h
 case wq1x7 => rfl
 case yq1x7 =>
  intro w hSw
  (try dsimp only at hSw)
  go_simp
  try with_reducible rfl
 try simp only [Act.put, List.setIfInBounds_toArray, List.set_cons_zero, List.set_cons_succ]
 refine wpAnyH_take (i := 8) (oi := ?oq1x8) (v := ?vq1x8) ?hq1x8 ?aq1x8 ?bq1x8 ?cq1x8 ?qq1x8 (Or.inl ⟨?wq1x8, ?yq1x8⟩) hHeld ?rq1x8
 case hq1x8 => (simp only [List.getElem?_toArray, List.getElem?_cons_zero, List.getElem?_cons_succ]; try rfl)
 case aq1x8 => kernel_rfl
 case bq1x8 => kernel_rfl
 case cq1x8 => kernel_rfl
 case qq1x8 => exact fun _ _ _ h => h
 case wq1x8 => rfl
 case yq1x8 =>
  intro w hSw
  (try dsimp only at hSw)
  go_simp
  try with_reducible rfl
 try simp only [Act.put, List.setIfInBounds_toArray, List.set_cons_zero, List.set_cons_succ]
 refine wpAnyH_take (i := 9) (oi := ?oq1x9) (v := ?vq1x9) ?hq1x9 ?aq1x9 ?bq1x9 ?cq1x9 ?qq1x9 (Or.inl ⟨?wq1x9, ?yq1x9⟩) hHeld ?rq1x9
 case hq1x9 => (simp only [List.getElem?_toArray, List.getElem?_cons_zero, List.getElem?_cons_succ]; try rfl)
 case aq1x9 => kernel_rfl
 case bq1x9 => kernel_rfl
 case cq1x9 => kernel_rfl
 case qq1x9 => exact fun _ _ _ h => h
 case wq1x9 => rfl
 case yq1x9 =>
  intro w hSw
  (try dsimp only at hSw)
  go_simp
  try with_reducible rfl
 try simp only [Act.put, List.setIfInBounds_toArray, List.set_cons_zero, List.set_cons_succ]
 refine wpAnyH_take (i := 10) (oi := ?oq1x10) (v := ?vq1x10) ?hq1x10 ?aq1x10 ?bq1x10 ?cq1x10 ?qq1x10 (Or.inl ⟨?wq1x10, ?yq1x10⟩) hHeld ?rq1x10
 case hq1x10 => (simp only [List.getElem?_toArray, List.getElem?_cons_zero, List.getElem?_cons_succ]; try rfl)
 case aq1x10 => kernel_rfl
 case bq1x10 => kernel_rfl
 case cq1x10 => kernel_rfl
 case qq1x10 => exact fun _ _ _ h => h
 case wq1x10 => rfl
 case yq1x10 =>
  intro w hSw
  (try dsimp only at hSw)
  go_simp
  try with_reducible rfl
 try simp only [Act.put, List.setIfInBounds_toArray, List.set_cons_zero, List.set_cons_succ]
 refine wpAnyH_take (i := 11) (oi := ?oq1x11) (v := ?vq1x11) ?hq1x11 ?aq1x11 ?bq1x11 ?cq1x11 ?qq1x11 (Or.inl ⟨?wq1x11, ?yq1x11⟩) hHeld ?rq1x11
 case hq1x11 => (simp only [List.getElem?_toArray, List.getElem?_cons_zero, List.getElem?_cons_succ]; try rfl)
 case aq1x11 => kernel_rfl
 case bq1x11 => kernel_rfl
 case cq1x11 => kernel_rfl
 case qq1x11 => exact fun _ _ _ h => h
 case wq1x11 => rfl
 case yq1x11 =>
  intro w hSw
  (try dsimp only at hSw)
  go_simp
  try with_reducible rfl
 try simp only [Act.put, List.setIfInBounds_toArray, List.set_cons_zero, List.set_cons_succ]
 refine wpAnyH_take (i := 12) (oi := ?oq1x12) (v := ?vq1x12) ?hq1x12 ?aq1x12 ?bq1x12 ?cq1x12 ?qq1x12 (Or.inl ⟨?wq1x12, ?yq1x12⟩) hHeld ?rq1x12
 case hq1x12 => (simp only [List.getElem?_toArray, List.getElem?_cons_zero, List.getElem?_cons_succ]; try rfl)
 case aq1x12 => kernel_rfl
 case bq1x12 => kernel_rfl
 case cq1x12 => kernel_rfl
 case qq1x12 => exact fun _ _ _ h => h
 case wq1x12 => rfl
 case yq1x12 =>
  intro w hSw
  (try dsimp only at hSw)
  go_simp
  try with_reducible rfl
 try simp only [Act.put, List.setIfInBounds_toArray, List.set_cons_zero, List.set_cons_succ]
 refine wpAnyH_done (by kernel_rfl) ?_ _
 dsimp only [TailQ]
 clear hHeld
 go_upto_region 2 with (at_mapUpdate; refine wpList_put _ rfl (.tmp 11) (.tmp 20) (.const (.bool true)) rfl MKIB lb nL _ rfl (HLW.out.1.keep (by repeat (with_reducible (first | assumption | exact Keeps.refl _ | refine Keeps.alloc ?_ _ | refine Keeps.drew ?_ | refine Keeps.drewN ?_ _)))) (by unfold maxLen; omega) ST rfl HWST.out true rfl trivial ?_; intro w1 hM1 hg1)
 rw [isK_put] at hM1
 have hT2 : Turn (fun i => i = 5) c1 W c1 w1 := ((show Keeps W _ from (by repeat (with_reducible (first | assumption | exact Keeps.refl _ | refine Keeps.alloc ?_ _ | refine Keeps.drew ?_ | refine Keeps.drewN ?_ _)))).turn _ c1).trans (grown_turn hg1 (fun b e => by cases e; exact HLW.out.2))
 have hX2 := HXW.out.turn hT2 (by decide) (by decide) (by decide) (by decide)
 have u0' : w1.cell? ⟨w.heap.size, 0, none⟩ = some (.pointer (some ⟨xb, 0, none⟩)) := (HBX.out.turn hT2 (by decide)).1.cell rfl
 have u1' : w1.cell? ⟨w.heap.size + 1, 0, none⟩ = some (.int .i64 f) := (HBF.out.turn hT2 (by decide)).1.cell rfl
 have x6' : w1.cell? ⟨xb, 6, none⟩ = some (.slice as_ vs.length acap) := hX2.blk.1.cell rfl
 obtain ⟨ga, gcap, ge, -, -, -, -, gc, -⟩ := own_read1 (h := fun s : Sle => s.v) hX2.all.1 (by rw [HVL.out]; omega)
 injection ge with ge1 ge2 ge3
 subst ge1
 obtain ⟨⟨sa, sn, sc⟩, hsl⟩ : ∃ z, z = nth vs f := ⟨_, rfl⟩
 have y0 : w1.cell? ⟨ga, f, none⟩ = some (.slice sa sn sc) := by have z := gc f (by rw [HVL.out]; exact hf); rw [← hsl] at z; exact z
 have hsp := hX2.sps.here f hf
 rw [← hsl] at hsp
 obtain ⟨pa, pcap, pe, p1, p2, p3, p4⟩ := hsp
 injection pe with pe1 pe2 pe3
 subst pe1 pe2 pe3
 have hfv : (f : Int) < (vs.length : Int) := by rw [HVL.out]; omega
 rw [← HSL.out, ← HSN.out] at y0 p4
 have HM1 : Hid (MIBC c1 w1 lb (nL + 1) (ks ++ [ST])) := Lib.hid ⟨hM1, HLW.out.2⟩
 have HT2 := Lib.hid hT2
 have HP4 := Lib.hid p4
 clear hM1 hT2 hX2 hg1 ge2 ge3 gc p1 p2 p3 p4 u0 u1 x1 x6 x8 g1
 -- LOOP
 have HSLV := Lib.hid hsl
 clear hsl
 go_quiet (fail)
 go_wp2_with fail
 go_loopw [29] (fun s29 wr => ∃ (k : Nat) (c2 : Nat → Nat), k ≤ SN ∧ s29 = .int .i64 k ∧ Hid (Turn (fun i => i = 5) c1 W c2 wr) ∧ Hid (∃ nn, nn ≤ nL + 1 + 2 * k ∧ MIBC c2 wr lb nn (ks ++ ST :: (SL.take k).flatMap keysP)) ∧ Hid (∀ i, i < k → spB m om f (nth SL i) = false)) (fun s29 _ => SN - (intOf s29).toNat)
 case atStart => exact ⟨0, c1, Nat.zero_le _, rfl, Lib.hid (HT2.out.keep ((Keeps.refl _).drewN _)), Lib.hid ⟨_, Nat.le_refl _, HM1.out.keep ((Keeps.refl _).drewN _)⟩, Lib.hid (fun i hi => absurd hi (Nat.not_lt_zero _))⟩
 case round =>
  obtain ⟨k, c2, hk, rfl, HT, HM, HNB⟩ := hrel
  clear HM1 HT2 HP4
  by_cases hlt : k < SN
  case neg =>
   obtain rfl : k = SN := by omega
   have hno := anyN_no HNB.out
   have HNO := Lib.hid hno
   clear hno
   go_wp2_with fail
   go_ret
   refine MarkAns.fine HNO.out ((HT1.out _).trans HT.out) ?_
   obtain ⟨nn, hnn, hm⟩ := HM.out
   rw [HSN.out, List.take_length] at hm
   exact MapC.mono hm (by omega)
  case pos =>
  have hltz : (k : Int) < (SN : Int) := by omega
  have hXr := HXW.out.turn HT.out (by decide) (by decide) (by decide) (by decide)
  have hsp := hXr.sps.here f hf
  rw [← HSLV.out] at hsp
  obtain ⟨_, _, pe, -, -, -, p4⟩ := hsp
  injection pe with pe1 pe2 pe3
  subst pe1
  rw [← HSL.out, ← HSN.out] at p4
  obtain ⟨spb, spo, rfl, pc⟩ := p4 (by omega)
  have hsok := HOK.out (nth SL k) (by rw [nth_eq _ _ (by rw [← HSN.out]; exact hlt)]; exact List.getElem_mem _)
  obtain ⟨⟨A, Z, ⟨K, D, A2, B, N, Lg⟩⟩, hs⟩ : ∃ s, s = nth SL k := ⟨_, rfl⟩
  rw [← hs] at hsok
  obtain ⟨a0, a1, zz0, zz1, n0, n1, k0, k1, knt⟩ := hsok
  dsimp only at a0 a1 zz0 zz1 n0 n1 k0 k1 knt
  have g : ∀ j, j < 8 → wr.cell? ⟨spb, spo + k * 8 + j, none⟩ = some ((csp ⟨A, Z, ⟨K, D, A2, B, N, Lg⟩⟩).getD j undef) := fun j hj => by rw [hs]; exact pc k j hlt hj
  have d0 : wr.cell? ⟨spb, spo + k * 8, none⟩ = some (.int .i64 A) := g 0 (by omega)
  have d1 : wr.cell? ⟨spb, spo + k * 8 + 1, none⟩ = some (.int .i64 Z) := g 1 (by omega)
  have d2 : wr.cell? ⟨spb, spo + k * 8 + 2, none⟩ = some (.int .i64 K) := g 2 (by omega)
  have d3 : wr.cell? ⟨spb, spo + k * 8 + 3, none⟩ = some (.int .i64 D) := g 3 (by omega)
  have d4 : wr.cell? ⟨spb, spo + k * 8 + 4, none⟩ = some (.int .i64 A2) := g 4 (by omega)
  have d5 : wr.cell? ⟨spb, spo + k * 8 + 5, none⟩ = some (.int .i64 B) := g 5 (by omega)
  have d6 : wr.cell? ⟨spb, spo + k * 8 + 6, none⟩ = some (.int .i64 N) := g 6 (by omega)
  have d7 : wr.cell? ⟨spb, spo + k * 8 + 7, none⟩ = some (.bool Lg) := g 7 (by omega)
  have hspb : spb < wr.heap.size := lt_of_cell d0
  have wTo : IntKind.i64.wrap (A + N) = A + N := by rw [IntKind.wrap_i64]; omega
  have hspB : spB m om f ⟨A, Z, ⟨K, D, A2, B, N, Lg⟩⟩ = spB m om f (nth SL k) := by rw [← hs]
  have htake : (SL.take (k + 1)).flatMap keysP = (SL.take k).flatMap keysP ++ keysP ⟨A, Z, ⟨K, D, A2, B, N, Lg⟩⟩ := by rw [take_succ_nth _ _ (by rw [← HSN.out]; exact hlt), List.flatMap_append, ← hs]; simp
  have HSPB := Lib.hid hspB
  have HTAKE := Lib.hid htake
  clear hs g pc p4 pe2 pe3 hspB htake
  go_upto_block 2 with fail
  obtain ⟨wq, c3, hwq, hkq, hTq, hb6, hb7⟩ := two_paint wr c2 (.cells #[.int .i64 A, .int .i64 Z, .int .i64 K, .int .i64 D, .int .i64 A2, .int .i64 B, .int .i64 N, .bool Lg] 63) (.cells #[.int .i64 (A + N)] 3) 7
  rw [← hwq]
  have hTW : Turn (fun i => i = 5) c1 W c3 wq := HT.out.trans (hTq _)
  obtain ⟨b7, hb7e⟩ : ∃ b, b = wr.heap.size + 1 := ⟨_, rfl⟩
  obtain ⟨b6, hb6e⟩ : ∃ b, b = wr.heap.size := ⟨_, rfl⟩
  rw [← hb7e, ← hb6e]
  rw [← hb7e] at hb7
  rw [← hb6e] at hb6
  have hXq := HXW.out.turn hTW (by decide) (by decide) (by decide) (by decide)
  have hOq := HOW.out.turn hTW (by decide)
  have hbx := (HBX.out.turn hTW (by decide)).1
  have hbf := (HBF.out.turn hTW (by decide)).1
  have hS : MkS w.heap.size (w.heap.size + 1) xb b6 b7 ob lb f ⟨A, Z, ⟨K, D, A2, B, N, Lg⟩⟩ (.slice (some ⟨fb, fof, none⟩) m.Funcs.length fcap) v2 wq :=
   ⟨hbx.cell rfl, hbf.cell rfl, hXq.blk.1.cell rfl, hXq.blk.1.cell rfl, hXq.blk.1.cell rfl, hXq.blk.1.cell rfl, hb6.1.cell rfl, hb6.1.cell rfl, hb6.1.cell rfl, hb6.1.cell rfl, hb6.1.cell rfl, hb6.1.cell rfl, hb6.1.cell rfl, hb6.1.cell rfl, hb7.1.cell rfl, hb6.1.lt, hb7.1.lt⟩
  have hMq : ∃ nn, nn ≤ nL + 1 + 2 * k ∧ MIBC c3 wq lb nn (ks ++ ST :: (SL.take k).flatMap keysP) := by
   obtain ⟨nn, h1, h2⟩ := HM.out
   exact ⟨nn, h1, h2.turn (hTq (fun _ => False)) (fun q => q)⟩
  have hne6 : b6 ≠ lb := fun e => by have := HM.out; obtain ⟨nn, -, hm⟩ := this; have := hm.1.lt; omega
  have hne7 : b7 ≠ lb := fun e => by have := HM.out; obtain ⟨nn, -, hm⟩ := this; have := hm.1.lt; omega
  have hneX : w.heap.size ≠ lb := fun e => by have := HL.out.1.lt; omega
  have hnex : xb ≠ lb := fun e => by have h1 := HX.out.blk.2; have h2 := HL.out.2; rw [e] at h1; omega
  have HS := Lib.hid hS
  have HTW := Lib.hid hTW
  have HMQ := Lib.hid hMq
  have HOQ := Lib.hid hOq
  have HXQ := Lib.hid hXq
  have HBR := Lib.hid (fun W' => branch_any K D A2 B N Lg W')
  have HSTP := Lib.hid (fun W' => stops_any K D A2 B N Lg W')
  unfold insV at HBR HSTP
  have HINS : Hid (∀ W', Keeps wq W' → Calls Tryd.prog 45 #[.pointer (some ⟨xb, 0, none⟩), .int .i64 f, .int .i64 (A + N)] W' fun e w' => e = .returned (.bool (decide (om (A + N) = some (f : Int)))) ∧ W' = w') :=
   Lib.hid fun W' hk' => inside_any (n := nO) (om := om) (hk'.cell hS.2.2.2.2.1) (hOq.1.keep hk') (wfI_of (by omega) (by omega))
  have HNE : Hid (b6 ≠ lb ∧ b7 ≠ lb ∧ w.heap.size ≠ lb ∧ xb ≠ lb) := Lib.hid ⟨hne6, hne7, hneX, hnex⟩
  have HKN : Hid (K = 24 → 0 ≤ N) := Lib.hid knt
  clear hwq hkq hTq hb6 hb7 hXq hOq hbx hbf hS hMq hTW hne6 hne7 hneX hnex hb6e hb7e d0 d1 d2 d3 d4 d5 d6 d7 hspb HM HT u0' u1' x6' y0 hXr wTo knt
  obtain ⟨u0, u1, x1, x2, x7, x8, q0, q1, q2, q3, q4, q5, q6, q7, r0, l6, l7⟩ := HS.out
  by_cases hbr : brN K = true
  case pos =>
   rw [hbr] at HBR
   have hjj : brN K = true ∨ K = 22 := Or.inl hbr
   clear hbr HSTP HKN
   have hkeys : keysP ⟨A, Z, ⟨K, D, A2, B, N, Lg⟩⟩ = [A + N, A + Z] := by unfold keysP; exact if_pos hjj
   have hsb : spB m om f (nth SL k) = !decide (om (A + N) = some (f : Int)) := by rw [← HSPB.out]; unfold spB; exact if_pos hjj
   obtain ⟨IN, hIN⟩ : ∃ z, z = decide (om (A + N) = some (f : Int)) := ⟨_, rfl⟩
   rw [← hIN] at hsb
   rw [← hIN] at HINS
   have HKEYS := Lib.hid hkeys
   have HSB := Lib.hid hsb
   clear hkeys hsb hIN hjj
   cases IN with
   | false =>
    go_wp2_with (first | (go_at_call 44; refine (HBR.out _).mono ?_; rintro e wa ⟨rfl, hka⟩; obtain ⟨u0a, u1a, x1a, x2a, x7a, x8a, q0a, q1a, q2a, q3a, q4a, q5a, q6a, q7a, r0a, l6a, l7a⟩ := HS.out.keep hka) | (go_at_call 45; refine (HINS.out _ hka).mono ?_; rintro e wb ⟨rfl, rfl⟩))
    go_ret
    exact MarkAns.bad (anyN_yes hlt (by rw [HSB.out]; rfl)) (((HT1.out _).trans HTW.out).keep hka)
   | true =>
    go_upto_region 10 with (first | (go_at_call 44; refine (HBR.out _).mono ?_; rintro e wa ⟨rfl, hka⟩; obtain ⟨u0a, u1a, x1a, x2a, x7a, x8a, q0a, q1a, q2a, q3a, q4a, q5a, q6a, q7a, r0a, l6a, l7a⟩ := HS.out.keep hka) | (go_at_call 45; refine (HINS.out _ hka).mono ?_; rintro e wb ⟨rfl, rfl⟩))
    have wAZ : IntKind.i64.wrap (A + Z) = A + Z := by rw [IntKind.wrap_i64]; omega
    obtain ⟨nn, hnn, hmq⟩ := HMQ.out
    obtain ⟨ev0, est, w3, w4, er1, er2, hM4, hg4, hg3, hsz3⟩ := (hmq.1.keep (hka.trans (show Keeps wa wa.drew from (Keeps.refl _).drew))).entry MKIB (by unfold maxLen; omega) (x := A + N) (wfI_of (by omega) (by omega)) (c := true) trivial
    rw [isK_put] at hM4
    obtain ⟨ev1, est1, w5, w6, er3, er4, hM6, hg6, hg5, hsz5⟩ := hM4.entry MKIB (by unfold maxLen; omega) (x := A + Z) (wfI_of (by omega) (by omega)) (c := true) trivial
    rw [isK_put] at hM6
    have ht4 : Turn (fun i => i = 5) c1 W c3 w4 := (HTW.out.keep (hka.trans (show Keeps wa wa.drew from (Keeps.refl _).drew))).trans (grown_turn hg4 (fun b e => by cases e; exact hmq.2))
    have ht6 : Turn (fun i => i = 5) c1 W c3 w6 := ht4.trans (grown_turn hg6 (fun b e => by cases e; exact hmq.2))
    have HT6 := Lib.hid ht6
    have HM6 : Hid (∃ nn, nn ≤ nL + 1 + 2 * (k + 1) ∧ MIBC c3 w6 lb nn (ks ++ ST :: (SL.take (k + 1)).flatMap keysP)) := Lib.hid ⟨nn + 1 + 1, by omega, by
     rw [HTAKE.out, HKEYS.out]
     refine ⟨?_, hmq.2⟩
     have e : ks ++ ST :: ((SL.take k).flatMap keysP ++ [A + N, A + Z]) = ks ++ ST :: (SL.take k).flatMap keysP ++ [A + N] ++ [A + Z] := by simp
     rw [e]
     exact hM6⟩
    have HR1 := Lib.hid er1
    have HR2 := Lib.hid er2
    have HR3 := Lib.hid er3
    have HR4 := Lib.hid er4
    have hS0 : EntS w.heap.size xb b6 b7 lb A Z (A + N) wa.drew := ⟨u0a, x8a, r0a, q0a, q1a⟩
    have hlb := HNE.out
    have hS3 : EntS w.heap.size xb b6 b7 lb A Z (A + N) w3 := hS0.grown hg3 hlb.2.2.1 hlb.2.2.2 hlb.1 hlb.2.1
    have hS4 : EntS w.heap.size xb b6 b7 lb A Z (A + N) w4 := hS0.grown hg4 hlb.2.2.1 hlb.2.2.2 hlb.1 hlb.2.1
    have hS5 : EntS w.heap.size xb b6 b7 lb A Z (A + N) w5 := hS4.grown hg5 hlb.2.2.1 hlb.2.2.2 hlb.1 hlb.2.1
    have hS6 : EntS w.heap.size xb b6 b7 lb A Z (A + N) w6 := hS4.grown hg6 hlb.2.2.1 hlb.2.2.2 hlb.1 hlb.2.1
    have HS3 := Lib.hid hS3
    have HS4 := Lib.hid hS4
    have HS5 := Lib.hid hS5
    have HS6 := Lib.hid hS6
    clear hM4 hg4 hM6 hg6 ht4 ht6 hmq hg3 hsz3 hg5 hsz5 er1 er2 er3 er4 hS3 hS4 hS5 hS6 hlb
    refine wp_region_held_drew (S := EntS w.heap.size xb b6 b7 lb A Z (A + N)) (by kernel_rfl) hS0 (fun hHeld => ?_)
    clear hS0
    refine takeE 0 hHeld ?_
    refine takeE 1 hHeld ?_
    refine takeE 2 hHeld ?_
    refine takeE 3 hHeld ?_
    refine takeE 4 hHeld ?_
    refine takeE 5 hHeld ?_
    refine takeE 6 hHeld ?_
    refine takeE 7 hHeld ?_
    refine takeE 8 hHeld ?_
    refine takeE 9 hHeld ?_
    refine takeE 10 hHeld ?_
    refine takeE 11 hHeld ?_
    refine takeE 12 hHeld ?_
    refine takeE 13 hHeld ?_
    refine wpAnyH_ready (rs := [14]) (by kernel_rfl) (by simp) ?_
    refine AllReadyH.cons (o := ?oe36a) ?he36a ?se36a ?me36a
    case he36a => (simp only [List.getElem?_toArray, List.getElem?_cons_zero, List.getElem?_cons_succ]; try rfl)
    case me36a => exact AllReadyH.nil
    case se36a =>
    intro K hK
    rw [if_pos (by rfl)]
    unfold Oper.wp
    simp only [execOp, Act.eval]
    simp [HR1.out, Result.andThen, Oper.upon]
    refine hK.out _ _ HS3.out (fun hHeld => ?_)
    clear hK K hHeld
    have hHeld := HS3.out
    try simp only [Act.put, List.setIfInBounds_toArray, List.set_cons_zero, List.set_cons_succ]
    refine wpAnyH_take (i := 15) (oi := ?oq37x15) (v := ?vq37x15) ?hq37x15 ?aq37x15 ?bq37x15 ?cq37x15 ?qq37x15 (Or.inl ⟨?wq37x15, ?yq37x15⟩) hHeld ?rq37x15
    case hq37x15 => (simp only [List.getElem?_toArray, List.getElem?_cons_zero, List.getElem?_cons_succ]; try rfl)
    case aq37x15 => kernel_rfl
    case bq37x15 => kernel_rfl
    case cq37x15 => kernel_rfl
    case qq37x15 => exact fun _ _ _ h => h
    case wq37x15 => rfl
    case yq37x15 =>
     intro w hSw
     (try dsimp only at hSw)
     go_simp
     try with_reducible rfl
    try simp only [Act.put, List.setIfInBounds_toArray, List.set_cons_zero, List.set_cons_succ]
    refine wpAnyH_ready (rs := [16]) (by kernel_rfl) (by simp) ?_
    refine AllReadyH.cons (o := ?oe36b) ?he36b ?se36b ?me36b
    case he36b => (simp only [List.getElem?_toArray, List.getElem?_cons_zero, List.getElem?_cons_succ]; try rfl)
    case me36b => exact AllReadyH.nil
    case se36b =>
    intro K hK
    rw [if_pos (by rfl)]
    unfold Oper.wp
    simp only [execOp, Act.eval]
    simp [HR2.out, Result.andThen, Oper.upon]
    refine hK.out _ _ HS4.out (fun hHeld => ?_)
    clear hK K hHeld
    have hHeld := HS4.out
    try simp only [Act.put, List.setIfInBounds_toArray, List.set_cons_zero, List.set_cons_succ]
    refine wpAnyH_ready (rs := [17]) (by kernel_rfl) (by simp) ?_
    refine AllReadyH.cons (o := ?oe38a) ?he38a ?se38a ?me38a
    case he38a => (simp only [List.getElem?_toArray, List.getElem?_cons_zero, List.getElem?_cons_succ]; try rfl)
    case me38a => exact AllReadyH.nil
    case se38a =>
    intro K hK
    rw [if_pos (by rfl)]
    unfold Oper.wp
    simp only [execOp, Act.eval]
    simp [HR3.out, Result.andThen, Oper.upon]
    refine hK.out _ _ HS5.out (fun hHeld => ?_)
    clear hK K hHeld
    have hHeld := HS5.out
    try simp only [Act.put, List.setIfInBounds_toArray, List.set_cons_zero, List.set_cons_succ]
    refine wpAnyH_take (i := 18) (oi := ?oq39x18) (v := ?vq39x18) ?hq39x18 ?aq39x18 ?bq39x18 ?cq39x18 ?qq39x18 (Or.inl ⟨?wq39x18, ?yq39x18⟩) hHeld ?rq39x18
    case hq39x18 => (simp only [List.getElem?_toArray, List.getElem?_cons_zero, List.getElem?_cons_succ]; try rfl)
    case aq39x18 => kernel_rfl
    case bq39x18 => kernel_rfl
    case cq39x18 => kernel_rfl
    case qq39x18 => exact fun _ _ _ h => h
    case wq39x18 => rfl
    case yq39x18 =>
     intro w hSw
     (try dsimp only at hSw)
     go_simp
     try with_reducible rfl
    try simp only [Act.put, List.setIfInBounds_toArray, List.set_cons_zero, List.set_cons_succ]
    refine wpAnyH_ready (rs := [19]) (by kernel_rfl) (by simp) ?_
    refine AllReadyH.cons (o := ?oe38b) ?he38b ?se38b ?me38b
    case he38b => (simp only [List.getElem?_toArray, List.getElem?_cons_zero, List.getElem?_cons_succ]; try rfl)
    case me38b => exact AllReadyH.nil
    case se38b =>
    intro K hK
    rw [if_pos (by rfl)]
    unfold Oper.wp
    simp only [execOp, Act.eval]
    simp [HR4.out, Result.andThen, Oper.upon]
    refine hK.out _ _ HS6.out (fun hHeld => ?_)
    clear hK K hHeld
    have hHeld := HS6.out
    try simp only [Act.put, List.setIfInBounds_toArray, List.set_cons_zero, List.set_cons_succ]
    refine wpAnyH_done (by kernel_rfl) ?_ _
    clear hHeld
    have HT5 := HT6
    have HM5 := HM6
    go_wp2_with fail
    go_roundw
    case rel => exact ⟨k + 1, c3, by omega, by go_num, HT5, HM5, Lib.hid (fun i hi => by
     by_cases q : i = k
     ·subst q; rw [HSB.out]; rfl
     ·exact HNB.out i (by omega))⟩
    case measure => simp [intOf]; omega
  case neg =>
  have hbr0 : brN K = false := by simpa using hbr
  by_cases h22 : K = 22
  case pos =>
   rw [hbr0] at HBR
   have hjj : brN K = true ∨ K = 22 := Or.inr h22
   have t22 : (K == 22) = true := by simpa using h22
   clear hbr hbr0 h22 HSTP HKN
   have hkeys : keysP ⟨A, Z, ⟨K, D, A2, B, N, Lg⟩⟩ = [A + N, A + Z] := by unfold keysP; exact if_pos hjj
   have hsb : spB m om f (nth SL k) = !decide (om (A + N) = some (f : Int)) := by rw [← HSPB.out]; unfold spB; exact if_pos hjj
   obtain ⟨IN, hIN⟩ : ∃ z, z = decide (om (A + N) = some (f : Int)) := ⟨_, rfl⟩
   rw [← hIN] at hsb
   rw [← hIN] at HINS
   have HKEYS := Lib.hid hkeys
   have HSB := Lib.hid hsb
   clear hkeys hsb hIN hjj
   cases IN with
   | false =>
    go_wp2_with (first | (go_at_call 44; refine (HBR.out _).mono ?_; rintro e wa ⟨rfl, hka⟩; obtain ⟨u0a, u1a, x1a, x2a, x7a, x8a, q0a, q1a, q2a, q3a, q4a, q5a, q6a, q7a, r0a, l6a, l7a⟩ := HS.out.keep hka) | (go_at_call 45; refine (HINS.out _ hka).mono ?_; rintro e wb ⟨rfl, rfl⟩))
    go_ret
    exact MarkAns.bad (anyN_yes hlt (by rw [HSB.out]; rfl)) (((HT1.out _).trans HTW.out).keep hka)
   | true =>
    go_upto_region 10 with (first | (go_at_call 44; refine (HBR.out _).mono ?_; rintro e wa ⟨rfl, hka⟩; obtain ⟨u0a, u1a, x1a, x2a, x7a, x8a, q0a, q1a, q2a, q3a, q4a, q5a, q6a, q7a, r0a, l6a, l7a⟩ := HS.out.keep hka) | (go_at_call 45; refine (HINS.out _ hka).mono ?_; rintro e wb ⟨rfl, rfl⟩))
    have wAZ : IntKind.i64.wrap (A + Z) = A + Z := by rw [IntKind.wrap_i64]; omega
    obtain ⟨nn, hnn, hmq⟩ := HMQ.out
    obtain ⟨ev0, est, w3, w4, er1, er2, hM4, hg4, hg3, hsz3⟩ := (hmq.1.keep (hka.trans (show Keeps wa wa.drew from (Keeps.refl _).drew))).entry MKIB (by unfold maxLen; omega) (x := A + N) (wfI_of (by omega) (by omega)) (c := true) trivial
    rw [isK_put] at hM4
    obtain ⟨ev1, est1, w5, w6, er3, er4, hM6, hg6, hg5, hsz5⟩ := hM4.entry MKIB (by unfold maxLen; omega) (x := A + Z) (wfI_of (by omega) (by omega)) (c := true) trivial
    rw [isK_put] at hM6
    have ht4 : Turn (fun i => i = 5) c1 W c3 w4 := (HTW.out.keep (hka.trans (show Keeps wa wa.drew from (Keeps.refl _).drew))).trans (grown_turn hg4 (fun b e => by cases e; exact hmq.2))
    have ht6 : Turn (fun i => i = 5) c1 W c3 w6 := ht4.trans (grown_turn hg6 (fun b e => by cases e; exact hmq.2))
    have HT6 := Lib.hid ht6
    have HM6 : Hid (∃ nn, nn ≤ nL + 1 + 2 * (k + 1) ∧ MIBC c3 w6 lb nn (ks ++ ST :: (SL.take (k + 1)).flatMap keysP)) := Lib.hid ⟨nn + 1 + 1, by omega, by
     rw [HTAKE.out, HKEYS.out]
     refine ⟨?_, hmq.2⟩
     have e : ks ++ ST :: ((SL.take k).flatMap keysP ++ [A + N, A + Z]) = ks ++ ST :: (SL.take k).flatMap keysP ++ [A + N] ++ [A + Z] := by simp
     rw [e]
     exact hM6⟩
    have HR1 := Lib.hid er1
    have HR2 := Lib.hid er2
    have HR3 := Lib.hid er3
    have HR4 := Lib.hid er4
    have hS0 : EntS w.heap.size xb b6 b7 lb A Z (A + N) wa.drew := ⟨u0a, x8a, r0a, q0a, q1a⟩
    have hlb := HNE.out
    have hS3 : EntS w.heap.size xb b6 b7 lb A Z (A + N) w3 := hS0.grown hg3 hlb.2.2.1 hlb.2.2.2 hlb.1 hlb.2.1
    have hS4 : EntS w.heap.size xb b6 b7 lb A Z (A + N) w4 := hS0.grown hg4 hlb.2.2.1 hlb.2.2.2 hlb.1 hlb.2.1
    have hS5 : EntS w.heap.size xb b6 b7 lb A Z (A + N) w5 := hS4.grown hg5 hlb.2.2.1 hlb.2.2.2 hlb.1 hlb.2.1
    have hS6 : EntS w.heap.size xb b6 b7 lb A Z (A + N) w6 := hS4.grown hg6 hlb.2.2.1 hlb.2.2.2 hlb.1 hlb.2.1
    have HS3 := Lib.hid hS3
    have HS4 := Lib.hid hS4
    have HS5 := Lib.hid hS5
    have HS6 := Lib.hid hS6
    clear hM4 hg4 hM6 hg6 ht4 ht6 hmq hg3 hsz3 hg5 hsz5 er1 er2 er3 er4 hS3 hS4 hS5 hS6 hlb
    refine wp_region_held_drew (S := EntS w.heap.size xb b6 b7 lb A Z (A + N)) (by kernel_rfl) hS0 (fun hHeld => ?_)
    clear hS0
    refine takeE 0 hHeld ?_
    refine takeE 1 hHeld ?_
    refine takeE 2 hHeld ?_
    refine takeE 3 hHeld ?_
    refine takeE 4 hHeld ?_
    refine takeE 5 hHeld ?_
    refine takeE 6 hHeld ?_
    refine takeE 7 hHeld ?_
    refine takeE 8 hHeld ?_
    refine takeE 9 hHeld ?_
    refine takeE 10 hHeld ?_
    refine takeE 11 hHeld ?_
    refine takeE 12 hHeld ?_
    refine takeE 13 hHeld ?_
    refine wpAnyH_ready (rs := [14]) (by kernel_rfl) (by simp) ?_
    refine AllReadyH.cons (o := ?oe40a) ?he40a ?se40a ?me40a
    case he40a => (simp only [List.getElem?_toArray, List.getElem?_cons_zero, List.getElem?_cons_succ]; try rfl)
    case me40a => exact AllReadyH.nil
    case se40a =>
    intro K hK
    rw [if_pos (by rfl)]
    unfold Oper.wp
    simp only [execOp, Act.eval]
    simp [HR1.out, Result.andThen, Oper.upon]
    refine hK.out _ _ HS3.out (fun hHeld => ?_)
    clear hK K hHeld
    have hHeld := HS3.out
    try simp only [Act.put, List.setIfInBounds_toArray, List.set_cons_zero, List.set_cons_succ]
    refine wpAnyH_take (i := 15) (oi := ?oq41x15) (v := ?vq41x15) ?hq41x15 ?aq41x15 ?bq41x15 ?cq41x15 ?qq41x15 (Or.inl ⟨?wq41x15, ?yq41x15⟩) hHeld ?rq41x15
    case hq41x15 => (simp only [List.getElem?_toArray, List.getElem?_cons_zero, List.getElem?_cons_succ]; try rfl)
    case aq41x15 => kernel_rfl
    case bq41x15 => kernel_rfl
    case cq41x15 => kernel_rfl
    case qq41x15 => exact fun _ _ _ h => h
    case wq41x15 => rfl
    case yq41x15 =>
     intro w hSw
     (try dsimp only at hSw)
     go_simp
     try with_reducible rfl
    try simp only [Act.put, List.setIfInBounds_toArray, List.set_cons_zero, List.set_cons_succ]
    refine wpAnyH_ready (rs := [16]) (by kernel_rfl) (by simp) ?_
    refine AllReadyH.cons (o := ?oe40b) ?he40b ?se40b ?me40b
    case he40b => (simp only [List.getElem?_toArray, List.getElem?_cons_zero, List.getElem?_cons_succ]; try rfl)
    case me40b => exact AllReadyH.nil
    case se40b =>
    intro K hK
    rw [if_pos (by rfl)]
    unfold Oper.wp
    simp only [execOp, Act.eval]
    simp [HR2.out, Result.andThen, Oper.upon]
    refine hK.out _ _ HS4.out (fun hHeld => ?_)
    clear hK K hHeld
    have hHeld := HS4.out
    try simp only [Act.put, List.setIfInBounds_toArray, List.set_cons_zero, List.set_cons_succ]
    refine wpAnyH_ready (rs := [17]) (by kernel_rfl) (by simp) ?_
    refine AllReadyH.cons (o := ?oe42a) ?he42a ?se42a ?me42a
    case he42a => (simp only [List.getElem?_toArray, List.getElem?_cons_zero, List.getElem?_cons_succ]; try rfl)
    case me42a => exact AllReadyH.nil
    case se42a =>
    intro K hK
    rw [if_pos (by rfl)]
    unfold Oper.wp
    simp only [execOp, Act.eval]
    simp [HR3.out, Result.andThen, Oper.upon]
    refine hK.out _ _ HS5.out (fun hHeld => ?_)
    clear hK K hHeld
    have hHeld := HS5.out
    try simp only [Act.put, List.setIfInBounds_toArray, List.set_cons_zero, List.set_cons_succ]
    refine wpAnyH_take (i := 18) (oi := ?oq43x18) (v := ?vq43x18) ?hq43x18 ?aq43x18 ?bq43x18 ?cq43x18 ?qq43x18 (Or.inl ⟨?wq43x18, ?yq43x18⟩) hHeld ?rq43x18
    case hq43x18 => (simp only [List.getElem?_toArray, List.getElem?_cons_zero, List.getElem?_cons_succ]; try rfl)
    case aq43x18 => kernel_rfl
    case bq43x18 => kernel_rfl
    case cq43x18 => kernel_rfl
    case qq43x18 => exact fun _ _ _ h => h
    case wq43x18 => rfl
    case yq43x18 =>
     intro w hSw
     (try dsimp only at hSw)
     go_simp
     try with_reducible rfl
    try simp only [Act.put, List.setIfInBounds_toArray, List.set_cons_zero, List.set_cons_succ]
    refine wpAnyH_ready (rs := [19]) (by kernel_rfl) (by simp) ?_
    refine AllReadyH.cons (o := ?oe42b) ?he42b ?se42b ?me42b
    case he42b => (simp only [List.getElem?_toArray, List.getElem?_cons_zero, List.getElem?_cons_succ]; try rfl)
    case me42b => exact AllReadyH.nil
    case se42b =>
    intro K hK
    rw [if_pos (by rfl)]
    unfold Oper.wp
    simp only [execOp, Act.eval]
    simp [HR4.out, Result.andThen, Oper.upon]
    refine hK.out _ _ HS6.out (fun hHeld => ?_)
    clear hK K hHeld
    have hHeld := HS6.out
    try simp only [Act.put, List.setIfInBounds_toArray, List.set_cons_zero, List.set_cons_succ]
    refine wpAnyH_done (by kernel_rfl) ?_ _
    clear hHeld
    have HT5 := HT6
    have HM5 := HM6
    go_wp2_with fail
    go_roundw
    case rel => exact ⟨k + 1, c3, by omega, by go_num, HT5, HM5, Lib.hid (fun i hi => by
     by_cases q : i = k
     ·subst q; rw [HSB.out]; rfl
     ·exact HNB.out i (by omega))⟩
    case measure => simp [intOf]; omega
  case neg =>
  rw [hbr0] at HBR
  have t22 : (K == 22) = false := by simpa using h22
  have hnj : ¬ (brN K = true ∨ K = 22) := fun q => q.elim hbr h22
  clear hbr hbr0 h22
  by_cases hst9 : stN K = true
  case pos =>
   rw [hst9] at HSTP
   have hkeys : keysP ⟨A, Z, ⟨K, D, A2, B, N, Lg⟩⟩ = [A + Z] := by unfold keysP; rw [if_neg hnj, if_pos hst9]
   have HKEYS := Lib.hid hkeys
   have h23 : K ≠ 23 := fun e => by rw [e] at hst9; exact absurd hst9 (by decide)
   clear hkeys
   go_upto_region 12 with (first | (go_at_call 44; refine (HBR.out _).mono ?_; rintro e wa ⟨rfl, hka⟩; obtain ⟨u0a, u1a, x1a, x2a, x7a, x8a, q0a, q1a, q2a, q3a, q4a, q5a, q6a, q7a, r0a, l6a, l7a⟩ := HS.out.keep hka) | (go_at_call 43; refine (HSTP.out _).mono ?_; rintro e wb ⟨rfl, hkb⟩; obtain ⟨u0b, u1b, x1b, x2b, x7b, x8b, q0b, q1b, q2b, q3b, q4b, q5b, q6b, q7b, r0b, l6b, l7b⟩ := HS.out.keep (hka.trans hkb)))
   have wAZ : IntKind.i64.wrap (A + Z) = A + Z := by rw [IntKind.wrap_i64]; omega
   have hkk : Keeps wq wb := hka.trans hkb
   refine wp_region_head (S := EntS w.heap.size xb b6 b7 lb A Z (A + N)) 9 (by kernel_rfl) (by kernel_rfl) (by kernel_rfl) (by kernel_rfl) (by decide) (by kernel_rfl) ?hS (fun hHeld => ?_)
   case hS => exact ⟨u0b, x8b, r0b, q0b, q1b⟩
   simp only [List.take_succ_cons, List.take_zero, List.drop_succ_cons, List.drop_zero]
   refine takeE 0 hHeld ?_
   refine takeE 1 hHeld ?_
   refine takeE 2 hHeld ?_
   refine takeE 3 hHeld ?_
   refine takeE 4 hHeld ?_
   refine takeE 5 hHeld ?_
   refine takeE 6 hHeld ?_
   refine takeE 7 hHeld ?_
   refine takeE 8 hHeld ?_
   refine wpAnyH_done (by kernel_rfl) ?_ _
   dsimp only [TailQ]
   clear hHeld
   obtain ⟨nn, hnn, hmq⟩ := HMQ.out
   go_upto_region 13 with (at_mapUpdate; refine wpList_put _ rfl (.tmp 77) (.tmp 82) (.const (.bool true)) rfl MKIB lb nn _ rfl (hmq.1.keep (hkk.trans (by repeat (with_reducible (first | assumption | exact Keeps.refl _ | refine Keeps.alloc ?_ _ | refine Keeps.drew ?_ | refine Keeps.drewN ?_ _))))) (by unfold maxLen; omega) (A + Z) rfl (wfI_of (by omega) (by omega)) true rfl trivial ?_; intro w4 hM4 hg4)
   rw [isK_put] at hM4
   have ht4 : Turn (fun i => i = 5) c1 W c3 w4 := (HTW.out.keep (hkk.trans (show Keeps wb wb.drew from (Keeps.refl _).drew))).trans (grown_turn hg4 (fun b e => by cases e; exact hmq.2))
   have hs4 := ((HS.out.keep hkk).keep (show Keeps wb wb.drew from (Keeps.refl _).drew)).grown hg4 HNE.out.2.2.1 (fun e => HNE.out.2.2.1 (by have := HNE.out; exact absurd e (by have h1 := HL.out.1.lt; omega))) HNE.out.2.2.2 HNE.out.1 HNE.out.2.1
   have hO4 := HOW.out.turn ht4 (by decide)
   have hX4 := (HXW.out.turn ht4 (by decide) (by decide) (by decide) (by decide)).keep
   have HT4 := Lib.hid ht4
   have HM4 : Hid (∃ nn, nn ≤ nL + 1 + 2 * (k + 1) ∧ MIBC c3 w4 lb nn (ks ++ ST :: (SL.take (k + 1)).flatMap keysP)) := Lib.hid ⟨nn + 1, by omega, by
    rw [HTAKE.out, HKEYS.out]
    refine ⟨?_, hmq.2⟩
    have e : ks ++ ST :: ((SL.take k).flatMap keysP ++ [A + Z]) = ks ++ ST :: (SL.take k).flatMap keysP ++ [A + Z] := by simp
    rw [e]
    exact hM4⟩
   have HS4 := Lib.hid hs4
   have HO4 := Lib.hid hO4
   have HX4 := Lib.hid hX4
   clear hM4 hg4 ht4 hmq hs4 hO4 hX4 hkk hka hkb u0b u1b x1b x2b x7b x8b q0b q1b q2b q3b q4b q5b q6b q7b r0b l6b l7b u0 u1 x1 x2 x7 x8 q0 q1 q2 q3 q4 q5 q6 q7 r0 l6 l7
   obtain ⟨u0, u1, x1, x2, x7, x8, q0, q1, q2, q3, q4, q5, q6, q7, r0, l6, l7⟩ := HS4.out
   by_cases h24 : K = 24
   case neg =>
    have t24 : (K == 24) = false := by simpa using h24
    have hsb : spB m om f (nth SL k) = false := by rw [← HSPB.out]; unfold spB; rw [if_neg hnj, if_neg h24, if_neg h23]
    have HSB := Lib.hid hsb
    clear hsb h24 h23 hnj hst9
    refine wp_region_held_drew (S := MkS w.heap.size (w.heap.size + 1) xb b6 b7 ob lb f ⟨A, Z, ⟨K, D, A2, B, N, Lg⟩⟩ (.slice (some ⟨fb, fof, none⟩) m.Funcs.length fcap) v2) (by kernel_rfl) (HS4.out.keep ((Keeps.refl _).drew)) (fun hHeld => ?_)
    refine takeE 0 hHeld ?_
    refine takeE 1 hHeld ?_
    refine takeE 2 hHeld ?_
    refine takeE 3 hHeld ?_
    refine takeE 4 hHeld ?_
    refine wpAnyH_take (i := 5) (oi := ?oq2x5) (v := undef) ?hq2x5 ?aq2x5 ?bq2x5 ?cq2x5 ?qq2x5 (Or.inr ⟨?wq2x5, rfl⟩) hHeld ?rq2x5
    case hq2x5 => (simp only [List.getElem?_toArray, List.getElem?_cons_zero, List.getElem?_cons_succ]; try rfl)
    case aq2x5 => kernel_rfl
    case bq2x5 => kernel_rfl
    case cq2x5 => kernel_rfl
    case qq2x5 => exact fun _ _ _ h => h
    case wq2x5 => rfl
    try simp only [Act.put, List.setIfInBounds_toArray, List.set_cons_zero, List.set_cons_succ]
    refine wpAnyH_take (i := 6) (oi := ?oq3x6) (v := undef) ?hq3x6 ?aq3x6 ?bq3x6 ?cq3x6 ?qq3x6 (Or.inr ⟨?wq3x6, rfl⟩) hHeld ?rq3x6
    case hq3x6 => (simp only [List.getElem?_toArray, List.getElem?_cons_zero, List.getElem?_cons_succ]; try rfl)
    case aq3x6 => kernel_rfl
    case bq3x6 => kernel_rfl
    case cq3x6 => kernel_rfl
    case qq3x6 => exact fun _ _ _ h => h
    case wq3x6 => rfl
    try simp only [Act.put, List.setIfInBounds_toArray, List.set_cons_zero, List.set_cons_succ]
    refine wpAnyH_take (i := 7) (oi := ?oq4x7) (v := undef) ?hq4x7 ?aq4x7 ?bq4x7 ?cq4x7 ?qq4x7 (Or.inr ⟨?wq4x7, rfl⟩) hHeld ?rq4x7
    case hq4x7 => (simp only [List.getElem?_toArray, List.getElem?_cons_zero, List.getElem?_cons_succ]; try rfl)
    case aq4x7 => kernel_rfl
    case bq4x7 => kernel_rfl
    case cq4x7 => kernel_rfl
    case qq4x7 => exact fun _ _ _ h => h
    case wq4x7 => rfl
    try simp only [Act.put, List.setIfInBounds_toArray, List.set_cons_zero, List.set_cons_succ]
    refine wpAnyH_take (i := 8) (oi := ?oq5x8) (v := undef) ?hq5x8 ?aq5x8 ?bq5x8 ?cq5x8 ?qq5x8 (Or.inr ⟨?wq5x8, rfl⟩) hHeld ?rq5x8
    case hq5x8 => (simp only [List.getElem?_toArray, List.getElem?_cons_zero, List.getElem?_cons_succ]; try rfl)
    case aq5x8 => kernel_rfl
    case bq5x8 => kernel_rfl
    case cq5x8 => kernel_rfl
    case qq5x8 => exact fun _ _ _ h => h
    case wq5x8 => rfl
    try simp only [Act.put, List.setIfInBounds_toArray, List.set_cons_zero, List.set_cons_succ]
    refine wpAnyH_take (i := 9) (oi := ?oq6x9) (v := undef) ?hq6x9 ?aq6x9 ?bq6x9 ?cq6x9 ?qq6x9 (Or.inr ⟨?wq6x9, rfl⟩) hHeld ?rq6x9
    case hq6x9 => (simp only [List.getElem?_toArray, List.getElem?_cons_zero, List.getElem?_cons_succ]; try rfl)
    case aq6x9 => kernel_rfl
    case bq6x9 => kernel_rfl
    case cq6x9 => kernel_rfl
    case qq6x9 => exact fun _ _ _ h => h
    case wq6x9 => rfl
    try simp only [Act.put, List.setIfInBounds_toArray, List.set_cons_zero, List.set_cons_succ]
    refine wpAnyH_take (i := 10) (oi := ?oq7x10) (v := undef) ?hq7x10 ?aq7x10 ?bq7x10 ?cq7x10 ?qq7x10 (Or.inr ⟨?wq7x10, rfl⟩) hHeld ?rq7x10
    case hq7x10 => (simp only [List.getElem?_toArray, List.getElem?_cons_zero, List.getElem?_cons_succ]; try rfl)
    case aq7x10 => kernel_rfl
    case bq7x10 => kernel_rfl
    case cq7x10 => kernel_rfl
    case qq7x10 => exact fun _ _ _ h => h
    case wq7x10 => rfl
    try simp only [Act.put, List.setIfInBounds_toArray, List.set_cons_zero, List.set_cons_succ]
    refine wpAnyH_take (i := 11) (oi := ?oq8x11) (v := undef) ?hq8x11 ?aq8x11 ?bq8x11 ?cq8x11 ?qq8x11 (Or.inr ⟨?wq8x11, rfl⟩) hHeld ?rq8x11
    case hq8x11 => (simp only [List.getElem?_toArray, List.getElem?_cons_zero, List.getElem?_cons_succ]; try rfl)
    case aq8x11 => kernel_rfl
    case bq8x11 => kernel_rfl
    case cq8x11 => kernel_rfl
    case qq8x11 => exact fun _ _ _ h => h
    case wq8x11 => rfl
    try simp only [Act.put, List.setIfInBounds_toArray, List.set_cons_zero, List.set_cons_succ]
    refine wpAnyH_take (i := 12) (oi := ?oq9x12) (v := undef) ?hq9x12 ?aq9x12 ?bq9x12 ?cq9x12 ?qq9x12 (Or.inr ⟨?wq9x12, rfl⟩) hHeld ?rq9x12
    case hq9x12 => (simp only [List.getElem?_toArray, List.getElem?_cons_zero, List.getElem?_cons_succ]; try rfl)
    case aq9x12 => kernel_rfl
    case bq9x12 => kernel_rfl
    case cq9x12 => kernel_rfl
    case qq9x12 => exact fun _ _ _ h => h
    case wq9x12 => rfl
    try simp only [Act.put, List.setIfInBounds_toArray, List.set_cons_zero, List.set_cons_succ]
    refine wpAnyH_take (i := 13) (oi := ?oq10x13) (v := undef) ?hq10x13 ?aq10x13 ?bq10x13 ?cq10x13 ?qq10x13 (Or.inr ⟨?wq10x13, rfl⟩) hHeld ?rq10x13
    case hq10x13 => (simp only [List.getElem?_toArray, List.getElem?_cons_zero, List.getElem?_cons_succ]; try rfl)
    case aq10x13 => kernel_rfl
    case bq10x13 => kernel_rfl
    case cq10x13 => kernel_rfl
    case qq10x13 => exact fun _ _ _ h => h
    case wq10x13 => rfl
    try simp only [Act.put, List.setIfInBounds_toArray, List.set_cons_zero, List.set_cons_succ]
    refine wpAnyH_take (i := 14) (oi := ?oq11x14) (v := undef) ?hq11x14 ?aq11x14 ?bq11x14 ?cq11x14 ?qq11x14 (Or.inr ⟨?wq11x14, rfl⟩) hHeld ?rq11x14
    case hq11x14 => (simp only [List.getElem?_toArray, List.getElem?_cons_zero, List.getElem?_cons_succ]; try rfl)
    case aq11x14 => kernel_rfl
    case bq11x14 => kernel_rfl
    case cq11x14 => kernel_rfl
    case qq11x14 => exact fun _ _ _ h => h
    case wq11x14 => rfl
    try simp only [Act.put, List.setIfInBounds_toArray, List.set_cons_zero, List.set_cons_succ]
    refine takeE 15 hHeld ?_
    refine takeE 16 hHeld ?_
    refine wpAnyH_take (i := 17) (oi := ?oq12x17) (v := undef) ?hq12x17 ?aq12x17 ?bq12x17 ?cq12x17 ?qq12x17 (Or.inr ⟨?wq12x17, rfl⟩) hHeld ?rq12x17
    case hq12x17 => (simp only [List.getElem?_toArray, List.getElem?_cons_zero, List.getElem?_cons_succ]; try rfl)
    case aq12x17 => kernel_rfl
    case bq12x17 => kernel_rfl
    case cq12x17 => kernel_rfl
    case qq12x17 => exact fun _ _ _ h => h
    case wq12x17 => rfl
    try simp only [Act.put, List.setIfInBounds_toArray, List.set_cons_zero, List.set_cons_succ]
    refine wpAnyH_take (i := 18) (oi := ?oq13x18) (v := undef) ?hq13x18 ?aq13x18 ?bq13x18 ?cq13x18 ?qq13x18 (Or.inr ⟨?wq13x18, rfl⟩) hHeld ?rq13x18
    case hq13x18 => (simp only [List.getElem?_toArray, List.getElem?_cons_zero, List.getElem?_cons_succ]; try rfl)
    case aq13x18 => kernel_rfl
    case bq13x18 => kernel_rfl
    case cq13x18 => kernel_rfl
    case qq13x18 => exact fun _ _ _ h => h
    case wq13x18 => rfl
    try simp only [Act.put, List.setIfInBounds_toArray, List.set_cons_zero, List.set_cons_succ]
    refine wpAnyH_take (i := 19) (oi := ?oq14x19) (v := undef) ?hq14x19 ?aq14x19 ?bq14x19 ?cq14x19 ?qq14x19 (Or.inr ⟨?wq14x19, rfl⟩) hHeld ?rq14x19
    case hq14x19 => (simp only [List.getElem?_toArray, List.getElem?_cons_zero, List.getElem?_cons_succ]; try rfl)
    case aq14x19 => kernel_rfl
    case bq14x19 => kernel_rfl
    case cq14x19 => kernel_rfl
    case qq14x19 => exact fun _ _ _ h => h
    case wq14x19 => rfl
    try simp only [Act.put, List.setIfInBounds_toArray, List.set_cons_zero, List.set_cons_succ]
    refine wpAnyH_take (i := 20) (oi := ?oq15x20) (v := undef) ?hq15x20 ?aq15x20 ?bq15x20 ?cq15x20 ?qq15x20 (Or.inr ⟨?wq15x20, rfl⟩) hHeld ?rq15x20
    case hq15x20 => (simp only [List.getElem?_toArray, List.getElem?_cons_zero, List.getElem?_cons_succ]; try rfl)
    case aq15x20 => kernel_rfl
    case bq15x20 => kernel_rfl
    case cq15x20 => kernel_rfl
    case qq15x20 => exact fun _ _ _ h => h
    case wq15x20 => rfl
    try simp only [Act.put, List.setIfInBounds_toArray, List.set_cons_zero, List.set_cons_succ]
    refine wpAnyH_take (i := 21) (oi := ?oq16x21) (v := undef) ?hq16x21 ?aq16x21 ?bq16x21 ?cq16x21 ?qq16x21 (Or.inr ⟨?wq16x21, rfl⟩) hHeld ?rq16x21
    case hq16x21 => (simp only [List.getElem?_toArray, List.getElem?_cons_zero, List.getElem?_cons_succ]; try rfl)
    case aq16x21 => kernel_rfl
    case bq16x21 => kernel_rfl
    case cq16x21 => kernel_rfl
    case qq16x21 => exact fun _ _ _ h => h
    case wq16x21 => rfl
    try simp only [Act.put, List.setIfInBounds_toArray, List.set_cons_zero, List.set_cons_succ]
    refine wpAnyH_take (i := 22) (oi := ?oq17x22) (v := undef) ?hq17x22 ?aq17x22 ?bq17x22 ?cq17x22 ?qq17x22 (Or.inr ⟨?wq17x22, rfl⟩) hHeld ?rq17x22
    case hq17x22 => (simp only [List.getElem?_toArray, List.getElem?_cons_zero, List.getElem?_cons_succ]; try rfl)
    case aq17x22 => kernel_rfl
    case bq17x22 => kernel_rfl
    case cq17x22 => kernel_rfl
    case qq17x22 => exact fun _ _ _ h => h
    case wq17x22 => rfl
    try simp only [Act.put, List.setIfInBounds_toArray, List.set_cons_zero, List.set_cons_succ]
    refine wpAnyH_take (i := 23) (oi := ?oq18x23) (v := undef) ?hq18x23 ?aq18x23 ?bq18x23 ?cq18x23 ?qq18x23 (Or.inr ⟨?wq18x23, rfl⟩) hHeld ?rq18x23
    case hq18x23 => (simp only [List.getElem?_toArray, List.getElem?_cons_zero, List.getElem?_cons_succ]; try rfl)
    case aq18x23 => kernel_rfl
    case bq18x23 => kernel_rfl
    case cq18x23 => kernel_rfl
    case qq18x23 => exact fun _ _ _ h => h
    case wq18x23 => rfl
    try simp only [Act.put, List.setIfInBounds_toArray, List.set_cons_zero, List.set_cons_succ]
    refine wpAnyH_take (i := 24) (oi := ?oq19x24) (v := undef) ?hq19x24 ?aq19x24 ?bq19x24 ?cq19x24 ?qq19x24 (Or.inr ⟨?wq19x24, rfl⟩) hHeld ?rq19x24
    case hq19x24 => (simp only [List.getElem?_toArray, List.getElem?_cons_zero, List.getElem?_cons_succ]; try rfl)
    case aq19x24 => kernel_rfl
    case bq19x24 => kernel_rfl
    case cq19x24 => kernel_rfl
    case qq19x24 => exact fun _ _ _ h => h
    case wq19x24 => rfl
    try simp only [Act.put, List.setIfInBounds_toArray, List.set_cons_zero, List.set_cons_succ]
    refine wpAnyH_take (i := 25) (oi := ?oq20x25) (v := undef) ?hq20x25 ?aq20x25 ?bq20x25 ?cq20x25 ?qq20x25 (Or.inr ⟨?wq20x25, rfl⟩) hHeld ?rq20x25
    case hq20x25 => (simp only [List.getElem?_toArray, List.getElem?_cons_zero, List.getElem?_cons_succ]; try rfl)
    case aq20x25 => kernel_rfl
    case bq20x25 => kernel_rfl
    case cq20x25 => kernel_rfl
    case qq20x25 => exact fun _ _ _ h => h
    case wq20x25 => rfl
    try simp only [Act.put, List.setIfInBounds_toArray, List.set_cons_zero, List.set_cons_succ]
    refine wpAnyH_take (i := 26) (oi := ?oq21x26) (v := undef) ?hq21x26 ?aq21x26 ?bq21x26 ?cq21x26 ?qq21x26 (Or.inr ⟨?wq21x26, rfl⟩) hHeld ?rq21x26
    case hq21x26 => (simp only [List.getElem?_toArray, List.getElem?_cons_zero, List.getElem?_cons_succ]; try rfl)
    case aq21x26 => kernel_rfl
    case bq21x26 => kernel_rfl
    case cq21x26 => kernel_rfl
    case qq21x26 => exact fun _ _ _ h => h
    case wq21x26 => rfl
    try simp only [Act.put, List.setIfInBounds_toArray, List.set_cons_zero, List.set_cons_succ]
    refine wpAnyH_take (i := 27) (oi := ?oq22x27) (v := undef) ?hq22x27 ?aq22x27 ?bq22x27 ?cq22x27 ?qq22x27 (Or.inr ⟨?wq22x27, rfl⟩) hHeld ?rq22x27
    case hq22x27 => (simp only [List.getElem?_toArray, List.getElem?_cons_zero, List.getElem?_cons_succ]; try rfl)
    case aq22x27 => kernel_rfl
    case bq22x27 => kernel_rfl
    case cq22x27 => kernel_rfl
    case qq22x27 => exact fun _ _ _ h => h
    case wq22x27 => rfl
    try simp only [Act.put, List.setIfInBounds_toArray, List.set_cons_zero, List.set_cons_succ]
    refine wpAnyH_take (i := 28) (oi := ?oq23x28) (v := undef) ?hq23x28 ?aq23x28 ?bq23x28 ?cq23x28 ?qq23x28 (Or.inr ⟨?wq23x28, rfl⟩) hHeld ?rq23x28
    case hq23x28 => (simp only [List.getElem?_toArray, List.getElem?_cons_zero, List.getElem?_cons_succ]; try rfl)
    case aq23x28 => kernel_rfl
    case bq23x28 => kernel_rfl
    case cq23x28 => kernel_rfl
    case qq23x28 => exact fun _ _ _ h => h
    case wq23x28 => rfl
    try simp only [Act.put, List.setIfInBounds_toArray, List.set_cons_zero, List.set_cons_succ]
    refine takeE 29 hHeld ?_
    refine wpAnyH_done (by kernel_rfl) ?_ _
    clear hHeld
    go_wp2_with fail
    go_roundw
    case rel => exact ⟨k + 1, c3, by omega, by go_num, Lib.hid (HT4.out.keep (by repeat (with_reducible (first | assumption | exact Keeps.refl _ | refine Keeps.alloc ?_ _ | refine Keeps.drew ?_ | refine Keeps.drewN ?_ _)))), Lib.hid (by obtain ⟨nn, h1, h2⟩ := HM4.out; exact ⟨nn, h1, h2.keep (by repeat (with_reducible (first | assumption | exact Keeps.refl _ | refine Keeps.alloc ?_ _ | refine Keeps.drew ?_ | refine Keeps.drewN ?_ _)))⟩), Lib.hid (fun i hi => by
      by_cases q : i = k
      ·subst q; exact HSB.out
      ·exact HNB.out i (by omega))⟩
    case measure => simp [intOf]; omega
   case pos =>
   have t24 : (K == 24) = true := by simpa using h24
   obtain ⟨tv, ⟨tao, tcap, htt0, tt1, tt2, tt3, tt4⟩, tti⟩ := HI2.out
   subst htt0
   have hN0 := HKN.out h24
   obtain ⟨TN, rfl⟩ : ∃ n : Nat, N = n := ⟨N.toNat, by omega⟩
   obtain ⟨TL, hTL⟩ : ∃ n, n = m.Tables.length := ⟨_, rfl⟩
   rw [← hTL] at x2 tt4 HS4
   have hspb2 : spB m om f (nth SL k) = (decide ((TN : Int) < (TL : Int)) && anyN (fun k => !decide (om (nth (nth m.Tables TN) k) = some (f : Int))) (nth m.Tables TN).length) := by
    rw [← HSPB.out, hTL]; unfold spB; rw [if_neg hnj, if_pos h24]; rfl
   by_cases hTN : TN < TL
   case neg =>
    have tN : decide ((TN : Int) < (TL : Int)) = false := decide_eq_false (by omega)
    have HSB := Lib.hid (show spB m om f (nth SL k) = false by rw [hspb2, tN]; rfl)
    clear h24 h23 hnj hst9 hspb2 hTL tt1 tt2 tt3 tt4 tti
    refine wp_region_held_drew (S := MkS w.heap.size (w.heap.size + 1) xb b6 b7 ob lb f ⟨A, Z, ⟨K, D, A2, B, (TN : Int), Lg⟩⟩ (.slice (some ⟨fb, fof, none⟩) m.Funcs.length fcap) (.slice tao TL tcap)) (by kernel_rfl) (HS4.out.keep ((Keeps.refl _).drew)) (fun hHeld => ?_)
    refine takeE 0 hHeld ?_
    refine takeE 1 hHeld ?_
    refine takeE 2 hHeld ?_
    refine takeE 3 hHeld ?_
    refine takeE 4 hHeld ?_
    refine takeE 5 hHeld ?_
    refine takeE 6 hHeld ?_
    refine takeE 7 hHeld ?_
    refine takeE 8 hHeld ?_
    refine takeE 9 hHeld ?_
    refine takeE 10 hHeld ?_
    refine takeE 11 hHeld ?_
    refine takeE 12 hHeld ?_
    refine takeE 13 hHeld ?_
    refine takeE 14 hHeld ?_
    refine takeE 15 hHeld ?_
    refine takeE 16 hHeld ?_
    refine wpAnyH_take (i := 17) (oi := ?oq24x17) (v := undef) ?hq24x17 ?aq24x17 ?bq24x17 ?cq24x17 ?qq24x17 (Or.inr ⟨?wq24x17, rfl⟩) hHeld ?rq24x17
    case hq24x17 => (simp only [List.getElem?_toArray, List.getElem?_cons_zero, List.getElem?_cons_succ]; try rfl)
    case aq24x17 => kernel_rfl
    case bq24x17 => kernel_rfl
    case cq24x17 => kernel_rfl
    case qq24x17 => exact fun _ _ _ h => h
    case wq24x17 => rfl
    try simp only [Act.put, List.setIfInBounds_toArray, List.set_cons_zero, List.set_cons_succ]
    refine wpAnyH_take (i := 18) (oi := ?oq25x18) (v := undef) ?hq25x18 ?aq25x18 ?bq25x18 ?cq25x18 ?qq25x18 (Or.inr ⟨?wq25x18, rfl⟩) hHeld ?rq25x18
    case hq25x18 => (simp only [List.getElem?_toArray, List.getElem?_cons_zero, List.getElem?_cons_succ]; try rfl)
    case aq25x18 => kernel_rfl
    case bq25x18 => kernel_rfl
    case cq25x18 => kernel_rfl
    case qq25x18 => exact fun _ _ _ h => h
    case wq25x18 => rfl
    try simp only [Act.put, List.setIfInBounds_toArray, List.set_cons_zero, List.set_cons_succ]
    refine wpAnyH_take (i := 19) (oi := ?oq26x19) (v := undef) ?hq26x19 ?aq26x19 ?bq26x19 ?cq26x19 ?qq26x19 (Or.inr ⟨?wq26x19, rfl⟩) hHeld ?rq26x19
    case hq26x19 => (simp only [List.getElem?_toArray, List.getElem?_cons_zero, List.getElem?_cons_succ]; try rfl)
    case aq26x19 => kernel_rfl
    case bq26x19 => kernel_rfl
    case cq26x19 => kernel_rfl
    case qq26x19 => exact fun _ _ _ h => h
    case wq26x19 => rfl
    try simp only [Act.put, List.setIfInBounds_toArray, List.set_cons_zero, List.set_cons_succ]
    refine wpAnyH_take (i := 20) (oi := ?oq27x20) (v := undef) ?hq27x20 ?aq27x20 ?bq27x20 ?cq27x20 ?qq27x20 (Or.inr ⟨?wq27x20, rfl⟩) hHeld ?rq27x20
    case hq27x20 => (simp only [List.getElem?_toArray, List.getElem?_cons_zero, List.getElem?_cons_succ]; try rfl)
    case aq27x20 => kernel_rfl
    case bq27x20 => kernel_rfl
    case cq27x20 => kernel_rfl
    case qq27x20 => exact fun _ _ _ h => h
    case wq27x20 => rfl
    try simp only [Act.put, List.setIfInBounds_toArray, List.set_cons_zero, List.set_cons_succ]
    refine wpAnyH_take (i := 21) (oi := ?oq28x21) (v := undef) ?hq28x21 ?aq28x21 ?bq28x21 ?cq28x21 ?qq28x21 (Or.inr ⟨?wq28x21, rfl⟩) hHeld ?rq28x21
    case hq28x21 => (simp only [List.getElem?_toArray, List.getElem?_cons_zero, List.getElem?_cons_succ]; try rfl)
    case aq28x21 => kernel_rfl
    case bq28x21 => kernel_rfl
    case cq28x21 => kernel_rfl
    case qq28x21 => exact fun _ _ _ h => h
    case wq28x21 => rfl
    try simp only [Act.put, List.setIfInBounds_toArray, List.set_cons_zero, List.set_cons_succ]
    refine wpAnyH_take (i := 22) (oi := ?oq29x22) (v := undef) ?hq29x22 ?aq29x22 ?bq29x22 ?cq29x22 ?qq29x22 (Or.inr ⟨?wq29x22, rfl⟩) hHeld ?rq29x22
    case hq29x22 => (simp only [List.getElem?_toArray, List.getElem?_cons_zero, List.getElem?_cons_succ]; try rfl)
    case aq29x22 => kernel_rfl
    case bq29x22 => kernel_rfl
    case cq29x22 => kernel_rfl
    case qq29x22 => exact fun _ _ _ h => h
    case wq29x22 => rfl
    try simp only [Act.put, List.setIfInBounds_toArray, List.set_cons_zero, List.set_cons_succ]
    refine wpAnyH_take (i := 23) (oi := ?oq30x23) (v := undef) ?hq30x23 ?aq30x23 ?bq30x23 ?cq30x23 ?qq30x23 (Or.inr ⟨?wq30x23, rfl⟩) hHeld ?rq30x23
    case hq30x23 => (simp only [List.getElem?_toArray, List.getElem?_cons_zero, List.getElem?_cons_succ]; try rfl)
    case aq30x23 => kernel_rfl
    case bq30x23 => kernel_rfl
    case cq30x23 => kernel_rfl
    case qq30x23 => exact fun _ _ _ h => h
    case wq30x23 => rfl
    try simp only [Act.put, List.setIfInBounds_toArray, List.set_cons_zero, List.set_cons_succ]
    refine wpAnyH_take (i := 24) (oi := ?oq31x24) (v := undef) ?hq31x24 ?aq31x24 ?bq31x24 ?cq31x24 ?qq31x24 (Or.inr ⟨?wq31x24, rfl⟩) hHeld ?rq31x24
    case hq31x24 => (simp only [List.getElem?_toArray, List.getElem?_cons_zero, List.getElem?_cons_succ]; try rfl)
    case aq31x24 => kernel_rfl
    case bq31x24 => kernel_rfl
    case cq31x24 => kernel_rfl
    case qq31x24 => exact fun _ _ _ h => h
    case wq31x24 => rfl
    try simp only [Act.put, List.setIfInBounds_toArray, List.set_cons_zero, List.set_cons_succ]
    refine wpAnyH_take (i := 25) (oi := ?oq32x25) (v := undef) ?hq32x25 ?aq32x25 ?bq32x25 ?cq32x25 ?qq32x25 (Or.inr ⟨?wq32x25, rfl⟩) hHeld ?rq32x25
    case hq32x25 => (simp only [List.getElem?_toArray, List.getElem?_cons_zero, List.getElem?_cons_succ]; try rfl)
    case aq32x25 => kernel_rfl
    case bq32x25 => kernel_rfl
    case cq32x25 => kernel_rfl
    case qq32x25 => exact fun _ _ _ h => h
    case wq32x25 => rfl
    try simp only [Act.put, List.setIfInBounds_toArray, List.set_cons_zero, List.set_cons_succ]
    refine wpAnyH_take (i := 26) (oi := ?oq33x26) (v := undef) ?hq33x26 ?aq33x26 ?bq33x26 ?cq33x26 ?qq33x26 (Or.inr ⟨?wq33x26, rfl⟩) hHeld ?rq33x26
    case hq33x26 => (simp only [List.getElem?_toArray, List.getElem?_cons_zero, List.getElem?_cons_succ]; try rfl)
    case aq33x26 => kernel_rfl
    case bq33x26 => kernel_rfl
    case cq33x26 => kernel_rfl
    case qq33x26 => exact fun _ _ _ h => h
    case wq33x26 => rfl
    try simp only [Act.put, List.setIfInBounds_toArray, List.set_cons_zero, List.set_cons_succ]
    refine wpAnyH_take (i := 27) (oi := ?oq34x27) (v := undef) ?hq34x27 ?aq34x27 ?bq34x27 ?cq34x27 ?qq34x27 (Or.inr ⟨?wq34x27, rfl⟩) hHeld ?rq34x27
    case hq34x27 => (simp only [List.getElem?_toArray, List.getElem?_cons_zero, List.getElem?_cons_succ]; try rfl)
    case aq34x27 => kernel_rfl
    case bq34x27 => kernel_rfl
    case cq34x27 => kernel_rfl
    case qq34x27 => exact fun _ _ _ h => h
    case wq34x27 => rfl
    try simp only [Act.put, List.setIfInBounds_toArray, List.set_cons_zero, List.set_cons_succ]
    refine wpAnyH_take (i := 28) (oi := ?oq35x28) (v := undef) ?hq35x28 ?aq35x28 ?bq35x28 ?cq35x28 ?qq35x28 (Or.inr ⟨?wq35x28, rfl⟩) hHeld ?rq35x28
    case hq35x28 => (simp only [List.getElem?_toArray, List.getElem?_cons_zero, List.getElem?_cons_succ]; try rfl)
    case aq35x28 => kernel_rfl
    case bq35x28 => kernel_rfl
    case cq35x28 => kernel_rfl
    case qq35x28 => exact fun _ _ _ h => h
    case wq35x28 => rfl
    try simp only [Act.put, List.setIfInBounds_toArray, List.set_cons_zero, List.set_cons_succ]
    refine takeE 29 hHeld ?_
    refine wpAnyH_done (by kernel_rfl) ?_ _
    clear hHeld
    go_wp2_with fail
    go_roundw
    case rel => exact ⟨k + 1, c3, by omega, by go_num, Lib.hid (HT4.out.keep (by repeat (with_reducible (first | assumption | exact Keeps.refl _ | refine Keeps.alloc ?_ _ | refine Keeps.drew ?_ | refine Keeps.drewN ?_ _)))), Lib.hid (by obtain ⟨nn, h1, h2⟩ := HM4.out; exact ⟨nn, h1, h2.keep (by repeat (with_reducible (first | assumption | exact Keeps.refl _ | refine Keeps.alloc ?_ _ | refine Keeps.drew ?_ | refine Keeps.drewN ?_ _)))⟩), Lib.hid (fun i hi => by
      by_cases q : i = k
      ·subst q; exact HSB.out
      ·exact HNB.out i (by omega))⟩
    case measure => simp [intOf]; omega
   case pos =>
   have tN : decide ((TN : Int) < (TL : Int)) = true := decide_eq_true (by omega)
   have hTNz : (TN : Int) < (TL : Int) := by omega
   obtain ⟨tb, tof, rfl, tc⟩ := tt4 (by omega)
   have htrow := tti TN (by rw [← hTL]; exact hTN)
   obtain ⟨ra, rcap, hrv⟩ := Arr.form htrow
   have y1 : w4.cell? ⟨tb, tof + TN, none⟩ = some (.slice ra (nth m.Tables TN).length rcap) := by
    have z := HX4.out.cell (tc TN 0 hTN (by omega))
    simp only [Nat.mul_one, Nat.add_zero] at z
    rw [z, hrv]
   obtain ⟨RN, hRN⟩ : ∃ n, n = (nth m.Tables TN).length := ⟨_, rfl⟩
   obtain ⟨XB, hXB⟩ : ∃ b, b = anyN (fun k => !decide (om (nth (nth m.Tables TN) k) = some (f : Int))) RN := ⟨_, rfl⟩
   have hcf : ∀ W', Keeps w4 W' → Calls Tryd.prog 38 #[.slice ra RN rcap, .func (.func 46) #[] #[.pointer (some ⟨w.heap.size, 0, none⟩), .pointer (some ⟨w.heap.size + 1, 0, none⟩)]] W' fun e w' => e = .returned (.bool XB) ∧ Keeps W' w' := fun W' hk' => by
    rw [hXB]
    have hr := htrow.keep (HX4.out.trans hk')
    rw [hrv, ← hRN] at hr
    refine containsFunc_int _ RN (fun i _ => .int .i64 (nth (nth m.Tables TN) i)) _ 46 _ W' hr (enters_of Tryd.func46 (by kernel_rfl) rfl) ?_
    intro W2 i hi hk2
    have hk3 := hk'.trans hk2
    have s2 := HS4.out.keep hk3
    have hin := (HTT.out TN (by rw [← hTL]; exact hTN)).2 (nth (nth m.Tables TN) i) (by rw [nth_eq (nth m.Tables TN) i (by rw [← hRN]; exact hi)]; exact List.getElem_mem _)
    exact (mark1_any (n := nO) (om := om) s2.1 s2.2.1 s2.2.2.2.2.1 (HO4.out.1.keep hk3) (wfI_of (by omega) (by omega))).mono fun e w' ⟨h1, h2⟩ => ⟨h1, h2 ▸ Keeps.refl _⟩
   rw [← hRN] at y1 hspb2
   rw [tN, ← hXB, Bool.true_and] at hspb2
   have HCF := Lib.hid hcf
   have HSB0 := Lib.hid hspb2
   clear hcf hspb2 hXB hrv htrow hRN tt1 tt2 tt3 tc tti h24 h23 hnj hst9 hTL
   refine wp_region_held_drew (S := fun w' => Keeps w4 w' ∧ MkS w.heap.size (w.heap.size + 1) xb b6 b7 ob lb f ⟨A, Z, ⟨K, D, A2, B, (TN : Int), Lg⟩⟩ (.slice (some ⟨fb, fof, none⟩) m.Funcs.length fcap) (.slice (some ⟨tb, tof, none⟩) TL tcap) w' ∧ w'.cell? ⟨tb, tof + TN, none⟩ = some (.slice ra RN rcap)) (by kernel_rfl) ⟨(Keeps.refl _).drew, HS4.out.keep ((Keeps.refl _).drew), y1⟩ (fun hHeld => ?_)
   refine takeE 0 hHeld ?_
   refine takeE 1 hHeld ?_
   refine takeE 2 hHeld ?_
   refine takeE 3 hHeld ?_
   refine takeE 4 hHeld ?_
   refine takeE 5 hHeld ?_
   refine takeE 6 hHeld ?_
   refine takeE 7 hHeld ?_
   refine takeE 8 hHeld ?_
   refine takeE 9 hHeld ?_
   refine takeE 10 hHeld ?_
   refine takeE 11 hHeld ?_
   refine takeE 12 hHeld ?_
   refine takeE 13 hHeld ?_
   refine takeE 14 hHeld ?_
   refine takeE 15 hHeld ?_
   refine takeE 16 hHeld ?_
   refine takeE 17 hHeld ?_
   refine takeE 18 hHeld ?_
   refine takeE 19 hHeld ?_
   refine takeE 20 hHeld ?_
   refine takeE 21 hHeld ?_
   refine takeE 22 hHeld ?_
   refine takeE 23 hHeld ?_
   refine takeE 24 hHeld ?_
   refine takeE 25 hHeld ?_
   refine takeE 26 hHeld ?_
   refine takeE 27 hHeld ?_
   refine wpAnyH_ready (rs := [28]) (by kernel_rfl) (by simp) ?_
   refine AllReadyH.cons (o := ?ocall) ?hcall ?scall ?mcall
   case hcall => (simp only [List.getElem?_toArray, List.getElem?_cons_zero, List.getElem?_cons_succ]; try rfl)
   case mcall => exact AllReadyH.nil
   case scall =>
   intro K' hK
   go_simp
   go_at_call 38
   refine (HCF.out _ hHeld.1).mono ?_
   rintro e wz ⟨rfl, hkz⟩
   have hh9 := (show Keeps w4 wz from hHeld.1.trans hkz)
   have hh8 := Lib.hid hh9
   have hh7 := Lib.hid hHeld.2.1
   have hh6 := hHeld.2.2
   refine hK.out _ _ ⟨hh9, hh7.out.keep hkz, hkz.cell hh6⟩ (fun hHeld2 => ?_)
   clear hK K' hHeld
   have hHeld := hHeld2
   clear hHeld2
   try simp only [Act.put, List.setIfInBounds_toArray, List.set_cons_zero, List.set_cons_succ]
   refine takeE 29 hHeld ?_
   refine wpAnyH_done (by kernel_rfl) ?_ _
   clear hHeld
   cases XB with
   | true =>
    go_wp2_with fail
    go_ret
    exact MarkAns.bad (anyN_yes hlt HSB0.out) (((HT1.out _).trans HT4.out).keep hh9)
   | false =>
    have HSB := HSB0
    go_wp2_with fail
    go_roundw
    case rel => exact ⟨k + 1, c3, by omega, by go_num, Lib.hid (HT4.out.keep hh9), Lib.hid (by obtain ⟨nn, h1, h2⟩ := HM4.out; exact ⟨nn, h1, h2.keep hh9⟩), Lib.hid (fun i hi => by
      by_cases q : i = k
      ·subst q; exact HSB.out
      ·exact HNB.out i (by omega))⟩
    case measure => simp [intOf]; omega
  case neg =>
  have hst0 : stN K = false := by simpa using hst9
  rw [hst0] at HSTP
  have hkeys : keysP ⟨A, Z, ⟨K, D, A2, B, N, Lg⟩⟩ = [] := by unfold keysP; rw [if_neg hnj, if_neg hst9]
  have h24 : K ≠ 24 := fun e => hst9 (by rw [e]; decide)
  have HM9 : Hid (∃ nn, nn ≤ nL + 1 + 2 * (k + 1) ∧ MIBC c3 wq lb nn (ks ++ ST :: (SL.take (k + 1)).flatMap keysP)) := Lib.hid (by
   obtain ⟨nn, h1, h2⟩ := HMQ.out
   exact ⟨nn, by omega, by rw [HTAKE.out, hkeys, List.append_nil]; exact h2⟩)
  clear hkeys
  by_cases h23 : K = 23
  case pos =>
   have t23 : (K == 23) = true := by simpa using h23
   obtain ⟨XB, hXB⟩ : ∃ b, b = anyN (fnP m (A + N)) m.Funcs.length := ⟨_, rfl⟩
   have hsb : spB m om f (nth SL k) = !XB := by rw [← HSPB.out, hXB]; unfold spB; rw [if_neg hnj, if_neg h24, if_pos h23]
   have hcf : ∀ W', Keeps wq W' → Calls Tryd.prog 47 #[.slice (some ⟨fb, fof, none⟩) m.Funcs.length fcap, .func (.func 48) #[] #[.pointer (some ⟨b7, 0, none⟩)]] W' fun e w' => e = .returned (.bool XB) ∧ Keeps W' w' := fun W' hk' => by
    rw [hXB]
    refine containsFunc_fun _ m.Funcs.length (fun i j => (nth m.Funcs i).c j) _ 48 _ W' (Arr.keep HI1.out (HXQ.out.keep.trans hk')) (enters_of Tryd.func48 (by kernel_rfl) rfl) ?_
    intro W2 i hi hk2
    have s2 := HS.out.keep (hk'.trans hk2)
    exact mark2_any s2.2.2.2.2.2.2.2.2.2.2.2.2.2.2.1
   have HCF := Lib.hid hcf
   have HSB0 := Lib.hid hsb
   clear hcf hsb hXB h23 h24 hst9 hst0 hnj
   cases XB with
   | true =>
    have HSB := HSB0
    go_wp2_with (first | (go_at_call 44; refine (HBR.out _).mono ?_; rintro e wa ⟨rfl, hka⟩; obtain ⟨u0a, u1a, x1a, x2a, x7a, x8a, q0a, q1a, q2a, q3a, q4a, q5a, q6a, q7a, r0a, l6a, l7a⟩ := HS.out.keep hka) | (go_at_call 43; refine (HSTP.out _).mono ?_; rintro e wb ⟨rfl, hkb⟩; obtain ⟨u0b, u1b, x1b, x2b, x7b, x8b, q0b, q1b, q2b, q3b, q4b, q5b, q6b, q7b, r0b, l6b, l7b⟩ := HS.out.keep (hka.trans hkb)) | (go_at_call 47; refine (HCF.out _ (hka.trans hkb)).mono ?_; rintro e wz ⟨rfl, hkz⟩))
    have hh9 : Keeps wq wz := (hka.trans hkb).trans hkz
    go_roundw
    case rel => exact ⟨k + 1, c3, by omega, by go_num, Lib.hid (HTW.out.keep hh9), Lib.hid (by obtain ⟨nn, h1, h2⟩ := HM9.out; exact ⟨nn, h1, h2.keep hh9⟩), Lib.hid (fun i hi => by
      by_cases q : i = k
      ·subst q; exact HSB.out
      ·exact HNB.out i (by omega))⟩
    case measure => simp [intOf]; omega
   | false =>
    go_wp2_with (first | (go_at_call 44; refine (HBR.out _).mono ?_; rintro e wa ⟨rfl, hka⟩; obtain ⟨u0a, u1a, x1a, x2a, x7a, x8a, q0a, q1a, q2a, q3a, q4a, q5a, q6a, q7a, r0a, l6a, l7a⟩ := HS.out.keep hka) | (go_at_call 43; refine (HSTP.out _).mono ?_; rintro e wb ⟨rfl, hkb⟩; obtain ⟨u0b, u1b, x1b, x2b, x7b, x8b, q0b, q1b, q2b, q3b, q4b, q5b, q6b, q7b, r0b, l6b, l7b⟩ := HS.out.keep (hka.trans hkb)) | (go_at_call 47; refine (HCF.out _ (hka.trans hkb)).mono ?_; rintro e wz ⟨rfl, hkz⟩))
    go_ret
    exact MarkAns.bad (anyN_yes hlt HSB0.out) (((HT1.out _).trans HTW.out).keep ((hka.trans hkb).trans hkz))
  case neg =>
   have t23 : (K == 23) = false := by simpa using h23
   have HSB := Lib.hid (show spB m om f (nth SL k) = false by rw [← HSPB.out]; unfold spB; rw [if_neg hnj, if_neg h24, if_neg h23])
   clear h23 h24 hst9 hst0 hnj
   go_wp2_with (first | (go_at_call 44; refine (HBR.out _).mono ?_; rintro e wa ⟨rfl, hka⟩; obtain ⟨u0a, u1a, x1a, x2a, x7a, x8a, q0a, q1a, q2a, q3a, q4a, q5a, q6a, q7a, r0a, l6a, l7a⟩ := HS.out.keep hka) | (go_at_call 43; refine (HSTP.out _).mono ?_; rintro e wb ⟨rfl, hkb⟩; obtain ⟨u0b, u1b, x1b, x2b, x7b, x8b, q0b, q1b, q2b, q3b, q4b, q5b, q6b, q7b, r0b, l6b, l7b⟩ := HS.out.keep (hka.trans hkb)))
   have hh9 : Keeps wq wb := hka.trans hkb
   go_roundw
   case rel => exact ⟨k + 1, c3, by omega, by go_num, Lib.hid (HTW.out.keep hh9), Lib.hid (by obtain ⟨nn, h1, h2⟩ := HM9.out; exact ⟨nn, h1, h2.keep hh9⟩), Lib.hid (fun i hi => by
     by_cases q : i = k
     ·subst q; exact HSB.out
     ·exact HNB.out i (by omega))⟩
   case measure => simp [intOf]; omega
end Go.Proofs.YtnekiooaobnndaaDoor
