/-
The finder of flow.Recover in memory, and (*finder).mark: wh
-/
import Derived.Test.YtgdamggkaklhjaaDoorFlRec2
set_option linter.all false
namespace Go.Proofs.YtgdamggkaklhjaaDoor
open Go.RowKit BH
set_option maxHeartbeats 1000000000
set_option maxRecDepth 100000
def SpAt (w : World) (v : Value) (l : List Sp) : Prop := Arr w v l.length 8 (fun i j => (csp (nth l i)).getD j undef)
theorem SpAt.keep {w w' : World} {v : Value} {l : List Sp} (h : SpAt w v l) (hk : Keeps w w') : SpAt w' v l := Arr.keep h hk
structure SpOk (s : Sp) : Prop where
 a0 : 0 ≤ s.A
 a1 : s.A ≤ 2000
 z0 : 1 ≤ s.Z
 z1 : s.Z ≤ 5
 n0 : -32768 ≤ s.I.N
 n1 : s.I.N ≤ 32767
 k0 : 1 ≤ s.I.K
 k1 : s.I.K ≤ 24
 nt : s.I.K = 24 → 0 ≤ s.I.N
structure Fin (m : Img) (w0 : World) (v0 v1 v2 v3 v4 va : Value) (vs : List Sle) (L : List (List Sp)) (xb ob lb kb : Nat) (vB vT vF : Value) (c : Nat → Nat) (w : World) : Prop where
 keep : Keeps w0 w
 zero : ∀ b, b < w0.heap.size → c b = 0
 img : ImgAt w0 (.agg #[v0, v1, v2, v3, v4, .int .i64 m.Entry]) m
 blk : BlkC 1 c w xb (.cells #[v0, v1, v2, v3, v4, .int .i64 m.Entry, va, .map (some ob), .map (some lb), .map (some kb), vB, vT, vF] 80)
 all : OwnC 2 c w w0.heap.size 81 1 sle va vs
 len : vs.length = L.length
 sps : Part 3 (fun w => ∀ i, i < L.length → SpAt w (nth vs i).v (nth L i)) c w
section
variable {m : Img} {w0 : World} {v0 v1 v2 v3 v4 va : Value} {vs : List Sle} {L : List (List Sp)} {xb ob lb kb : Nat} {vB vT vF : Value} {c c' : Nat → Nat} {w w' : World} {I : Nat → Prop}
theorem Fin.turn (h : Fin m w0 v0 v1 v2 v3 v4 va vs L xb ob lb kb vB vT vF c w) (t : Turn I c w c' w') (h0 : ¬ I 0) (h1 : ¬ I 1) (h2 : ¬ I 2) (h3 : ¬ I 3) : Fin m w0 v0 v1 v2 v3 v4 va vs L xb ob lb kb vB vT vF c' w' :=
 ⟨h.keep.trans' (t.below h.keep.size h.zero h0) (Nat.le_refl _), t.zero h.keep.size h.zero, h.img, h.blk.turn t h1, h.all.turn t h2, h.len, h.sps.turn t h3⟩
theorem Fin.keeps (h : Fin m w0 v0 v1 v2 v3 v4 va vs L xb ob lb kb vB vT vF c w) (k : Keeps w w') : Fin m w0 v0 v1 v2 v3 v4 va vs L xb ob lb kb vB vT vF c w' :=
 h.turn (k.turn (fun _ => False) c) (fun q => q) (fun q => q) (fun q => q) (fun q => q)
end
def isK (ks : List Int) : Int → Option Bool := fun x => if x ∈ ks then some true else none
theorem isK_put (ks : List Int) (y : Int) : (fun z => if z = y then some true else isK ks z) = isK (ks ++ [y]) := by
 funext z
 unfold isK
 by_cases h : z = y
 ·rw [if_pos h, if_pos (by rw [h]; simp)]
 rw [if_neg h]
 by_cases q : z ∈ ks
 ·rw [if_pos q, if_pos (by simp [q])]
 rw [if_neg q, if_neg (by simp [q, h])]
abbrev MIBC (c : Nat → Nat) (w : World) (b n : Nat) (ks : List Int) : Prop := MapC 5 c Tryd.prog 3 4 (fun x : Int => .int .i64 x) wfI litB w b n (isK ks)
def MarkAns (bad : Bool) (c : Nat → Nat) (w : World) (lb n : Nat) (ks : List Int) (e : Ending) (w' : World) : Prop :=
 ∃ c', Turn (fun i => i = 5) c w c' w' ∧ (bad = true → e = .returned (.int .i64 9)) ∧ (bad = false → e = .returned (.int .i64 0) ∧ MIBC c' w' lb n ks)
theorem MarkAns.bad {b : Bool} {c c' : Nat → Nat} {w w' : World} {lb n : Nat} {ks : List Int} (hb : b = true) (ht : Turn (fun i => i = 5) c w c' w') : MarkAns b c w lb n ks (.returned (.int .i64 9)) w' := ⟨c', ht, fun _ => rfl, fun q => (by rw [hb] at q; cases q)⟩
theorem MarkAns.fine {b : Bool} {c c' : Nat → Nat} {w w' : World} {lb n : Nat} {ks : List Int} (hb : b = false) (ht : Turn (fun i => i = 5) c w c' w') (hm : MIBC c' w' lb n ks) : MarkAns b c w lb n ks (.returned (.int .i64 0)) w' := ⟨c', ht, fun q => (by rw [hb] at q; cases q), fun _ => ⟨rfl, hm⟩⟩
def MkS (bX bF xb b6 b7 ob lb f : Nat) (s : Sp) (v1 v2 : Value) (w : World) : Prop :=
 w.cell? ⟨bX, 0, none⟩ = some (.pointer (some ⟨xb, 0, none⟩)) ∧ w.cell? ⟨bF, 0, none⟩ = some (.int .i64 f) ∧ w.cell? ⟨xb, 1, none⟩ = some v1 ∧ w.cell? ⟨xb, 2, none⟩ = some v2 ∧ w.cell? ⟨xb, 7, none⟩ = some (.map (some ob)) ∧ w.cell? ⟨xb, 8, none⟩ = some (.map (some lb)) ∧
  w.cell? ⟨b6, 0, none⟩ = some (.int .i64 s.A) ∧ w.cell? ⟨b6, 1, none⟩ = some (.int .i64 s.Z) ∧ w.cell? ⟨b6, 2, none⟩ = some (.int .i64 s.I.K) ∧ w.cell? ⟨b6, 3, none⟩ = some (.int .i64 s.I.D) ∧ w.cell? ⟨b6, 4, none⟩ = some (.int .i64 s.I.A) ∧ w.cell? ⟨b6, 5, none⟩ = some (.int .i64 s.I.B) ∧ w.cell? ⟨b6, 6, none⟩ = some (.int .i64 s.I.N) ∧ w.cell? ⟨b6, 7, none⟩ = some (.bool s.I.Lg) ∧
  w.cell? ⟨b7, 0, none⟩ = some (.int .i64 (s.A + s.I.N)) ∧ b6 < w.heap.size ∧ b7 < w.heap.size
theorem MkS.keep {bX bF xb b6 b7 ob lb f : Nat} {s : Sp} {v1 v2 : Value} {w w' : World} (h : MkS bX bF xb b6 b7 ob lb f s v1 v2 w) (k : Keeps w w') : MkS bX bF xb b6 b7 ob lb f s v1 v2 w' := by
 obtain ⟨h1, h2, h3, h4, h5, h6, h7, h8, h9, H0, H1, H2, H3, H4, H5, h16, h17⟩ := h
 have := k.size
 exact ⟨k.cell h1, k.cell h2, k.cell h3, k.cell h4, k.cell h5, k.cell h6, k.cell h7, k.cell h8, k.cell h9, k.cell H0, k.cell H1, k.cell H2, k.cell H3, k.cell H4, k.cell H5, by omega, by omega⟩
theorem MkS.grown {bX bF xb b6 b7 ob lb f : Nat} {s : Sp} {v1 v2 : Value} {w w' : World} (h : MkS bX bF xb b6 b7 ob lb f s v1 v2 w) (hg : w.grownBy w' (some lb)) (n1 : bX ≠ lb) (n2 : bF ≠ lb) (n3 : xb ≠ lb) (n4 : b6 ≠ lb) (n5 : b7 ≠ lb) : MkS bX bF xb b6 b7 ob lb f s v1 v2 w' := by
 obtain ⟨h1, h2, h3, h4, h5, h6, h7, h8, h9, H0, H1, H2, H3, H4, H5, h16, h17⟩ := h
 have := hg.size
 have g : ∀ {b o v}, b ≠ lb → w.cell? ⟨b, o, none⟩ = some v → w'.cell? ⟨b, o, none⟩ = some v := fun hne hc => hg.cell hc (fun e => hne (Option.some.inj e))
 exact ⟨g n1 h1, g n2 h2, g n3 h3, g n3 h4, g n3 h5, g n3 h6, g n4 h7, g n4 h8, g n4 h9, g n4 H0, g n4 H1, g n4 H2, g n4 H3, g n4 H4, g n5 H5, by omega, by omega⟩
def EntS (bX xb b6 b7 lb : Nat) (A Z T : Int) (w : World) : Prop :=
 w.cell? ⟨bX, 0, none⟩ = some (.pointer (some ⟨xb, 0, none⟩)) ∧ w.cell? ⟨xb, 8, none⟩ = some (.map (some lb)) ∧ w.cell? ⟨b7, 0, none⟩ = some (.int .i64 T) ∧ w.cell? ⟨b6, 0, none⟩ = some (.int .i64 A) ∧ w.cell? ⟨b6, 1, none⟩ = some (.int .i64 Z)
theorem EntS.grown {bX xb b6 b7 lb : Nat} {A Z T : Int} {w w' : World} (h : EntS bX xb b6 b7 lb A Z T w) (hg : w.grownBy w' (some lb)) (h1 : bX ≠ lb) (h2 : xb ≠ lb) (h3 : b6 ≠ lb) (h4 : b7 ≠ lb) : EntS bX xb b6 b7 lb A Z T w' := by
 obtain ⟨q1, q2, q3, q4, q5⟩ := h
 have g : ∀ {b o v}, b ≠ lb → w.cell? ⟨b, o, none⟩ = some v → w'.cell? ⟨b, o, none⟩ = some v := fun hne hc => hg.cell hc (fun e => hne (Option.some.inj e))
 exact ⟨g h1 q1, g h2 q2, g h4 q3, g h3 q4, g h3 q5⟩
section
variable {P : Program} {md : Region.Mode} {ops : Array Oper} {Q : Exit → Act → World → Prop} {S : World → Prop}
theorem goOn {i fuel : Nat} {listed listed' : Array Bool} {a a' : Act} {w : World} {K' : Act → World → Prop} (hK : Shut (∀ a w, S w → (S w → wpAnyH P md ops Q S fuel (listed.setIfInBounds i true) a w) → K' a w)) (hS : S w) (h : S w → wpAnyH P md ops Q S fuel listed' a' w)
 (hl : listed.setIfInBounds i true = listed' := by first | (simp only [List.setIfInBounds_toArray, List.set_cons_zero, List.set_cons_succ]; rfl) | rfl)
 (ha : a = a' := by first | (simp only [Act.put, List.setIfInBounds_toArray, List.set_cons_zero, List.set_cons_succ]; rfl) | rfl) : K' a w := by
 subst hl ha
 exact hK.out _ _ hS h
theorem takeE (i : Nat) {oi : Oper} {v : Value} {fuel : Nat} {listed listed' : Array Bool} {a a' : Act} {w : World} (hS : S w)
  (h : wpAnyH P md ops Q S fuel listed' a' w)
  (hi : ops[i]? = some oi := by (simp only [jT]; try rfl))
  (hs : Region.noSelect ops = true := by kernel_rfl) (hf : Region.free md ops listed i = true := by kernel_rfl) (hr : (Region.ready md ops listed).contains i = true := by kernel_rfl)
  (hQ : ∀ c a w, Q (.panic c) (a.put oi.dst v) w → Q (.panic c) a w := by exact fun _ _ _ z => z)
  (hw : Region.wanted oi (yielded ops a.tmps) = true := by rfl)
  (hy : ∀ w, S w → (execOp a.eval oi).run P w = .ok (.value v) w := by (intro w hSw; (try unfold EntS MkS at hSw); (try unfold EntS at hSw); (try unfold MkS at hSw); go_simp; try with_reducible rfl))
  (hl : listed.setIfInBounds i true = listed' := by first | (simp only [jS]; rfl) | rfl)
  (ha : a.put oi.dst v = a' := by first | (simp only [Act.put, jS]; rfl) | rfl) :
  wpAnyH P md ops Q S (fuel + 1) listed a w := by
 subst hl ha
 exact wpAnyH_take hi hs hf hr hQ (Or.inl ⟨hw, hy⟩) hS h
end
theorem mark_any {m : Img} {w0 : World} {v0 v1 v2 v3 v4 va : Value} {vs : List Sle} {L : List (List Sp)} {xb ob lb kb nO nL : Nat} {vB vT vF : Value} {c : Nat → Nat} {w : World} {om : Int → Option Int} {ks : List Int} {f : Nat}
  (hX : Fin m w0 v0 v1 v2 v3 v4 va vs L xb ob lb kb vB vT vF c w) (hO : MapC 4 c Tryd.prog 3 3 (fun x : Int => .int .i64 x) wfI litI w ob nO om) (hL : MIBC c w lb nL ks)
  (hf : f < L.length) (hfm : f < m.Funcs.length) (hok : ∀ s ∈ nth L f, SpOk s) (hlen : (nth L f).length ≤ 2000) (hst : 0 ≤ (nth m.Funcs f).Start ∧ (nth m.Funcs f).Start ≤ 2000) (hnL : nL ≤ 1000000) (htl : m.Tables.length ≤ 20) (htt : ∀ i, i < m.Tables.length → (nth m.Tables i).length ≤ 20 ∧ ∀ x ∈ nth m.Tables i, 0 ≤ x ∧ x ≤ 8000) (hfn : m.Funcs.length ≤ 40) :
  Calls Tryd.prog 26 #[.pointer (some ⟨xb, 0, none⟩), .int .i64 f] w (MarkAns (anyN (fun k => spB m om f (nth (nth L f) k)) (nth L f).length) c w lb (nL + 1 + 2 * (nth L f).length) (ks ++ keysF m L f)) := by
 obtain ⟨HX, HO, HL⟩ := hid3 hX hO hL
 obtain ⟨W, c1, hW, ME, Ke, Ma, Mb⟩ := two_paint w c (.cells #[.pointer (some ⟨xb, 0, none⟩)] 75) (.cells #[.int .i64 f] 3) 7
 have KM := hX.turn (Ke (fun _ => False)) (fun q => q) (fun q => q) (fun q => q) (fun q => q)
 have MF := hO.turn (Ke (fun _ => False)) (fun q => q)
 have MG := hL.turn (Ke (fun _ => False)) (fun q => q)
 have KN := KM.blk.1
 obtain ⟨MH, Kf, P8⟩ : ∃ a cp, va = .slice a vs.length cp := own_form' hX.all.1
 subst P8
 obtain ⟨z0, z1, z2, z3, z4, hz, P9, MI, Pa, -, -⟩ := hX.img
 injection hz with hz
 simp only [Array.mk.injEq, List.cons.injEq, and_true] at hz
 obtain ⟨rfl, rfl, rfl, rfl, rfl⟩ := hz
 have Pb := jH MI
 obtain ⟨fo, H8, rfl, f1, f2, f3, f4⟩ := MI
 obtain ⟨fb, Hs, rfl, fc⟩ := f4 jo
 obtain ⟨ST, KO⟩ := jE ((nth m.Funcs f).Start)
 have Kg : Keeps w0 W := KM.keep
 obtain ⟨SL, Kh⟩ := jE (nth L f)
 have MJ : keysF m L f = ST :: SL.flatMap keysP := by unfold keysF; rw [← KO, ← Kh]
 rw [MJ, ← Kh]
 rw [← Kh] at hok hlen
 obtain ⟨SN, Mc⟩ := jE (SL.length)
 rw [← Mc] at hlen ⊢
 obtain ⟨MK, Ki⟩ := hid2 Kh Mc
 clear MJ Kh Mc
 have g1 : W.cell? ⟨fb, Hs + f * 3 + 1, none⟩ = some (.int .i64 ST) := by rw [KO]; exact Kg.cell (fc f 1 hfm jo)
 have u0 := jv W w.heap.size 0 (.pointer (some ⟨xb, 0, none⟩)) (Ma.1.cell rfl)
 have u1 := jc W (w.heap.size + 1) 0 f (Mb.1.cell rfl)
 have x1 := jv W xb 1 (.slice (some ⟨fb, Hs, none⟩) m.Funcs.length H8) (KN.cell rfl)
 have x6 := jv W xb 6 (.slice MH vs.length Kf) (KN.cell rfl)
 have x8 := jv W xb 8 (.map (some lb)) (KN.cell rfl)
 have hfz : (f : Int) < (m.Funcs.length : Int) := by omega
 have ML : wfI ST := wfI_of jo jo
 obtain ⟨Md, Kj, KP, MM⟩ := hid4 ML Ke KM MF
 obtain ⟨Me, MN, MO, HSZ⟩ := hid4 MG Ma Mb ME.size
 obtain ⟨HFC, Pc, HW, Pd⟩ := hid4 fc Pa hW KO
 obtain ⟨Mf, Pe, Pf⟩ := hid3 hX.len hok htt
 clear hX hO hL Ke KM MF MG KN Ma Mb ME P9 fc ML hW KO Kg hok htt f1 f2 f3 f4
 go_enter Tryd.func26, Tryd.ntmps26
 go_upto_region 1 with fail
 rw [← HW.out]
 clear HW
 refine wp_region_head (S := fun w' => w'.cell? ⟨w.heap.size, 0, none⟩ = some (.pointer (some ⟨xb, 0, none⟩)) ∧ w'.cell? ⟨w.heap.size + 1, 0, none⟩ = some (.int .i64 f) ∧ w'.cell? ⟨xb, 1, none⟩ = some (.slice (some ⟨fb, Hs, none⟩) m.Funcs.length H8) ∧ w'.cell? ⟨xb, 8, none⟩ = some (.map (some lb)) ∧ w'.cell? ⟨fb, Hs + f * 3 + 1, none⟩ = some (.int .i64 ST)) 13 jx jx jx jx jd jx ?hS (fun H0 => ?_)
 case hS => exact ⟨u0, u1, x1, x8, g1⟩
 simp only [jU]
 refine wpAnyH_take (i := 0) (oi := ?oq1x0) (v := ?vq1x0) ?hq1x0 ?aq1x0 ?bq1x0 ?cq1x0 ?qq1x0 (Or.inl ⟨?wq1x0, ?yq1x0⟩) H0 ?rq1x0
 case hq1x0 => (simp only [List.getElem?_toArray, List.getElem?_cons_zero]; try rfl)
 case aq1x0 => kernel_rfl
 case bq1x0 => kernel_rfl
 case cq1x0 => kernel_rfl
 case qq1x0 => exact fun _ _ _ h => h
 case wq1x0 => rfl
 case yq1x0 =>
  intro w hSw
  (try dsimp only at hSw)
  go_simp
  try with_reducible rfl
 try simp only [Act.put, jS]
 refine wpAnyH_take (i := 1) (oi := ?oq1x1) (v := ?vq1x1) ?hq1x1 ?aq1x1 ?bq1x1 ?cq1x1 ?qq1x1 (Or.inl ⟨?wq1x1, ?yq1x1⟩) H0 ?rq1x1
 case hq1x1 => (simp only [jT]; try rfl)
 case aq1x1 => kernel_rfl
 case bq1x1 => kernel_rfl
 case cq1x1 => kernel_rfl
 case qq1x1 => exact fun _ _ _ h => h
 case wq1x1 => rfl
 case yq1x1 =>
  intro w hSw
  (try dsimp only at hSw)
  go_simp
  try with_reducible rfl
 try simp only [Act.put, jS]
 refine wpAnyH_take (i := 2) (oi := ?oq1x2) (v := ?vq1x2) ?hq1x2 ?aq1x2 ?bq1x2 ?cq1x2 ?qq1x2 (Or.inl ⟨?wq1x2, ?yq1x2⟩) H0 ?rq1x2
 case hq1x2 => (simp only [jT]; try rfl)
 case aq1x2 => kernel_rfl
 case bq1x2 => kernel_rfl
 case cq1x2 => kernel_rfl
 case qq1x2 => exact fun _ _ _ h => h
 case wq1x2 => rfl
 case yq1x2 =>
  intro w hSw
  (try dsimp only at hSw)
  go_simp
  try with_reducible rfl
 try simp only [Act.put, jS]
 refine wpAnyH_take (i := 3) (oi := ?oq1x3) (v := ?vq1x3) ?hq1x3 ?aq1x3 ?bq1x3 ?cq1x3 ?qq1x3 (Or.inl ⟨?wq1x3, ?yq1x3⟩) H0 ?rq1x3
 case hq1x3 => (simp only [jT]; try rfl)
 case aq1x3 => kernel_rfl
 case bq1x3 => kernel_rfl
 case cq1x3 => kernel_rfl
 case qq1x3 => exact fun _ _ _ h => h
 case wq1x3 => rfl
 case yq1x3 =>
  intro w hSw
  (try dsimp only at hSw)
  go_simp
  try with_reducible rfl
 try simp only [Act.put, jS]
 refine wpAnyH_take (i := 4) (oi := ?oq1x4) (v := ?vq1x4) ?hq1x4 ?aq1x4 ?bq1x4 ?cq1x4 ?qq1x4 (Or.inl ⟨?wq1x4, ?yq1x4⟩) H0 ?rq1x4
 case hq1x4 => (simp only [jT]; try rfl)
 case aq1x4 => kernel_rfl
 case bq1x4 => kernel_rfl
 case cq1x4 => kernel_rfl
 case qq1x4 => exact fun _ _ _ h => h
 case wq1x4 => rfl
 case yq1x4 =>
  intro w hSw
  (try dsimp only at hSw)
  go_simp
  try with_reducible rfl
 try simp only [Act.put, jS]
 refine wpAnyH_take (i := 5) (oi := ?oq1x5) (v := ?vq1x5) ?hq1x5 ?aq1x5 ?bq1x5 ?cq1x5 ?qq1x5 (Or.inl ⟨?wq1x5, ?yq1x5⟩) H0 ?rq1x5
 case hq1x5 => (simp only [jT]; try rfl)
 case aq1x5 => kernel_rfl
 case bq1x5 => kernel_rfl
 case cq1x5 => kernel_rfl
 case qq1x5 => exact fun _ _ _ h => h
 case wq1x5 => rfl
 case yq1x5 =>
  intro w hSw
  (try dsimp only at hSw)
  go_simp
  try with_reducible rfl
 try simp only [Act.put, jS]
 refine wpAnyH_take (i := 6) (oi := ?oq1x6) (v := ?vq1x6) ?hq1x6 ?aq1x6 ?bq1x6 ?cq1x6 ?qq1x6 (Or.inl ⟨?wq1x6, ?yq1x6⟩) H0 ?rq1x6
 case hq1x6 => (simp only [jT]; try rfl)
 case aq1x6 => kernel_rfl
 case bq1x6 => kernel_rfl
 case cq1x6 => kernel_rfl
 case qq1x6 => exact fun _ _ _ h => h
 case wq1x6 => rfl
 case yq1x6 =>
  intro w hSw
  (try dsimp only at hSw)
  go_simp
  try with_reducible rfl
 try simp only [Act.put, jS]
 refine wpAnyH_take (i := 7) (oi := ?oq1x7) (v := ?vq1x7) ?hq1x7 ?aq1x7 ?bq1x7 ?cq1x7 ?qq1x7 (Or.inl ⟨?wq1x7, ?yq1x7⟩) H0 ?rq1x7
 case hq1x7 => (simp only [jT]; try rfl)
 case aq1x7 => kernel_rfl
 case bq1x7 => kernel_rfl
 case cq1x7 => kernel_rfl
 case qq1x7 => exact fun _ _ _ h => h
 case wq1x7 => rfl
 case yq1x7 =>
  intro w hSw
  (try dsimp only at hSw)
  go_simp
  try with_reducible rfl
 try simp only [Act.put, jS]
 refine wpAnyH_take (i := 8) (oi := ?oq1x8) (v := ?vq1x8) ?hq1x8 ?aq1x8 ?bq1x8 ?cq1x8 ?qq1x8 (Or.inl ⟨?wq1x8, ?yq1x8⟩) H0 ?rq1x8
 case hq1x8 => (simp only [jT]; try rfl)
 case aq1x8 => kernel_rfl
 case bq1x8 => kernel_rfl
 case cq1x8 => kernel_rfl
 case qq1x8 => exact fun _ _ _ h => h
 case wq1x8 => rfl
 case yq1x8 =>
  intro w hSw
  (try dsimp only at hSw)
  go_simp
  try with_reducible rfl
 try simp only [Act.put, jS]
 refine wpAnyH_take (i := 9) (oi := ?oq1x9) (v := ?vq1x9) ?hq1x9 ?aq1x9 ?bq1x9 ?cq1x9 ?qq1x9 (Or.inl ⟨?wq1x9, ?yq1x9⟩) H0 ?rq1x9
 case hq1x9 => (simp only [jT]; try rfl)
 case aq1x9 => kernel_rfl
 case bq1x9 => kernel_rfl
 case cq1x9 => kernel_rfl
 case qq1x9 => exact fun _ _ _ h => h
 case wq1x9 => rfl
 case yq1x9 =>
  intro w hSw
  (try dsimp only at hSw)
  go_simp
  try with_reducible rfl
 try simp only [Act.put, jS]
 refine wpAnyH_take (i := 10) (oi := ?oq1x10) (v := ?vq1x10) ?hq1x10 ?aq1x10 ?bq1x10 ?cq1x10 ?qq1x10 (Or.inl ⟨?wq1x10, ?yq1x10⟩) H0 ?rq1x10
 case hq1x10 => (simp only [jT]; try rfl)
 case aq1x10 => kernel_rfl
 case bq1x10 => kernel_rfl
 case cq1x10 => kernel_rfl
 case qq1x10 => exact fun _ _ _ h => h
 case wq1x10 => rfl
 case yq1x10 =>
  intro w hSw
  (try dsimp only at hSw)
  go_simp
  try with_reducible rfl
 try simp only [Act.put, jS]
 refine wpAnyH_take (i := 11) (oi := ?oq1x11) (v := ?vq1x11) ?hq1x11 ?aq1x11 ?bq1x11 ?cq1x11 ?qq1x11 (Or.inl ⟨?wq1x11, ?yq1x11⟩) H0 ?rq1x11
 case hq1x11 => (simp only [jT]; try rfl)
 case aq1x11 => kernel_rfl
 case bq1x11 => kernel_rfl
 case cq1x11 => kernel_rfl
 case qq1x11 => exact fun _ _ _ h => h
 case wq1x11 => rfl
 case yq1x11 =>
  intro w hSw
  (try dsimp only at hSw)
  go_simp
  try with_reducible rfl
 try simp only [Act.put, jS]
 refine wpAnyH_take (i := 12) (oi := ?oq1x12) (v := ?vq1x12) ?hq1x12 ?aq1x12 ?bq1x12 ?cq1x12 ?qq1x12 (Or.inl ⟨?wq1x12, ?yq1x12⟩) H0 ?rq1x12
 case hq1x12 => (simp only [jT]; try rfl)
 case aq1x12 => kernel_rfl
 case bq1x12 => kernel_rfl
 case cq1x12 => kernel_rfl
 case qq1x12 => exact fun _ _ _ h => h
 case wq1x12 => rfl
 case yq1x12 =>
  intro w hSw
  (try dsimp only at hSw)
  go_simp
  try with_reducible rfl
 try simp only [Act.put, jS]
 refine wpAnyH_done jx ?_ _
 dsimp only [TailQ]
 clear H0
 go_upto_region 2 with (at_mapUpdate; refine wpList_put _ rfl (.tmp 11) (.tmp 20) (.const (.bool true)) rfl MKIB lb nL _ rfl (Me.out.1.keep ku5) (by unfold maxLen; omega) ST rfl Md.out true rfl trivial ?_; intro w1 Mg MP)
 rw [isK_put] at Mg
 have Kk : Turn (fun i => i = 5) c1 W c1 w1 := ((show Keeps W _ from ku5).turn _ c1).trans (grown_turn MP (fun b e => by cases e; exact Me.out.2))
 have KQ := KP.out.turn Kk jd jd jd jd
 have Pg : w1.cell? ⟨w.heap.size, 0, none⟩ = some (.pointer (some ⟨xb, 0, none⟩)) := (MN.out.turn Kk jd).1.cell rfl
 have Ph : w1.cell? ⟨w.heap.size + 1, 0, none⟩ = some (.int .i64 f) := (MO.out.turn Kk jd).1.cell rfl
 have Pi : w1.cell? ⟨xb, 6, none⟩ = some (.slice MH vs.length Kf) := KQ.blk.1.cell rfl
 obtain ⟨ga, Pj, ge, -, -, -, -, gc, -⟩ := own_read1 (h := fun s : Sle => s.v) KQ.all.1 (by rw [Mf.out]; omega)
 injection ge with ge1 ge2 ge3
 subst ge1
 obtain ⟨⟨sa, sn, sc⟩, KR⟩ : ∃ z, z = nth vs f := ⟨_, rfl⟩
 have y0 : w1.cell? ⟨ga, f, none⟩ = some (.slice sa sn sc) := by have z := gc f (by rw [Mf.out]; exact hf); rw [← KR] at z; exact z
 have Kl := KQ.sps.here f hf
 rw [← KR] at Kl
 obtain ⟨pa, Pk, pe, p1, p2, p3, p4⟩ := Kl
 injection pe with pe1 pe2 pe3
 subst pe1 pe2 pe3
 have hfv : (f : Int) < (vs.length : Int) := by rw [Mf.out]; omega
 rw [← MK.out, ← Ki.out] at y0 p4
 have MQ : Hid (MIBC c1 w1 lb (nL + 1) (ks ++ [ST])) := jH ⟨Mg, Me.out.2⟩
 obtain ⟨MR, Pl⟩ := hid2 Kk p4
 clear Mg Kk KQ MP ge2 ge3 gc p1 p2 p3 p4 u0 u1 x1 x6 x8 g1
 -- LOOP
 have Mh := jH KR
 clear KR
 go_quiet (fail)
 go_wp2_with fail
 go_loopw [29] (fun s29 wr => ∃ (k : Nat) (c2 : Nat → Nat), k ≤ SN ∧ s29 = .int .i64 k ∧ Hid (Turn (fun i => i = 5) c1 W c2 wr) ∧ Hid (∃ nn, nn ≤ nL + 1 + 2 * k ∧ MIBC c2 wr lb nn (ks ++ ST :: (SL.take k).flatMap keysP)) ∧ Hid (∀ i, i < k → spB m om f (nth SL i) = false)) (fun s29 _ => SN - (intOf s29).toNat)
 case atStart => exact ⟨0, c1, Nat.zero_le _, rfl, jH (MR.out.keep ((Keeps.refl _).drewN _)), jH ⟨_, Nat.le_refl _, MQ.out.keep ((Keeps.refl _).drewN _)⟩, jH (fun i hi => absurd hi (Nat.not_lt_zero _))⟩
 case round =>
 obtain ⟨k, c2, hk, rfl, HT, HM, HC⟩ := hrel
 clear MQ MR Pl
 by_cases hlt : k < SN
 case neg =>
  obtain rfl : k = SN := by omega
  have MS := anyN_no HC.out
  have Pm := jH MS
  clear MS
  go_wp2_with fail
  go_ret
  refine MarkAns.fine Pm.out ((Kj.out _).trans HT.out) ?_
  obtain ⟨nn, Mi, hm⟩ := HM.out
  rw [Ki.out, List.take_length] at hm
  exact MapC.mono hm jo
 case pos =>
 have Pn : (k : Int) < (SN : Int) := by omega
 have MT := KP.out.turn HT.out jd jd jd jd
 have Kl := MT.sps.here f hf
 rw [← Mh.out] at Kl
 obtain ⟨_, _, pe, -, -, -, p4⟩ := Kl
 injection pe with pe1 pe2 pe3
 subst pe1
 rw [← MK.out, ← Ki.out] at p4
 obtain ⟨Hq, Ht, rfl, pc⟩ := p4 jo
 have Km := Pe.out (nth SL k) (by rw [nth_eq _ _ (by rw [← Ki.out]; exact hlt)]; exact List.getElem_mem _)
 obtain ⟨⟨A, Z, ⟨K, D, A2, B, N, Lg⟩⟩, hs⟩ : ∃ s, s = nth SL k := ⟨_, rfl⟩
 rw [← hs] at Km
 obtain ⟨a0, a1, Po, Pp, n0, n1, k0, k1, Mj⟩ := Km
 dsimp only at a0 a1 Po Pp n0 n1 k0 k1 Mj
 have g : ∀ j, j < 8 → wr.cell? ⟨Hq, Ht + k * 8 + j, none⟩ = some ((csp ⟨A, Z, ⟨K, D, A2, B, N, Lg⟩⟩).getD j undef) := fun j hj => by rw [hs]; exact pc k j hlt hj
 have d0 := jc wr Hq (Ht + k * 8) A (g 0 jo)
 have d1 := jc wr Hq (Ht + k * 8 + 1) Z (g 1 jo)
 have d2 := jc wr Hq (Ht + k * 8 + 2) K (g 2 jo)
 have d3 := jc wr Hq (Ht + k * 8 + 3) D (g 3 jo)
 have d4 := jc wr Hq (Ht + k * 8 + 4) A2 (g 4 jo)
 have d5 := jc wr Hq (Ht + k * 8 + 5) B (g 5 jo)
 have d6 := jc wr Hq (Ht + k * 8 + 6) N (g 6 jo)
 have d7 := jv wr Hq (Ht + k * 8 + 7) (.bool Lg) (g 7 jo)
 have Mk : Hq < wr.heap.size := lt_of_cell d0
 have Pq : IntKind.i64.wrap (A + N) = A + N := jw
 have Kn : spB m om f ⟨A, Z, ⟨K, D, A2, B, N, Lg⟩⟩ = spB m om f (nth SL k) := by rw [← hs]
 have HD : (SL.take (k + 1)).flatMap keysP = (SL.take k).flatMap keysP ++ keysP ⟨A, Z, ⟨K, D, A2, B, N, Lg⟩⟩ := by rw [take_succ_nth _ _ (by rw [← Ki.out]; exact hlt), List.flatMap_append, ← hs]; simp
 obtain ⟨Hc, Ha⟩ := hid2 Kn HD
 clear hs g pc p4 pe2 pe3 Kn HD
 go_upto_block 2 with fail
 obtain ⟨wq, c3, MU, Pr, Ml, Hi, KS⟩ := two_paint wr c2 (.cells #[.int .i64 A, .int .i64 Z, .int .i64 K, .int .i64 D, .int .i64 A2, .int .i64 B, .int .i64 N, .bool Lg] 85) (.cells #[.int .i64 (A + N)] 3) 7
 rw [← MU]
 have Kb : Turn (fun i => i = 5) c1 W c3 wq := HT.out.trans (Ml _)
 obtain ⟨b7, HG⟩ := jE (wr.heap.size + 1)
 obtain ⟨b6, HH⟩ := jE (wr.heap.size)
 rw [← HG, ← HH]
 rw [← HG] at KS
 rw [← HH] at Hi
 have Kc := KP.out.turn Kb jd jd jd jd
 have Mm := MM.out.turn Kb jd
 have MV := (MN.out.turn Kb jd).1
 have MW := (MO.out.turn Kb jd).1
 have hS : MkS w.heap.size (w.heap.size + 1) xb b6 b7 ob lb f ⟨A, Z, ⟨K, D, A2, B, N, Lg⟩⟩ (.slice (some ⟨fb, Hs, none⟩) m.Funcs.length H8) v2 wq :=
  ⟨MV.cell rfl, MW.cell rfl, Kc.blk.1.cell rfl, Kc.blk.1.cell rfl, Kc.blk.1.cell rfl, Kc.blk.1.cell rfl, Hi.1.cell rfl, Hi.1.cell rfl, Hi.1.cell rfl, Hi.1.cell rfl, Hi.1.cell rfl, Hi.1.cell rfl, Hi.1.cell rfl, Hi.1.cell rfl, KS.1.cell rfl, Hi.1.lt, KS.1.lt⟩
 have MX : ∃ nn, nn ≤ nL + 1 + 2 * k ∧ MIBC c3 wq lb nn (ks ++ ST :: (SL.take k).flatMap keysP) := by obtain ⟨nn, h1, h2⟩ := HM.out; exact ⟨nn, h1, h2.turn (Ml (fun _ => False)) (fun q => q)⟩
 have Ko : b6 ≠ lb := fun e => by have := HM.out; obtain ⟨nn, -, hm⟩ := this; have := hm.1.lt; omega
 have Kp : b7 ≠ lb := fun e => by have := HM.out; obtain ⟨nn, -, hm⟩ := this; have := hm.1.lt; omega
 have Kq : w.heap.size ≠ lb := fun e => by have := HL.out.1.lt; omega
 have Kr : xb ≠ lb := fun e => by have h1 := HX.out.blk.2; have h2 := HL.out.2; rw [e] at h1; omega
 obtain ⟨HS, HE, KT, HOQ⟩ := hid4 hS Kb MX Mm
 obtain ⟨Ps, Hg, H5⟩ := hid3 Kc (fun W' => branch_any K D A2 B N Lg W') (fun W' => stops_any K D A2 B N Lg W')
 unfold insV at Hg H5
 have Hd : Hid (∀ W', Keeps wq W' → Calls Tryd.prog 55 #[.pointer (some ⟨xb, 0, none⟩), .int .i64 f, .int .i64 (A + N)] W' fun e w' => e = .returned (.bool (decide (om (A + N) = some (f : Int)))) ∧ W' = w') :=
  jH fun W' hk' => inside_any (n := nO) (om := om) (hk'.cell hS.2.2.2.2.1) (Mm.1.keep hk') (wfI_of jo jo)
 have HF : Hid (b6 ≠ lb ∧ b7 ≠ lb ∧ w.heap.size ≠ lb ∧ xb ≠ lb) := jH ⟨Ko, Kp, Kq, Kr⟩
 have Mn : Hid (K = 24 → 0 ≤ N) := jH Mj
 clear MU Pr Ml Hi KS Kc Mm MV MW hS MX Kb Ko Kp Kq Kr HH HG d0 d1 d2 d3 d4 d5 d6 d7 Mk HM HT Pg Ph Pi y0 MT Pq Mj
 obtain ⟨u0, u1, x1, x2, x7, x8, q0, q1, q2, q3, q4, q5, q6, q7, r0, l6, l7⟩ := HS.out
 by_cases hbr : brN K = true
 case pos =>
  rw [hbr] at Hg
  have HI : brN K = true ∨ K = 22 := Or.inl hbr
  clear hbr H5 Mn
  have H2 : keysP ⟨A, Z, ⟨K, D, A2, B, N, Lg⟩⟩ = [A + N, A + Z] := by unfold keysP; exact if_pos HI
  have He : spB m om f (nth SL k) = !decide (om (A + N) = some (f : Int)) := by rw [← Hc.out]; unfold spB; exact if_pos HI
  obtain ⟨IN, HJ⟩ := jE (decide (om (A + N) = some (f : Int)))
  rw [← HJ] at He
  rw [← HJ] at Hd
  obtain ⟨H6, H9⟩ := hid2 H2 He
  clear H2 He HJ HI
  cases IN with
  | false =>
   go_wp2_with (first | (go_at_call 54; refine (Hg.out _).mono ?_; rintro e wa ⟨rfl, H1⟩; obtain ⟨Hu, HK, HN, HP, HQ, Hv, Hw, Hx, HR, HU, HV, HY, HZ, K0, Hy, K1, K2⟩ := HS.out.keep H1) | (go_at_call 55; refine (Hd.out _ H1).mono ?_; rintro e wb ⟨rfl, rfl⟩))
   go_ret
   exact MarkAns.bad (anyN_yes hlt (by rw [H9.out]; rfl)) (((Kj.out _).trans HE.out).keep H1)
  | true =>
   go_upto_region 10 with (first | (go_at_call 54; refine (Hg.out _).mono ?_; rintro e wa ⟨rfl, H1⟩; obtain ⟨Hu, HK, HN, HP, HQ, Hv, Hw, Hx, HR, HU, HV, HY, HZ, K0, Hy, K1, K2⟩ := HS.out.keep H1) | (go_at_call 55; refine (Hd.out _ H1).mono ?_; rintro e wb ⟨rfl, rfl⟩))
   have MY : IntKind.i64.wrap (A + Z) = A + Z := jw
   obtain ⟨nn, Mi, H7⟩ := KT.out
   obtain ⟨Pt, Pu, w3, w4, Ks, Kt, Hj, Hk, Ku, K3⟩ := (H7.1.keep (H1.trans (show Keeps wa wa.drew from (Keeps.refl _).drew))).entry MKIB (by unfold maxLen; omega) (x := A + N) (wfI_of jo jo) (c := true) trivial
   rw [isK_put] at Hj
   obtain ⟨Pv, Mo, w5, w6, Kv, Kw, K4, K5, Kx, K6⟩ := Hj.entry MKIB (by unfold maxLen; omega) (x := A + Z) (wfI_of jo jo) (c := true) trivial
   rw [isK_put] at K4
   have Hr : Turn (fun i => i = 5) c1 W c3 w4 := (HE.out.keep (H1.trans (show Keeps wa wa.drew from (Keeps.refl _).drew))).trans (grown_turn Hk (fun b e => by cases e; exact H7.2))
   have Ky : Turn (fun i => i = 5) c1 W c3 w6 := Hr.trans (grown_turn K5 (fun b e => by cases e; exact H7.2))
   have Mp := jH Ky
   have Mq : Hid (∃ nn, nn ≤ nL + 1 + 2 * (k + 1) ∧ MIBC c3 w6 lb nn (ks ++ ST :: (SL.take (k + 1)).flatMap keysP)) := jH ⟨nn + 1 + 1, by omega, by rw [Ha.out, H6.out]; refine ⟨?_, H7.2⟩; (have e : ks ++ ST :: ((SL.take k).flatMap keysP ++ [A + N, A + Z]) = ks ++ ST :: (SL.take k).flatMap keysP ++ [A + N] ++ [A + Z] := by simp); rw [e]; exact K4⟩
   obtain ⟨Mr, Ms, Mt, Mu⟩ := hid4 Ks Kt Kv Kw
   have Hz : EntS w.heap.size xb b6 b7 lb A Z (A + N) wa.drew := ⟨Hu, Hv, Hy, Hw, Hx⟩
   have H3 := HF.out
   have Kz : EntS w.heap.size xb b6 b7 lb A Z (A + N) w3 := Hz.grown Ku H3.2.2.1 H3.2.2.2 H3.1 H3.2.1
   have HA : EntS w.heap.size xb b6 b7 lb A Z (A + N) w4 := Hz.grown Hk H3.2.2.1 H3.2.2.2 H3.1 H3.2.1
   have KA : EntS w.heap.size xb b6 b7 lb A Z (A + N) w5 := HA.grown Kx H3.2.2.1 H3.2.2.2 H3.1 H3.2.1
   have KB : EntS w.heap.size xb b6 b7 lb A Z (A + N) w6 := HA.grown K5 H3.2.2.1 H3.2.2.2 H3.1 H3.2.1
   obtain ⟨KC, Hh, KD, KE⟩ := hid4 Kz HA KA KB
   clear Hj Hk K4 K5 Hr Ky H7 Ku K3 Kx K6 Ks Kt Kv Kw Kz HA KA KB H3
   refine wp_region_held_drew (S := EntS w.heap.size xb b6 b7 lb A Z (A + N)) jx Hz (fun H0 => ?_)
   clear Hz
   refine takeE 0 H0 ?_
   refine takeE 1 H0 ?_
   refine takeE 2 H0 ?_
   refine takeE 3 H0 ?_
   refine takeE 4 H0 ?_
   refine takeE 5 H0 ?_
   refine takeE 6 H0 ?_
   refine takeE 7 H0 ?_
   refine takeE 8 H0 ?_
   refine takeE 9 H0 ?_
   refine takeE 10 H0 ?_
   refine takeE 11 H0 ?_
   refine takeE 12 H0 ?_
   refine takeE 13 H0 ?_
   refine wpAnyH_ready (rs := [14]) jx (by simp) ?_
   refine AllReadyH.cons (o := ?oe36a) ?he36a ?se36a ?me36a
   case he36a => (simp only [jT]; try rfl)
   case me36a => exact AllReadyH.nil
   case se36a =>
   intro K hK
   rw [if_pos jr]
   unfold Oper.wp
   simp only [execOp, Act.eval]
   simp [Mr.out, Result.andThen, Oper.upon]
   refine goOn hK KC.out (fun H0 => ?_)
   clear hK K H0
   have H0 := KC.out
   refine wpAnyH_take (i := 15) (oi := ?oq37x15) (v := ?vq37x15) ?hq37x15 ?aq37x15 ?bq37x15 ?cq37x15 ?qq37x15 (Or.inl ⟨?wq37x15, ?yq37x15⟩) H0 ?rq37x15
   case hq37x15 => (simp only [jT]; try rfl)
   case aq37x15 => kernel_rfl
   case bq37x15 => kernel_rfl
   case cq37x15 => kernel_rfl
   case qq37x15 => exact fun _ _ _ h => h
   case wq37x15 => rfl
   case yq37x15 =>
    intro w hSw
    (try dsimp only at hSw)
    go_simp
    try with_reducible rfl
   try simp only [Act.put, jS]
   refine wpAnyH_ready (rs := [16]) jx (by simp) ?_
   refine AllReadyH.cons (o := ?oe36b) ?he36b ?se36b ?me36b
   case he36b => (simp only [jT]; try rfl)
   case me36b => exact AllReadyH.nil
   case se36b =>
   intro K hK
   rw [if_pos jr]
   unfold Oper.wp
   simp only [execOp, Act.eval]
   simp [Ms.out, Result.andThen, Oper.upon]
   refine goOn hK Hh.out (fun H0 => ?_)
   clear hK K H0
   have H0 := Hh.out
   refine wpAnyH_ready (rs := [17]) jx (by simp) ?_
   refine AllReadyH.cons (o := ?oe38a) ?he38a ?se38a ?me38a
   case he38a => (simp only [jT]; try rfl)
   case me38a => exact AllReadyH.nil
   case se38a =>
   intro K hK
   rw [if_pos jr]
   unfold Oper.wp
   simp only [execOp, Act.eval]
   simp [Mt.out, Result.andThen, Oper.upon]
   refine goOn hK KD.out (fun H0 => ?_)
   clear hK K H0
   have H0 := KD.out
   refine wpAnyH_take (i := 18) (oi := ?oq39x18) (v := ?vq39x18) ?hq39x18 ?aq39x18 ?bq39x18 ?cq39x18 ?qq39x18 (Or.inl ⟨?wq39x18, ?yq39x18⟩) H0 ?rq39x18
   case hq39x18 => (simp only [jT]; try rfl)
   case aq39x18 => kernel_rfl
   case bq39x18 => kernel_rfl
   case cq39x18 => kernel_rfl
   case qq39x18 => exact fun _ _ _ h => h
   case wq39x18 => rfl
   case yq39x18 =>
    intro w hSw
    (try dsimp only at hSw)
    go_simp
    try with_reducible rfl
   try simp only [Act.put, jS]
   refine wpAnyH_ready (rs := [19]) jx (by simp) ?_
   refine AllReadyH.cons (o := ?oe38b) ?he38b ?se38b ?me38b
   case he38b => (simp only [jT]; try rfl)
   case me38b => exact AllReadyH.nil
   case se38b =>
   intro K hK
   rw [if_pos jr]
   unfold Oper.wp
   simp only [execOp, Act.eval]
   simp [Mu.out, Result.andThen, Oper.upon]
   refine goOn hK KE.out (fun H0 => ?_)
   clear hK K H0
   have H0 := KE.out
   refine wpAnyH_done jx ?_ _
   clear H0
   have Mv := Mp
   have Mw := Mq
   go_wp2_with fail
   go_roundw
   case rel => exact ⟨k + 1, c3, by omega, by go_num, Mv, Mw, jH (fun i hi => by
    by_cases q : i = k
    ·subst q; rw [H9.out]; rfl
    exact HC.out i jo)⟩
   case measure => exact jm
 case neg =>
 have HB : brN K = false := by simpa using hbr
 by_cases h22 : K = 22
 case pos =>
  rw [HB] at Hg
  have HI : brN K = true ∨ K = 22 := Or.inr h22
  have Pw : (K == 22) = true := by simpa using h22
  clear hbr HB h22 H5 Mn
  have H2 : keysP ⟨A, Z, ⟨K, D, A2, B, N, Lg⟩⟩ = [A + N, A + Z] := by unfold keysP; exact if_pos HI
  have He : spB m om f (nth SL k) = !decide (om (A + N) = some (f : Int)) := by rw [← Hc.out]; unfold spB; exact if_pos HI
  obtain ⟨IN, HJ⟩ := jE (decide (om (A + N) = some (f : Int)))
  rw [← HJ] at He
  rw [← HJ] at Hd
  obtain ⟨H6, H9⟩ := hid2 H2 He
  clear H2 He HJ HI
  cases IN with
  | false =>
   go_wp2_with (first | (go_at_call 54; refine (Hg.out _).mono ?_; rintro e wa ⟨rfl, H1⟩; obtain ⟨Hu, HK, HN, HP, HQ, Hv, Hw, Hx, HR, HU, HV, HY, HZ, K0, Hy, K1, K2⟩ := HS.out.keep H1) | (go_at_call 55; refine (Hd.out _ H1).mono ?_; rintro e wb ⟨rfl, rfl⟩))
   go_ret
   exact MarkAns.bad (anyN_yes hlt (by rw [H9.out]; rfl)) (((Kj.out _).trans HE.out).keep H1)
  | true =>
   go_upto_region 10 with (first | (go_at_call 54; refine (Hg.out _).mono ?_; rintro e wa ⟨rfl, H1⟩; obtain ⟨Hu, HK, HN, HP, HQ, Hv, Hw, Hx, HR, HU, HV, HY, HZ, K0, Hy, K1, K2⟩ := HS.out.keep H1) | (go_at_call 55; refine (Hd.out _ H1).mono ?_; rintro e wb ⟨rfl, rfl⟩))
   have MY : IntKind.i64.wrap (A + Z) = A + Z := jw
   obtain ⟨nn, Mi, H7⟩ := KT.out
   obtain ⟨Pt, Pu, w3, w4, Ks, Kt, Hj, Hk, Ku, K3⟩ := (H7.1.keep (H1.trans (show Keeps wa wa.drew from (Keeps.refl _).drew))).entry MKIB (by unfold maxLen; omega) (x := A + N) (wfI_of jo jo) (c := true) trivial
   rw [isK_put] at Hj
   obtain ⟨Pv, Mo, w5, w6, Kv, Kw, K4, K5, Kx, K6⟩ := Hj.entry MKIB (by unfold maxLen; omega) (x := A + Z) (wfI_of jo jo) (c := true) trivial
   rw [isK_put] at K4
   have Hr : Turn (fun i => i = 5) c1 W c3 w4 := (HE.out.keep (H1.trans (show Keeps wa wa.drew from (Keeps.refl _).drew))).trans (grown_turn Hk (fun b e => by cases e; exact H7.2))
   have Ky : Turn (fun i => i = 5) c1 W c3 w6 := Hr.trans (grown_turn K5 (fun b e => by cases e; exact H7.2))
   have Mp := jH Ky
   have Mq : Hid (∃ nn, nn ≤ nL + 1 + 2 * (k + 1) ∧ MIBC c3 w6 lb nn (ks ++ ST :: (SL.take (k + 1)).flatMap keysP)) := jH ⟨nn + 1 + 1, by omega, by rw [Ha.out, H6.out]; refine ⟨?_, H7.2⟩; (have e : ks ++ ST :: ((SL.take k).flatMap keysP ++ [A + N, A + Z]) = ks ++ ST :: (SL.take k).flatMap keysP ++ [A + N] ++ [A + Z] := by simp); rw [e]; exact K4⟩
   obtain ⟨Mr, Ms, Mt, Mu⟩ := hid4 Ks Kt Kv Kw
   have Hz : EntS w.heap.size xb b6 b7 lb A Z (A + N) wa.drew := ⟨Hu, Hv, Hy, Hw, Hx⟩
   have H3 := HF.out
   have Kz : EntS w.heap.size xb b6 b7 lb A Z (A + N) w3 := Hz.grown Ku H3.2.2.1 H3.2.2.2 H3.1 H3.2.1
   have HA : EntS w.heap.size xb b6 b7 lb A Z (A + N) w4 := Hz.grown Hk H3.2.2.1 H3.2.2.2 H3.1 H3.2.1
   have KA : EntS w.heap.size xb b6 b7 lb A Z (A + N) w5 := HA.grown Kx H3.2.2.1 H3.2.2.2 H3.1 H3.2.1
   have KB : EntS w.heap.size xb b6 b7 lb A Z (A + N) w6 := HA.grown K5 H3.2.2.1 H3.2.2.2 H3.1 H3.2.1
   obtain ⟨KC, Hh, KD, KE⟩ := hid4 Kz HA KA KB
   clear Hj Hk K4 K5 Hr Ky H7 Ku K3 Kx K6 Ks Kt Kv Kw Kz HA KA KB H3
   refine wp_region_held_drew (S := EntS w.heap.size xb b6 b7 lb A Z (A + N)) jx Hz (fun H0 => ?_)
   clear Hz
   refine takeE 0 H0 ?_
   refine takeE 1 H0 ?_
   refine takeE 2 H0 ?_
   refine takeE 3 H0 ?_
   refine takeE 4 H0 ?_
   refine takeE 5 H0 ?_
   refine takeE 6 H0 ?_
   refine takeE 7 H0 ?_
   refine takeE 8 H0 ?_
   refine takeE 9 H0 ?_
   refine takeE 10 H0 ?_
   refine takeE 11 H0 ?_
   refine takeE 12 H0 ?_
   refine takeE 13 H0 ?_
   refine wpAnyH_ready (rs := [14]) jx (by simp) ?_
   refine AllReadyH.cons (o := ?oe40a) ?he40a ?se40a ?me40a
   case he40a => (simp only [jT]; try rfl)
   case me40a => exact AllReadyH.nil
   case se40a =>
   intro K hK
   rw [if_pos jr]
   unfold Oper.wp
   simp only [execOp, Act.eval]
   simp [Mr.out, Result.andThen, Oper.upon]
   refine goOn hK KC.out (fun H0 => ?_)
   clear hK K H0
   have H0 := KC.out
   refine wpAnyH_take (i := 15) (oi := ?oq41x15) (v := ?vq41x15) ?hq41x15 ?aq41x15 ?bq41x15 ?cq41x15 ?qq41x15 (Or.inl ⟨?wq41x15, ?yq41x15⟩) H0 ?rq41x15
   case hq41x15 => (simp only [jT]; try rfl)
   case aq41x15 => kernel_rfl
   case bq41x15 => kernel_rfl
   case cq41x15 => kernel_rfl
   case qq41x15 => exact fun _ _ _ h => h
   case wq41x15 => rfl
   case yq41x15 =>
    intro w hSw
    (try dsimp only at hSw)
    go_simp
    try with_reducible rfl
   try simp only [Act.put, jS]
   refine wpAnyH_ready (rs := [16]) jx (by simp) ?_
   refine AllReadyH.cons (o := ?oe40b) ?he40b ?se40b ?me40b
   case he40b => (simp only [jT]; try rfl)
   case me40b => exact AllReadyH.nil
   case se40b =>
   intro K hK
   rw [if_pos jr]
   unfold Oper.wp
   simp only [execOp, Act.eval]
   simp [Ms.out, Result.andThen, Oper.upon]
   refine goOn hK Hh.out (fun H0 => ?_)
   clear hK K H0
   have H0 := Hh.out
   refine wpAnyH_ready (rs := [17]) jx (by simp) ?_
   refine AllReadyH.cons (o := ?oe42a) ?he42a ?se42a ?me42a
   case he42a => (simp only [jT]; try rfl)
   case me42a => exact AllReadyH.nil
   case se42a =>
   intro K hK
   rw [if_pos jr]
   unfold Oper.wp
   simp only [execOp, Act.eval]
   simp [Mt.out, Result.andThen, Oper.upon]
   refine goOn hK KD.out (fun H0 => ?_)
   clear hK K H0
   have H0 := KD.out
   refine wpAnyH_take (i := 18) (oi := ?oq43x18) (v := ?vq43x18) ?hq43x18 ?aq43x18 ?bq43x18 ?cq43x18 ?qq43x18 (Or.inl ⟨?wq43x18, ?yq43x18⟩) H0 ?rq43x18
   case hq43x18 => (simp only [jT]; try rfl)
   case aq43x18 => kernel_rfl
   case bq43x18 => kernel_rfl
   case cq43x18 => kernel_rfl
   case qq43x18 => exact fun _ _ _ h => h
   case wq43x18 => rfl
   case yq43x18 =>
    intro w hSw
    (try dsimp only at hSw)
    go_simp
    try with_reducible rfl
   try simp only [Act.put, jS]
   refine wpAnyH_ready (rs := [19]) jx (by simp) ?_
   refine AllReadyH.cons (o := ?oe42b) ?he42b ?se42b ?me42b
   case he42b => (simp only [jT]; try rfl)
   case me42b => exact AllReadyH.nil
   case se42b =>
   intro K hK
   rw [if_pos jr]
   unfold Oper.wp
   simp only [execOp, Act.eval]
   simp [Mu.out, Result.andThen, Oper.upon]
   refine goOn hK KE.out (fun H0 => ?_)
   clear hK K H0
   have H0 := KE.out
   refine wpAnyH_done jx ?_ _
   clear H0
   have Mv := Mp
   have Mw := Mq
   go_wp2_with fail
   go_roundw
   case rel => exact ⟨k + 1, c3, by omega, by go_num, Mv, Mw, jH (fun i hi => by
    by_cases q : i = k
    ·subst q; rw [H9.out]; rfl
    exact HC.out i jo)⟩
   case measure => exact jm
 case neg =>
 rw [HB] at Hg
 have Pw : (K == 22) = false := by simpa using h22
 have Hl : ¬ (brN K = true ∨ K = 22) := fun q => q.elim hbr h22
 clear hbr HB h22
 by_cases hst9 : stN K = true
 case pos =>
  rw [hst9] at H5
  have H2 : keysP ⟨A, Z, ⟨K, D, A2, B, N, Lg⟩⟩ = [A + Z] := by unfold keysP; rw [if_neg Hl, if_pos hst9]
  have H6 := jH H2
  have Hm : K ≠ 23 := fun e => by rw [e] at hst9; exact absurd hst9 jd
  clear H2
  go_upto_region 12 with (first | (go_at_call 54; refine (Hg.out _).mono ?_; rintro e wa ⟨rfl, H1⟩; obtain ⟨Hu, HK, HN, HP, HQ, Hv, Hw, Hx, HR, HU, HV, HY, HZ, K0, Hy, K1, K2⟩ := HS.out.keep H1) | (go_at_call 53; refine (H5.out _).mono ?_; rintro e wb ⟨rfl, Hb⟩; obtain ⟨KF, KU, KV, KW, KX, KG, KH, KI, KY, KZ, M0, M1, M2, M3, KJ, M4, M5⟩ := HS.out.keep (H1.trans Hb)))
  have MY : IntKind.i64.wrap (A + Z) = A + Z := jw
  have M6 : Keeps wq wb := H1.trans Hb
  refine wp_region_head (S := EntS w.heap.size xb b6 b7 lb A Z (A + N)) 9 jx jx jx jx jd jx ?hS (fun H0 => ?_)
  case hS => exact ⟨KF, KG, KJ, KH, KI⟩
  simp only [jU]
  refine takeE 0 H0 ?_
  refine takeE 1 H0 ?_
  refine takeE 2 H0 ?_
  refine takeE 3 H0 ?_
  refine takeE 4 H0 ?_
  refine takeE 5 H0 ?_
  refine takeE 6 H0 ?_
  refine takeE 7 H0 ?_
  refine takeE 8 H0 ?_
  refine wpAnyH_done jx ?_ _
  dsimp only [TailQ]
  clear H0
  obtain ⟨nn, Mi, H7⟩ := KT.out
  go_upto_region 13 with (at_mapUpdate; refine wpList_put _ rfl (.tmp 77) (.tmp 82) (.const (.bool true)) rfl MKIB lb nn _ rfl (H7.1.keep (M6.trans ku5)) (by unfold maxLen; omega) (A + Z) rfl (wfI_of jo jo) true rfl trivial ?_; intro w4 Hj Hk)
  rw [isK_put] at Hj
  have Hr : Turn (fun i => i = 5) c1 W c3 w4 := (HE.out.keep (M6.trans (show Keeps wb wb.drew from (Keeps.refl _).drew))).trans (grown_turn Hk (fun b e => by cases e; exact H7.2))
  have MZ := ((HS.out.keep M6).keep (show Keeps wb wb.drew from (Keeps.refl _).drew)).grown Hk HF.out.2.2.1 (fun e => HF.out.2.2.1 (by have := HF.out; exact absurd e (by have h1 := HL.out.1.lt; omega))) HF.out.2.2.2 HF.out.1 HF.out.2.1
  have P0 := MM.out.turn Hr jd
  have P1 := (KP.out.turn Hr jd jd jd jd).keep
  have M7 := jH Hr
  have Mx : Hid (∃ nn, nn ≤ nL + 1 + 2 * (k + 1) ∧ MIBC c3 w4 lb nn (ks ++ ST :: (SL.take (k + 1)).flatMap keysP)) := jH ⟨nn + 1, by omega, by rw [Ha.out, H6.out]; refine ⟨?_, H7.2⟩; (have e : ks ++ ST :: ((SL.take k).flatMap keysP ++ [A + Z]) = ks ++ ST :: (SL.take k).flatMap keysP ++ [A + Z] := by simp); rw [e]; exact Hj⟩
  obtain ⟨Hh, Px, P2⟩ := hid3 MZ P0 P1
  clear Hj Hk Hr H7 MZ P0 P1 M6 H1 Hb KF KU KV KW KX KG KH KI KY KZ M0 M1 M2 M3 KJ M4 M5 u0 u1 x1 x2 x7 x8 q0 q1 q2 q3 q4 q5 q6 q7 r0 l6 l7
  obtain ⟨u0, u1, x1, x2, x7, x8, q0, q1, q2, q3, q4, q5, q6, q7, r0, l6, l7⟩ := Hh.out
  by_cases Hf : K = 24
  case neg =>
   have Py : (K == 24) = false := by simpa using Hf
   have He : spB m om f (nth SL k) = false := by rw [← Hc.out]; unfold spB; rw [if_neg Hl, if_neg Hf, if_neg Hm]
   have H9 := jH He
   clear He Hf Hm Hl hst9
   refine wp_region_held_drew (S := MkS w.heap.size (w.heap.size + 1) xb b6 b7 ob lb f ⟨A, Z, ⟨K, D, A2, B, N, Lg⟩⟩ (.slice (some ⟨fb, Hs, none⟩) m.Funcs.length H8) v2) jx (Hh.out.keep ((Keeps.refl _).drew)) (fun H0 => ?_)
   refine takeE 0 H0 ?_
   refine takeE 1 H0 ?_
   refine takeE 2 H0 ?_
   refine takeE 3 H0 ?_
   refine takeE 4 H0 ?_
   refine wpAnyH_take (i := 5) (oi := ?oq2x5) (v := undef) ?hq2x5 ?aq2x5 ?bq2x5 ?cq2x5 ?qq2x5 (Or.inr ⟨?wq2x5, rfl⟩) H0 ?rq2x5
   case hq2x5 => (simp only [jT]; try rfl)
   case aq2x5 => kernel_rfl
   case bq2x5 => kernel_rfl
   case cq2x5 => kernel_rfl
   case qq2x5 => exact fun _ _ _ h => h
   case wq2x5 => rfl
   try simp only [Act.put, jS]
   refine wpAnyH_take (i := 6) (oi := ?oq3x6) (v := undef) ?hq3x6 ?aq3x6 ?bq3x6 ?cq3x6 ?qq3x6 (Or.inr ⟨?wq3x6, rfl⟩) H0 ?rq3x6
   case hq3x6 => (simp only [jT]; try rfl)
   case aq3x6 => kernel_rfl
   case bq3x6 => kernel_rfl
   case cq3x6 => kernel_rfl
   case qq3x6 => exact fun _ _ _ h => h
   case wq3x6 => rfl
   try simp only [Act.put, jS]
   refine wpAnyH_take (i := 7) (oi := ?oq4x7) (v := undef) ?hq4x7 ?aq4x7 ?bq4x7 ?cq4x7 ?qq4x7 (Or.inr ⟨?wq4x7, rfl⟩) H0 ?rq4x7
   case hq4x7 => (simp only [jT]; try rfl)
   case aq4x7 => kernel_rfl
   case bq4x7 => kernel_rfl
   case cq4x7 => kernel_rfl
   case qq4x7 => exact fun _ _ _ h => h
   case wq4x7 => rfl
   try simp only [Act.put, jS]
   refine wpAnyH_take (i := 8) (oi := ?oq5x8) (v := undef) ?hq5x8 ?aq5x8 ?bq5x8 ?cq5x8 ?qq5x8 (Or.inr ⟨?wq5x8, rfl⟩) H0 ?rq5x8
   case hq5x8 => (simp only [jT]; try rfl)
   case aq5x8 => kernel_rfl
   case bq5x8 => kernel_rfl
   case cq5x8 => kernel_rfl
   case qq5x8 => exact fun _ _ _ h => h
   case wq5x8 => rfl
   try simp only [Act.put, jS]
   refine wpAnyH_take (i := 9) (oi := ?oq6x9) (v := undef) ?hq6x9 ?aq6x9 ?bq6x9 ?cq6x9 ?qq6x9 (Or.inr ⟨?wq6x9, rfl⟩) H0 ?rq6x9
   case hq6x9 => (simp only [jT]; try rfl)
   case aq6x9 => kernel_rfl
   case bq6x9 => kernel_rfl
   case cq6x9 => kernel_rfl
   case qq6x9 => exact fun _ _ _ h => h
   case wq6x9 => rfl
   try simp only [Act.put, jS]
   refine wpAnyH_take (i := 10) (oi := ?oq7x10) (v := undef) ?hq7x10 ?aq7x10 ?bq7x10 ?cq7x10 ?qq7x10 (Or.inr ⟨?wq7x10, rfl⟩) H0 ?rq7x10
   case hq7x10 => (simp only [jT]; try rfl)
   case aq7x10 => kernel_rfl
   case bq7x10 => kernel_rfl
   case cq7x10 => kernel_rfl
   case qq7x10 => exact fun _ _ _ h => h
   case wq7x10 => rfl
   try simp only [Act.put, jS]
   refine wpAnyH_take (i := 11) (oi := ?oq8x11) (v := undef) ?hq8x11 ?aq8x11 ?bq8x11 ?cq8x11 ?qq8x11 (Or.inr ⟨?wq8x11, rfl⟩) H0 ?rq8x11
   case hq8x11 => (simp only [jT]; try rfl)
   case aq8x11 => kernel_rfl
   case bq8x11 => kernel_rfl
   case cq8x11 => kernel_rfl
   case qq8x11 => exact fun _ _ _ h => h
   case wq8x11 => rfl
   try simp only [Act.put, jS]
   refine wpAnyH_take (i := 12) (oi := ?oq9x12) (v := undef) ?hq9x12 ?aq9x12 ?bq9x12 ?cq9x12 ?qq9x12 (Or.inr ⟨?wq9x12, rfl⟩) H0 ?rq9x12
   case hq9x12 => (simp only [jT]; try rfl)
   case aq9x12 => kernel_rfl
   case bq9x12 => kernel_rfl
   case cq9x12 => kernel_rfl
   case qq9x12 => exact fun _ _ _ h => h
   case wq9x12 => rfl
   try simp only [Act.put, jS]
   refine wpAnyH_take (i := 13) (oi := ?oq10x13) (v := undef) ?hq10x13 ?aq10x13 ?bq10x13 ?cq10x13 ?qq10x13 (Or.inr ⟨?wq10x13, rfl⟩) H0 ?rq10x13
   case hq10x13 => (simp only [jT]; try rfl)
   case aq10x13 => kernel_rfl
   case bq10x13 => kernel_rfl
   case cq10x13 => kernel_rfl
   case qq10x13 => exact fun _ _ _ h => h
   case wq10x13 => rfl
   try simp only [Act.put, jS]
   refine wpAnyH_take (i := 14) (oi := ?oq11x14) (v := undef) ?hq11x14 ?aq11x14 ?bq11x14 ?cq11x14 ?qq11x14 (Or.inr ⟨?wq11x14, rfl⟩) H0 ?rq11x14
   case hq11x14 => (simp only [jT]; try rfl)
   case aq11x14 => kernel_rfl
   case bq11x14 => kernel_rfl
   case cq11x14 => kernel_rfl
   case qq11x14 => exact fun _ _ _ h => h
   case wq11x14 => rfl
   try simp only [Act.put, jS]
   refine takeE 15 H0 ?_
   refine takeE 16 H0 ?_
   refine wpAnyH_take (i := 17) (oi := ?oq12x17) (v := undef) ?hq12x17 ?aq12x17 ?bq12x17 ?cq12x17 ?qq12x17 (Or.inr ⟨?wq12x17, rfl⟩) H0 ?rq12x17
   case hq12x17 => (simp only [jT]; try rfl)
   case aq12x17 => kernel_rfl
   case bq12x17 => kernel_rfl
   case cq12x17 => kernel_rfl
   case qq12x17 => exact fun _ _ _ h => h
   case wq12x17 => rfl
   try simp only [Act.put, jS]
   refine wpAnyH_take (i := 18) (oi := ?oq13x18) (v := undef) ?hq13x18 ?aq13x18 ?bq13x18 ?cq13x18 ?qq13x18 (Or.inr ⟨?wq13x18, rfl⟩) H0 ?rq13x18
   case hq13x18 => (simp only [jT]; try rfl)
   case aq13x18 => kernel_rfl
   case bq13x18 => kernel_rfl
   case cq13x18 => kernel_rfl
   case qq13x18 => exact fun _ _ _ h => h
   case wq13x18 => rfl
   try simp only [Act.put, jS]
   refine wpAnyH_take (i := 19) (oi := ?oq14x19) (v := undef) ?hq14x19 ?aq14x19 ?bq14x19 ?cq14x19 ?qq14x19 (Or.inr ⟨?wq14x19, rfl⟩) H0 ?rq14x19
   case hq14x19 => (simp only [jT]; try rfl)
   case aq14x19 => kernel_rfl
   case bq14x19 => kernel_rfl
   case cq14x19 => kernel_rfl
   case qq14x19 => exact fun _ _ _ h => h
   case wq14x19 => rfl
   try simp only [Act.put, jS]
   refine wpAnyH_take (i := 20) (oi := ?oq15x20) (v := undef) ?hq15x20 ?aq15x20 ?bq15x20 ?cq15x20 ?qq15x20 (Or.inr ⟨?wq15x20, rfl⟩) H0 ?rq15x20
   case hq15x20 => (simp only [jT]; try rfl)
   case aq15x20 => kernel_rfl
   case bq15x20 => kernel_rfl
   case cq15x20 => kernel_rfl
   case qq15x20 => exact fun _ _ _ h => h
   case wq15x20 => rfl
   try simp only [Act.put, jS]
   refine wpAnyH_take (i := 21) (oi := ?oq16x21) (v := undef) ?hq16x21 ?aq16x21 ?bq16x21 ?cq16x21 ?qq16x21 (Or.inr ⟨?wq16x21, rfl⟩) H0 ?rq16x21
   case hq16x21 => (simp only [jT]; try rfl)
   case aq16x21 => kernel_rfl
   case bq16x21 => kernel_rfl
   case cq16x21 => kernel_rfl
   case qq16x21 => exact fun _ _ _ h => h
   case wq16x21 => rfl
   try simp only [Act.put, jS]
   refine wpAnyH_take (i := 22) (oi := ?oq17x22) (v := undef) ?hq17x22 ?aq17x22 ?bq17x22 ?cq17x22 ?qq17x22 (Or.inr ⟨?wq17x22, rfl⟩) H0 ?rq17x22
   case hq17x22 => (simp only [jT]; try rfl)
   case aq17x22 => kernel_rfl
   case bq17x22 => kernel_rfl
   case cq17x22 => kernel_rfl
   case qq17x22 => exact fun _ _ _ h => h
   case wq17x22 => rfl
   try simp only [Act.put, jS]
   refine wpAnyH_take (i := 23) (oi := ?oq18x23) (v := undef) ?hq18x23 ?aq18x23 ?bq18x23 ?cq18x23 ?qq18x23 (Or.inr ⟨?wq18x23, rfl⟩) H0 ?rq18x23
   case hq18x23 => (simp only [jT]; try rfl)
   case aq18x23 => kernel_rfl
   case bq18x23 => kernel_rfl
   case cq18x23 => kernel_rfl
   case qq18x23 => exact fun _ _ _ h => h
   case wq18x23 => rfl
   try simp only [Act.put, jS]
   refine wpAnyH_take (i := 24) (oi := ?oq19x24) (v := undef) ?hq19x24 ?aq19x24 ?bq19x24 ?cq19x24 ?qq19x24 (Or.inr ⟨?wq19x24, rfl⟩) H0 ?rq19x24
   case hq19x24 => (simp only [jT]; try rfl)
   case aq19x24 => kernel_rfl
   case bq19x24 => kernel_rfl
   case cq19x24 => kernel_rfl
   case qq19x24 => exact fun _ _ _ h => h
   case wq19x24 => rfl
   try simp only [Act.put, jS]
   refine wpAnyH_take (i := 25) (oi := ?oq20x25) (v := undef) ?hq20x25 ?aq20x25 ?bq20x25 ?cq20x25 ?qq20x25 (Or.inr ⟨?wq20x25, rfl⟩) H0 ?rq20x25
   case hq20x25 => (simp only [jT]; try rfl)
   case aq20x25 => kernel_rfl
   case bq20x25 => kernel_rfl
   case cq20x25 => kernel_rfl
   case qq20x25 => exact fun _ _ _ h => h
   case wq20x25 => rfl
   try simp only [Act.put, jS]
   refine wpAnyH_take (i := 26) (oi := ?oq21x26) (v := undef) ?hq21x26 ?aq21x26 ?bq21x26 ?cq21x26 ?qq21x26 (Or.inr ⟨?wq21x26, rfl⟩) H0 ?rq21x26
   case hq21x26 => (simp only [jT]; try rfl)
   case aq21x26 => kernel_rfl
   case bq21x26 => kernel_rfl
   case cq21x26 => kernel_rfl
   case qq21x26 => exact fun _ _ _ h => h
   case wq21x26 => rfl
   try simp only [Act.put, jS]
   refine wpAnyH_take (i := 27) (oi := ?oq22x27) (v := undef) ?hq22x27 ?aq22x27 ?bq22x27 ?cq22x27 ?qq22x27 (Or.inr ⟨?wq22x27, rfl⟩) H0 ?rq22x27
   case hq22x27 => (simp only [jT]; try rfl)
   case aq22x27 => kernel_rfl
   case bq22x27 => kernel_rfl
   case cq22x27 => kernel_rfl
   case qq22x27 => exact fun _ _ _ h => h
   case wq22x27 => rfl
   try simp only [Act.put, jS]
   refine wpAnyH_take (i := 28) (oi := ?oq23x28) (v := undef) ?hq23x28 ?aq23x28 ?bq23x28 ?cq23x28 ?qq23x28 (Or.inr ⟨?wq23x28, rfl⟩) H0 ?rq23x28
   case hq23x28 => (simp only [jT]; try rfl)
   case aq23x28 => kernel_rfl
   case bq23x28 => kernel_rfl
   case cq23x28 => kernel_rfl
   case qq23x28 => exact fun _ _ _ h => h
   case wq23x28 => rfl
   try simp only [Act.put, jS]
   refine takeE 29 H0 ?_
   refine wpAnyH_done jx ?_ _
   clear H0
   go_wp2_with fail
   go_roundw
   case rel => exact ⟨k + 1, c3, by omega, by go_num, jH (M7.out.keep ku5), jH (by obtain ⟨nn, h1, h2⟩ := Mx.out; exact ⟨nn, h1, h2.keep ku5⟩), jH (fun i hi => by
     by_cases q : i = k
     ·subst q; exact H9.out
     exact HC.out i jo)⟩
   case measure => exact jm
  case pos =>
  have Py : (K == 24) = true := by simpa using Hf
  obtain ⟨tv, ⟨Pz, KK, My, P3, P4, P5, Mz⟩, MA⟩ := Pc.out
  subst My
  have hN0 := Mn.out Hf
  obtain ⟨TN, rfl⟩ : ∃ n : Nat, N = n := ⟨N.toNat, by omega⟩
  obtain ⟨TL, Kd⟩ := jE (m.Tables.length)
  rw [← Kd] at x2 Mz Hh
  have H4 : spB m om f (nth SL k) = (decide ((TN : Int) < (TL : Int)) && anyN (fun k => !decide (om (nth (nth m.Tables TN) k) = some (f : Int))) (nth m.Tables TN).length) := by rw [← Hc.out, Kd]; unfold spB; rw [if_neg Hl, if_pos Hf]; rfl
  by_cases hTN : TN < TL
  case neg =>
   have tN : decide ((TN : Int) < (TL : Int)) = false := decide_eq_false jo
   have H9 := jH (show spB m om f (nth SL k) = false by rw [H4, tN]; rfl)
   clear Hf Hm Hl hst9 H4 Kd P3 P4 P5 Mz MA
   refine wp_region_held_drew (S := MkS w.heap.size (w.heap.size + 1) xb b6 b7 ob lb f ⟨A, Z, ⟨K, D, A2, B, (TN : Int), Lg⟩⟩ (.slice (some ⟨fb, Hs, none⟩) m.Funcs.length H8) (.slice Pz TL KK)) jx (Hh.out.keep ((Keeps.refl _).drew)) (fun H0 => ?_)
   refine takeE 0 H0 ?_
   refine takeE 1 H0 ?_
   refine takeE 2 H0 ?_
   refine takeE 3 H0 ?_
   refine takeE 4 H0 ?_
   refine takeE 5 H0 ?_
   refine takeE 6 H0 ?_
   refine takeE 7 H0 ?_
   refine takeE 8 H0 ?_
   refine takeE 9 H0 ?_
   refine takeE 10 H0 ?_
   refine takeE 11 H0 ?_
   refine takeE 12 H0 ?_
   refine takeE 13 H0 ?_
   refine takeE 14 H0 ?_
   refine takeE 15 H0 ?_
   refine takeE 16 H0 ?_
   refine wpAnyH_take (i := 17) (oi := ?oq24x17) (v := undef) ?hq24x17 ?aq24x17 ?bq24x17 ?cq24x17 ?qq24x17 (Or.inr ⟨?wq24x17, rfl⟩) H0 ?rq24x17
   case hq24x17 => (simp only [jT]; try rfl)
   case aq24x17 => kernel_rfl
   case bq24x17 => kernel_rfl
   case cq24x17 => kernel_rfl
   case qq24x17 => exact fun _ _ _ h => h
   case wq24x17 => rfl
   try simp only [Act.put, jS]
   refine wpAnyH_take (i := 18) (oi := ?oq25x18) (v := undef) ?hq25x18 ?aq25x18 ?bq25x18 ?cq25x18 ?qq25x18 (Or.inr ⟨?wq25x18, rfl⟩) H0 ?rq25x18
   case hq25x18 => (simp only [jT]; try rfl)
   case aq25x18 => kernel_rfl
   case bq25x18 => kernel_rfl
   case cq25x18 => kernel_rfl
   case qq25x18 => exact fun _ _ _ h => h
   case wq25x18 => rfl
   try simp only [Act.put, jS]
   refine wpAnyH_take (i := 19) (oi := ?oq26x19) (v := undef) ?hq26x19 ?aq26x19 ?bq26x19 ?cq26x19 ?qq26x19 (Or.inr ⟨?wq26x19, rfl⟩) H0 ?rq26x19
   case hq26x19 => (simp only [jT]; try rfl)
   case aq26x19 => kernel_rfl
   case bq26x19 => kernel_rfl
   case cq26x19 => kernel_rfl
   case qq26x19 => exact fun _ _ _ h => h
   case wq26x19 => rfl
   try simp only [Act.put, jS]
   refine wpAnyH_take (i := 20) (oi := ?oq27x20) (v := undef) ?hq27x20 ?aq27x20 ?bq27x20 ?cq27x20 ?qq27x20 (Or.inr ⟨?wq27x20, rfl⟩) H0 ?rq27x20
   case hq27x20 => (simp only [jT]; try rfl)
   case aq27x20 => kernel_rfl
   case bq27x20 => kernel_rfl
   case cq27x20 => kernel_rfl
   case qq27x20 => exact fun _ _ _ h => h
   case wq27x20 => rfl
   try simp only [Act.put, jS]
   refine wpAnyH_take (i := 21) (oi := ?oq28x21) (v := undef) ?hq28x21 ?aq28x21 ?bq28x21 ?cq28x21 ?qq28x21 (Or.inr ⟨?wq28x21, rfl⟩) H0 ?rq28x21
   case hq28x21 => (simp only [jT]; try rfl)
   case aq28x21 => kernel_rfl
   case bq28x21 => kernel_rfl
   case cq28x21 => kernel_rfl
   case qq28x21 => exact fun _ _ _ h => h
   case wq28x21 => rfl
   try simp only [Act.put, jS]
   refine wpAnyH_take (i := 22) (oi := ?oq29x22) (v := undef) ?hq29x22 ?aq29x22 ?bq29x22 ?cq29x22 ?qq29x22 (Or.inr ⟨?wq29x22, rfl⟩) H0 ?rq29x22
   case hq29x22 => (simp only [jT]; try rfl)
   case aq29x22 => kernel_rfl
   case bq29x22 => kernel_rfl
   case cq29x22 => kernel_rfl
   case qq29x22 => exact fun _ _ _ h => h
   case wq29x22 => rfl
   try simp only [Act.put, jS]
   refine wpAnyH_take (i := 23) (oi := ?oq30x23) (v := undef) ?hq30x23 ?aq30x23 ?bq30x23 ?cq30x23 ?qq30x23 (Or.inr ⟨?wq30x23, rfl⟩) H0 ?rq30x23
   case hq30x23 => (simp only [jT]; try rfl)
   case aq30x23 => kernel_rfl
   case bq30x23 => kernel_rfl
   case cq30x23 => kernel_rfl
   case qq30x23 => exact fun _ _ _ h => h
   case wq30x23 => rfl
   try simp only [Act.put, jS]
   refine wpAnyH_take (i := 24) (oi := ?oq31x24) (v := undef) ?hq31x24 ?aq31x24 ?bq31x24 ?cq31x24 ?qq31x24 (Or.inr ⟨?wq31x24, rfl⟩) H0 ?rq31x24
   case hq31x24 => (simp only [jT]; try rfl)
   case aq31x24 => kernel_rfl
   case bq31x24 => kernel_rfl
   case cq31x24 => kernel_rfl
   case qq31x24 => exact fun _ _ _ h => h
   case wq31x24 => rfl
   try simp only [Act.put, jS]
   refine wpAnyH_take (i := 25) (oi := ?oq32x25) (v := undef) ?hq32x25 ?aq32x25 ?bq32x25 ?cq32x25 ?qq32x25 (Or.inr ⟨?wq32x25, rfl⟩) H0 ?rq32x25
   case hq32x25 => (simp only [jT]; try rfl)
   case aq32x25 => kernel_rfl
   case bq32x25 => kernel_rfl
   case cq32x25 => kernel_rfl
   case qq32x25 => exact fun _ _ _ h => h
   case wq32x25 => rfl
   try simp only [Act.put, jS]
   refine wpAnyH_take (i := 26) (oi := ?oq33x26) (v := undef) ?hq33x26 ?aq33x26 ?bq33x26 ?cq33x26 ?qq33x26 (Or.inr ⟨?wq33x26, rfl⟩) H0 ?rq33x26
   case hq33x26 => (simp only [jT]; try rfl)
   case aq33x26 => kernel_rfl
   case bq33x26 => kernel_rfl
   case cq33x26 => kernel_rfl
   case qq33x26 => exact fun _ _ _ h => h
   case wq33x26 => rfl
   try simp only [Act.put, jS]
   refine wpAnyH_take (i := 27) (oi := ?oq34x27) (v := undef) ?hq34x27 ?aq34x27 ?bq34x27 ?cq34x27 ?qq34x27 (Or.inr ⟨?wq34x27, rfl⟩) H0 ?rq34x27
   case hq34x27 => (simp only [jT]; try rfl)
   case aq34x27 => kernel_rfl
   case bq34x27 => kernel_rfl
   case cq34x27 => kernel_rfl
   case qq34x27 => exact fun _ _ _ h => h
   case wq34x27 => rfl
   try simp only [Act.put, jS]
   refine wpAnyH_take (i := 28) (oi := ?oq35x28) (v := undef) ?hq35x28 ?aq35x28 ?bq35x28 ?cq35x28 ?qq35x28 (Or.inr ⟨?wq35x28, rfl⟩) H0 ?rq35x28
   case hq35x28 => (simp only [jT]; try rfl)
   case aq35x28 => kernel_rfl
   case bq35x28 => kernel_rfl
   case cq35x28 => kernel_rfl
   case qq35x28 => exact fun _ _ _ h => h
   case wq35x28 => rfl
   try simp only [Act.put, jS]
   refine takeE 29 H0 ?_
   refine wpAnyH_done jx ?_ _
   clear H0
   go_wp2_with fail
   go_roundw
   case rel => exact ⟨k + 1, c3, by omega, by go_num, jH (M7.out.keep ku5), jH (by obtain ⟨nn, h1, h2⟩ := Mx.out; exact ⟨nn, h1, h2.keep ku5⟩), jH (fun i hi => by
     by_cases q : i = k
     ·subst q; exact H9.out
     exact HC.out i jo)⟩
   case measure => exact jm
  case pos =>
  have tN : decide ((TN : Int) < (TL : Int)) = true := decide_eq_true jo
  have PA : (TN : Int) < (TL : Int) := by omega
  obtain ⟨tb, MB, rfl, tc⟩ := Mz jo
  have Hn := MA TN (by rw [← Kd]; exact hTN)
  obtain ⟨ra, K7, MC⟩ := Arr.form Hn
  have y1 : w4.cell? ⟨tb, MB + TN, none⟩ = some (.slice ra (nth m.Tables TN).length K7) := by have z := P2.out.cell (tc TN 0 hTN jo); simp only [Nat.mul_one, Nat.add_zero] at z; rw [z, MC]
  obtain ⟨RN, M8⟩ := jE ((nth m.Tables TN).length)
  obtain ⟨XB, K8⟩ := jE (anyN (fun k => !decide (om (nth (nth m.Tables TN) k) = some (f : Int))) RN)
  have KL : ∀ W', Keeps w4 W' → Calls Tryd.prog 48 #[.slice ra RN K7, .func (.func 56) #[] #[.pointer (some ⟨w.heap.size, 0, none⟩), .pointer (some ⟨w.heap.size + 1, 0, none⟩)]] W' fun e w' => e = .returned (.bool XB) ∧ Keeps W' w' := fun W' hk' => by
   rw [K8]
   have hr := Hn.keep (P2.out.trans hk')
   rw [MC, ← M8] at hr
   refine containsFunc_int _ RN (fun i _ => .int .i64 (nth (nth m.Tables TN) i)) _ 56 _ W' hr (enters_of Tryd.func56 jx rfl) ?_
   intro W2 i hi MD
   have P6 := hk'.trans MD
   have s2 := Hh.out.keep P6
   have hin := (Pf.out TN (by rw [← Kd]; exact hTN)).2 (nth (nth m.Tables TN) i) (by rw [nth_eq (nth m.Tables TN) i (by rw [← M8]; exact hi)]; exact List.getElem_mem _)
   exact (mark1_any (n := nO) (om := om) s2.1 s2.2.1 s2.2.2.2.2.1 (Px.out.1.keep P6) (wfI_of jo jo)).mono fun e w' ⟨h1, h2⟩ => ⟨h1, h2 ▸ Keeps.refl _⟩
  rw [← M8] at y1 H4
  rw [tN, ← K8, Bool.true_and] at H4
  obtain ⟨M9, Ho⟩ := hid2 KL H4
  clear KL H4 K8 MC Hn M8 P3 P4 P5 tc MA Hf Hm Hl hst9 Kd
  refine wp_region_held_drew (S := fun w' => Keeps w4 w' ∧ MkS w.heap.size (w.heap.size + 1) xb b6 b7 ob lb f ⟨A, Z, ⟨K, D, A2, B, (TN : Int), Lg⟩⟩ (.slice (some ⟨fb, Hs, none⟩) m.Funcs.length H8) (.slice (some ⟨tb, MB, none⟩) TL KK) w' ∧ w'.cell? ⟨tb, MB + TN, none⟩ = some (.slice ra RN K7)) jx ⟨(Keeps.refl _).drew, Hh.out.keep ((Keeps.refl _).drew), y1⟩ (fun H0 => ?_)
  refine takeE 0 H0 ?_
  refine takeE 1 H0 ?_
  refine takeE 2 H0 ?_
  refine takeE 3 H0 ?_
  refine takeE 4 H0 ?_
  refine takeE 5 H0 ?_
  refine takeE 6 H0 ?_
  refine takeE 7 H0 ?_
  refine takeE 8 H0 ?_
  refine takeE 9 H0 ?_
  refine takeE 10 H0 ?_
  refine takeE 11 H0 ?_
  refine takeE 12 H0 ?_
  refine takeE 13 H0 ?_
  refine takeE 14 H0 ?_
  refine takeE 15 H0 ?_
  refine takeE 16 H0 ?_
  refine takeE 17 H0 ?_
  refine takeE 18 H0 ?_
  refine takeE 19 H0 ?_
  refine takeE 20 H0 ?_
  refine takeE 21 H0 ?_
  refine takeE 22 H0 ?_
  refine takeE 23 H0 ?_
  refine takeE 24 H0 ?_
  refine takeE 25 H0 ?_
  refine takeE 26 H0 ?_
  refine takeE 27 H0 ?_
  refine wpAnyH_ready (rs := [28]) jx (by simp) ?_
  refine AllReadyH.cons (o := ?ocall) ?hcall ?scall ?mcall
  case hcall => (simp only [jT]; try rfl)
  case mcall => exact AllReadyH.nil
  case scall =>
  intro K' hK
  go_simp
  go_at_call 48
  refine (M9.out _ H0.1).mono ?_
  rintro e wz ⟨rfl, K9⟩
  have Hp := (show Keeps w4 wz from H0.1.trans K9)
  obtain ⟨hh8, PB⟩ := hid2 Hp H0.2.1
  have PC := H0.2.2
  refine goOn hK ⟨Hp, PB.out.keep K9, K9.cell PC⟩ (fun hHeld2 => ?_)
  clear hK K' H0
  have H0 := hHeld2
  clear hHeld2
  refine takeE 29 H0 ?_
  refine wpAnyH_done jx ?_ _
  clear H0
  cases XB with
  | true =>
   go_wp2_with fail
   go_ret
   exact MarkAns.bad (anyN_yes hlt Ho.out) (((Kj.out _).trans M7.out).keep Hp)
  | false =>
   have H9 := Ho
   go_wp2_with fail
   go_roundw
   case rel => exact ⟨k + 1, c3, by omega, by go_num, jH (M7.out.keep Hp), jH (by obtain ⟨nn, h1, h2⟩ := Mx.out; exact ⟨nn, h1, h2.keep Hp⟩), jH (fun i hi => by
     by_cases q : i = k
     ·subst q; exact H9.out
     exact HC.out i jo)⟩
   case measure => exact jm
 case neg =>
 have Ka : stN K = false := by simpa using hst9
 rw [Ka] at H5
 have H2 : keysP ⟨A, Z, ⟨K, D, A2, B, N, Lg⟩⟩ = [] := by unfold keysP; rw [if_neg Hl, if_neg hst9]
 have Hf : K ≠ 24 := fun e => hst9 (by rw [e]; decide)
 have P7 : Hid (∃ nn, nn ≤ nL + 1 + 2 * (k + 1) ∧ MIBC c3 wq lb nn (ks ++ ST :: (SL.take (k + 1)).flatMap keysP)) := jH (by obtain ⟨nn, h1, h2⟩ := KT.out; exact ⟨nn, by omega, by rw [Ha.out, H2, List.append_nil]; exact h2⟩)
 clear H2
 by_cases Hm : K = 23
 case pos =>
  have PD : (K == 23) = true := by simpa using Hm
  obtain ⟨XB, K8⟩ := jE (anyN (fnP m (A + N)) m.Funcs.length)
  have He : spB m om f (nth SL k) = !XB := by rw [← Hc.out, K8]; unfold spB; rw [if_neg Hl, if_neg Hf, if_pos Hm]
  have KL : ∀ W', Keeps wq W' → Calls Tryd.prog 57 #[.slice (some ⟨fb, Hs, none⟩) m.Funcs.length H8, .func (.func 58) #[] #[.pointer (some ⟨b7, 0, none⟩)]] W' fun e w' => e = .returned (.bool XB) ∧ Keeps W' w' := fun W' hk' => by rw [K8]; (refine containsFunc_fun _ m.Funcs.length (fun i j => (nth m.Funcs i).c j) _ 58 _ W' (Arr.keep Pb.out (Ps.out.keep.trans hk')) (enters_of Tryd.func58 jx rfl) ?_); intro W2 i hi MD; have s2 := HS.out.keep (hk'.trans MD); exact mark2_any s2.2.2.2.2.2.2.2.2.2.2.2.2.2.2.1
  obtain ⟨M9, Ho⟩ := hid2 KL He
  clear KL He K8 Hm Hf hst9 Ka Hl
  cases XB with
  | true =>
   have H9 := Ho
   go_wp2_with (first | (go_at_call 54; refine (Hg.out _).mono ?_; rintro e wa ⟨rfl, H1⟩; obtain ⟨Hu, HK, HN, HP, HQ, Hv, Hw, Hx, HR, HU, HV, HY, HZ, K0, Hy, K1, K2⟩ := HS.out.keep H1) | (go_at_call 53; refine (H5.out _).mono ?_; rintro e wb ⟨rfl, Hb⟩; obtain ⟨KF, KU, KV, KW, KX, KG, KH, KI, KY, KZ, M0, M1, M2, M3, KJ, M4, M5⟩ := HS.out.keep (H1.trans Hb)) | (go_at_call 57; refine (M9.out _ (H1.trans Hb)).mono ?_; rintro e wz ⟨rfl, K9⟩))
   have Hp : Keeps wq wz := (H1.trans Hb).trans K9
   go_roundw
   case rel => exact ⟨k + 1, c3, by omega, by go_num, jH (HE.out.keep Hp), jH (by obtain ⟨nn, h1, h2⟩ := P7.out; exact ⟨nn, h1, h2.keep Hp⟩), jH (fun i hi => by
     by_cases q : i = k
     ·subst q; exact H9.out
     exact HC.out i jo)⟩
   case measure => exact jm
  | false =>
   go_wp2_with (first | (go_at_call 54; refine (Hg.out _).mono ?_; rintro e wa ⟨rfl, H1⟩; obtain ⟨Hu, HK, HN, HP, HQ, Hv, Hw, Hx, HR, HU, HV, HY, HZ, K0, Hy, K1, K2⟩ := HS.out.keep H1) | (go_at_call 53; refine (H5.out _).mono ?_; rintro e wb ⟨rfl, Hb⟩; obtain ⟨KF, KU, KV, KW, KX, KG, KH, KI, KY, KZ, M0, M1, M2, M3, KJ, M4, M5⟩ := HS.out.keep (H1.trans Hb)) | (go_at_call 57; refine (M9.out _ (H1.trans Hb)).mono ?_; rintro e wz ⟨rfl, K9⟩))
   go_ret
   exact MarkAns.bad (anyN_yes hlt Ho.out) (((Kj.out _).trans HE.out).keep ((H1.trans Hb).trans K9))
 case neg =>
 have PD : (K == 23) = false := by simpa using Hm
 have H9 := jH (show spB m om f (nth SL k) = false by rw [← Hc.out]; unfold spB; rw [if_neg Hl, if_neg Hf, if_neg Hm])
 clear Hm Hf hst9 Ka Hl
 go_wp2_with (first | (go_at_call 54; refine (Hg.out _).mono ?_; rintro e wa ⟨rfl, H1⟩; obtain ⟨Hu, HK, HN, HP, HQ, Hv, Hw, Hx, HR, HU, HV, HY, HZ, K0, Hy, K1, K2⟩ := HS.out.keep H1) | (go_at_call 53; refine (H5.out _).mono ?_; rintro e wb ⟨rfl, Hb⟩; obtain ⟨KF, KU, KV, KW, KX, KG, KH, KI, KY, KZ, M0, M1, M2, M3, KJ, M4, M5⟩ := HS.out.keep (H1.trans Hb)))
 have Hp : Keeps wq wb := H1.trans Hb
 go_roundw
 case rel => exact ⟨k + 1, c3, by omega, by go_num, jH (HE.out.keep Hp), jH (by obtain ⟨nn, h1, h2⟩ := P7.out; exact ⟨nn, h1, h2.keep Hp⟩), jH (fun i hi => by
   by_cases q : i = k
   ·subst q; exact H9.out
   exact HC.out i jo)⟩
 case measure => exact jm
end Go.Proofs.YtgdamggkaklhjaaDoor
