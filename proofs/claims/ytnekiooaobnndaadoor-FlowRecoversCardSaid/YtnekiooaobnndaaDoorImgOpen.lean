/-
 A map of the call's own as a function of its keys: made, looked up, written, gone through. No program is named here.
 A row of the call's own that a sort turns: elements of k cells, laid flat in one block; all else is as it was, but for new blocks. No program is named here.
 An argument of the type api.Image, opened: what it reads as is an image in memory; and how many bytes its lists may take.
-/
import Derived.Test.YtnekiooaobnndaaDoorOwn
import Derived.Maps.OwnSet
import Derived.Maps.RangeWalk
import Derived.Shelf.GgSortFunc.RowK
import Derived.Shelf.SlSortCmp.QuietGrown
import Derived.Test.YtnekiooaobnndaaDoorProg
import Derived.Test.YtnekiooaobnndaaDoorLift
import Derived.KernelRfl
section
namespace Go.Proofs.YtnekiooaobnndaaDoor.BH
open Go.RowKit Go.Maps Go.WideShapes
set_option maxRecDepth 100000
/-- a kind of map: how keys (of κ) and elements (of ν) stand in memory -/
structure MK (P : Program) (t k e : TypeId) {κ ν : Type} (enc : κ → Value) (wf : κ → Prop) (venc : ν → Value) (lit : ν → DataW Unit) (wv : ν → Prop) (z0 : ν) : Prop where
 K : Keyed P k
 ht : P.underlying t = some (.map k e)
 key : ∀ x, wf x → ∃ kl, keyOf P k (enc x) = some kl
 inv : ∀ v kl, keyOf P k v = some kl → ∃ x, wf x ∧ v = enc x
 inj : ∀ x y, enc x = enc y → x = y
 val : ∀ c, wv c → plainElem (H := Unit) P e (venc c) = some (lit c, [])
 vinv : ∀ v y, plainElem (H := Unit) P e v = some y → ∃ c, wv c ∧ v = venc c ∧ y = (lit c, [])
 linj : ∀ c d, lit c = lit d → c = d
 zero : ∀ w, (zeroValue e).run P w = .ok (venc z0) w
 wz : wv z0
section
variable {P : Program} {t k e : TypeId} {κ ν : Type} {enc : κ → Value} {wf : κ → Prop} {venc : ν → Value} {lit : ν → DataW Unit} {wv : ν → Prop} {z0 : ν}
/-- a reading of a map tells what m tells -/
def Tells (P : Program) (k : TypeId) (enc : κ → Value) (wf : κ → Prop) (lit : ν → DataW Unit) (D : DataW Unit) (m : κ → Option ν) : Prop :=
 ∀ x kl, wf x → keyOf P k (enc x) = some kl → Maps.has D kl = (m x).isSome ∧ ∀ c, m x = some c → ∀ zd, D.atKey kl zd = lit c
/-- block b is a map of at most n entries that answers as m -/
def MapF (P : Program) (k e : TypeId) (enc : κ → Value) (wf : κ → Prop) (lit : ν → DataW Unit) (w : World) (b n : Nat) (m : κ → Option ν) : Prop :=
 ∃ D : DataW Unit, w.ownsMap P k (plainElem P e) b n D ∧ Tells P k enc wf lit D m
theorem MapF.made (w : World) : MapF P k e enc wf lit (w.alloc (.map #[] 0)) w.heap.size 0 (fun _ => none) :=
 ⟨.map [], World.ownsMap_made w P k _, fun x kl _ _ => ⟨rfl, fun c h => by cases h⟩⟩
theorem MapF.grown {w w' : World} {b n : Nat} {m : κ → Option ν} (h : MapF P k e enc wf lit w b n m) {row : Option Nat} (hg : w.grownBy w' row) (hne : some b ≠ row) : MapF P k e enc wf lit w' b n m := by
 obtain ⟨D, h1, h2⟩ := h
 exact ⟨D, h1.kept hg hne, h2⟩
theorem MapF.keep {w w' : World} {b n : Nat} {m : κ → Option ν} (h : MapF P k e enc wf lit w b n m) (hk : Keeps w w') : MapF P k e enc wf lit w' b n m := h.grown (hk.grown none) (by simp)
theorem MapF.lt {w : World} {b n : Nat} {m : κ → Option ν} (h : MapF P k e enc wf lit w b n m) : b < w.heap.size := by
 obtain ⟨D, h1, -⟩ := h
 exact h1.lt
theorem MapF.mono {w : World} {b n n' : Nat} {m : κ → Option ν} (h : MapF P k e enc wf lit w b n m) (hn : n ≤ n') : MapF P k e enc wf lit w b n' m := by
 obtain ⟨D, h1, h2⟩ := h
 exact ⟨D, h1.mono hn, h2⟩
theorem MapF.look (M : MK P t k e enc wf venc lit wv z0) {w : World} {b n : Nat} {m : κ → Option ν} (h : MapF P k e enc wf lit w b n m) {x : κ} (hx : wf x) (c : Bool) :
  (Instr.lookup t (.map (some b)) (enc x) c).run P w = .ok (if c then .tuple #[venc ((m x).getD z0), .bool (m x).isSome] else venc ((m x).getD z0)) w ∧ wv ((m x).getD z0) := by
 obtain ⟨D, ⟨es, clock, hb, F, hs, rfl⟩, hm⟩ := h
 obtain ⟨kl, hkey⟩ := M.key x hx
 obtain ⟨h1, h2⟩ := hm x kl hx hkey
 rcases Maps.fit_look c M.K M.ht (M.zero w) hb F hkey with ⟨hrun, _, hat⟩ | ⟨e0, y, _, _, hrun, hRv, hat, _⟩
 ·have hf := Maps.has_false_of_atKey hat
  rw [hf] at h1
  have hn : m x = none := by
   cases hmx : m x with
   | none => rfl
   | some c => rw [hmx] at h1; cases h1
  rw [hn]
  exact ⟨hrun, M.wz⟩
 ·have hf := Maps.has_true_of_atKey hat
  rw [hf] at h1
  obtain ⟨c0, hc0⟩ := Option.isSome_iff_exists.1 h1.symm
  obtain ⟨c1, hw1, hv1, hy1⟩ := M.vinv _ _ hRv
  have e1 := h2 c0 hc0 .nil
  rw [hat .nil, hy1] at e1
  have e2 := M.linj _ _ e1
  subst e2
  rw [hc0]
  rw [hv1] at hrun
  exact ⟨hrun, hw1⟩
theorem MapF.put [DecidableEq κ] (M : MK P t k e enc wf venc lit wv z0) {w : World} {b n : Nat} {m : κ → Option ν} (h : MapF P k e enc wf lit w b n m) (hn : n < maxLen) {x : κ} (hx : wf x) {c : ν} (hc : wv c) :
  ∃ w', (Instr.mapUpdate t (.map (some b)) (enc x) (venc c)).run P w = .ok () w' ∧ MapF P k e enc wf lit w' b (n + 1) (fun y => if y = x then some c else m y) ∧ w.grownBy w' (some b) := by
 obtain ⟨D, h1, h2⟩ := h
 obtain ⟨kl, hkey⟩ := M.key x hx
 obtain ⟨w', hrun, ho, hg⟩ := h1.update M.K M.ht hn hkey (M.val c hc)
 refine ⟨w', hrun, ⟨_, ho, fun y kl' hy hkey' => ?_⟩, hg⟩
 by_cases q : y = x
 ·subst q
  obtain rfl := Option.some.inj (hkey.symm.trans hkey')
  dsimp only
  rw [if_pos rfl]
  refine ⟨Maps.has_put_same h1.isMap (M.K.key hkey) _, fun c' hc' zd => ?_⟩
  obtain rfl := Option.some.inj hc'
  exact Maps.atKey_put_same h1.isMap (M.K.key hkey) _ zd
 ·have hne : kl' ≠ kl := fun e => q (M.inj _ _ (M.K.inj hkey' (by rw [e]; exact hkey)))
  dsimp only
  rw [if_neg q, Maps.has_put_other hne]
  obtain ⟨g1, g2⟩ := h2 y kl' hy hkey'
  exact ⟨g1, fun c' hc' zd => by rw [Maps.atKey_put_other hne]; exact g2 c' hc' zd⟩
/-- a range over it: what is still to come -/
def MapRg (P : Program) (k e : TypeId) (enc : κ → Value) (wf : κ → Prop) (lit : ν → DataW Unit) (w : World) (b r n : Nat) (m : κ → Option ν) (left : κ → Bool) (cnt : Nat) : Prop :=
 ∃ (D : DataW Unit) (lf : Lit → Bool), w.ranges P k (plainElem P e) b r n D lf cnt ∧ Tells P k enc wf lit D m ∧ ∀ x kl, wf x → keyOf P k (enc x) = some kl → lf kl = left x
theorem MapRg.grown {w w' : World} {b r n cnt : Nat} {m : κ → Option ν} {left : κ → Bool} (h : MapRg P k e enc wf lit w b r n m left cnt) {row : Option Nat} (hg : w.grownBy w' row) (h1 : some b ≠ row) (h2 : some r ≠ row) : MapRg P k e enc wf lit w' b r n m left cnt := by
 obtain ⟨D, lf, g1, g2, g3⟩ := h
 exact ⟨D, lf, g1.kept hg h1 h2, g2, g3⟩
theorem MapRg.keep {w w' : World} {b r n cnt : Nat} {m : κ → Option ν} {left : κ → Bool} (h : MapRg P k e enc wf lit w b r n m left cnt) (hk : Keeps w w') : MapRg P k e enc wf lit w' b r n m left cnt := h.grown (hk.grown none) (by simp) (by simp)
theorem MapRg.lt {w : World} {b r n cnt : Nat} {m : κ → Option ν} {left : κ → Bool} (h : MapRg P k e enc wf lit w b r n m left cnt) : b < w.heap.size ∧ r < w.heap.size := by
 obtain ⟨D, lf, g1, -⟩ := h
 exact ⟨g1.owns.lt, g1.lt⟩
theorem MapF.range (M : MK P t k e enc wf venc lit wv z0) {w : World} {b n : Nat} {m : κ → Option ν} (h : MapF P k e enc wf lit w b n m) :
  ∃ w' cnt, (Instr.range t (.map (some b))).run P w = .ok (.pointer (some ⟨w.heap.size, 0, none⟩)) w' ∧ MapRg P k e enc wf lit w' b w.heap.size n m (fun x => (m x).isSome) cnt ∧ w.grownBy w' none ∧ w'.heap.size = w.heap.size + 1 := by
 obtain ⟨D, h1, h2⟩ := h
 obtain ⟨w', hrun, hr, hg, hs⟩ := h1.range M.K M.ht
 exact ⟨w', _, hrun, ⟨D, _, hr, h2, fun x kl hx hkey => (h2 x kl hx hkey).1⟩, hg, hs⟩
theorem MapRg.next [DecidableEq κ] (M : MK P t k e enc wf venc lit wv z0) {w : World} {b r n cnt : Nat} {m : κ → Option ν} {left : κ → Bool} (h : MapRg P k e enc wf lit w b r n m left cnt) (ty : TypeId) :
  (cnt = 0 ∧ (∀ x, wf x → left x = false) ∧ (Instr.next (.pointer (some ⟨r, 0, none⟩)) false ty).run P w = .ok (.tuple #[.bool false]) w) ∨
  ∃ x c w' cnt', wf x ∧ wv c ∧ left x = true ∧ m x = some c ∧ (Instr.next (.pointer (some ⟨r, 0, none⟩)) false ty).run P w = .ok (.tuple #[.bool true, enc x, venc c]) w' ∧
   MapRg P k e enc wf lit w' b r n m (fun z => left z && !decide (z = x)) cnt' ∧ cnt' < cnt ∧ w.grownBy w' (some r) ∧ w'.heap.size = w.heap.size ∧ (Instr.entry (.pointer (some ⟨r, 0, none⟩))).run P w' = .ok (.tuple #[enc x, venc c]) w' := by
 obtain ⟨D, lf, h1, h2, h3⟩ := h
 rcases h1.next M.K ty with ⟨h0, hl, hrun⟩ | ⟨key, v, kl, y, w', cnt', hkey, hlk, hv, hat, hrun, hrg, hlt, hgr, hsz, hen⟩
 ·refine Or.inl ⟨h0, fun x hx => ?_, hrun⟩
  obtain ⟨kl, hk⟩ := M.key x hx
  rw [← h3 x kl hx hk]
  exact hl kl
 ·obtain ⟨x, hx, rfl⟩ := M.inv _ _ hkey
  obtain ⟨c, hwc, rfl, rfl⟩ := M.vinv _ _ hv
  obtain ⟨g1, g2⟩ := h2 x kl hx hkey
  have hh := Maps.has_true_of_atKey hat
  rw [hh] at g1
  obtain ⟨c0, hc0⟩ := Option.isSome_iff_exists.1 g1.symm
  have e1 := g2 c0 hc0 .nil
  rw [hat .nil] at e1
  have e2 := M.linj _ _ e1
  subst e2
  refine Or.inr ⟨x, c, w', cnt', hx, hwc, by rw [← h3 x kl hx hkey]; exact hlk, hc0, hrun, ⟨D, _, hrg, h2, fun z kz hz hkz => ?_⟩, hlt, hgr, hsz, hen⟩
  show (lf kz && !kz.sameKey kl) = (left z && !decide (z = x))
  rw [h3 z kz hz hkz]
  congr 2
  by_cases q : z = x
  ·subst q
   obtain rfl := Option.some.inj (hkey.symm.trans hkz)
   rw [decide_eq_true rfl]
   exact WideAt.sameKey_self (M.K.key hkey)
  ·rw [decide_eq_false q]
   exact Maps.sameKey_ne fun e => q (M.inj _ _ (M.K.inj hkz (by rw [e]; exact hkey)))
end
section
variable {P : Program} {t k e : TypeId} {κ ν : Type} {enc : κ → Value} {wf : κ → Prop} {venc : ν → Value} {lit : ν → DataW Unit} {wv : ν → Prop} {z0 : ν}
variable (w : World) {ops : Array Oper} {rest : List Oper} {o : Oper} {a : Act} {Q : Exit → Act → World → Prop}
/-- 'v, ok := m[x]' at the operation -/
theorem wpList_look_ok (hg : o.guard = none) (m x : Operand) (hop : o.op = Op.lookup t m x true) (M : MK P t k e enc wf venc lit wv z0) (b n : Nat) (mf : κ → Option ν)
  (hm : a.eval m = .map (some b)) (h : MapF P k e enc wf lit w b n mf) (y : κ) (hx : a.eval x = enc y) (hy : wf y)
  (hK : wpList P ops Q rest (a.put o.dst (.tuple #[venc ((mf y).getD z0), .bool (mf y).isSome])) w) : wpList P ops Q (o :: rest) a w := by
 refine wpList_plain hg fun K' hK' => ?_
 have hrun := (h.look M hy true).1
 unfold Oper.wp
 simp [execOp, hop, hm, hx, hrun, Result.andThen]
 exact hK' _ _ hK
/-- 'm[x]' at the operation -/
theorem wpList_look (hg : o.guard = none) (m x : Operand) (hop : o.op = Op.lookup t m x false) (M : MK P t k e enc wf venc lit wv z0) (b n : Nat) (mf : κ → Option ν)
  (hm : a.eval m = .map (some b)) (h : MapF P k e enc wf lit w b n mf) (y : κ) (hx : a.eval x = enc y) (hy : wf y)
  (hK : wpList P ops Q rest (a.put o.dst (venc ((mf y).getD z0))) w) : wpList P ops Q (o :: rest) a w := by
 refine wpList_plain hg fun K' hK' => ?_
 have hrun := (h.look M hy false).1
 unfold Oper.wp
 simp [execOp, hop, hm, hx, hrun, Result.andThen]
 exact hK' _ _ hK
/-- 'm[x] = c' at the operation -/
theorem wpList_put [DecidableEq κ] (hg : o.guard = none) (m x v : Operand) (hop : o.op = Op.mapUpdate t m x v) (M : MK P t k e enc wf venc lit wv z0) (b n : Nat) (mf : κ → Option ν)
  (hm : a.eval m = .map (some b)) (h : MapF P k e enc wf lit w b n mf) (hn : n < maxLen) (y : κ) (hx : a.eval x = enc y) (hy : wf y) (c : ν) (hv : a.eval v = venc c) (hc : wv c)
  (hK : ∀ w', MapF P k e enc wf lit w' b (n + 1) (fun z => if z = y then some c else mf z) → w.grownBy w' (some b) → wpList P ops Q rest (a.put o.dst undef) w') : wpList P ops Q (o :: rest) a w := by
 refine wpList_plain hg fun K' hK' => ?_
 obtain ⟨w', hrun, h1, h2⟩ := h.put M hn hy hc
 unfold Oper.wp
 simp [execOp, hop, hm, hx, hv, hrun, Result.andThen]
 exact hK' _ _ (hK w' h1 h2)
end
/-- a map of ints -/
def litI (c : Int) : DataW Unit := .lit (.int .i64 c)
def wfI (c : Int) : Prop := (Lit.int .i64 c).wf = true
theorem wfI_of {c : Int} (h0 : -9223372036854775808 ≤ c) (h1 : c ≤ 9223372036854775807) : wfI c := by
 unfold wfI Lit.wf
 simp
 first | omega | exact ⟨h0, h1⟩ | (refine ⟨?_, ?_⟩ <;> omega) | skip
end Go.Proofs.YtnekiooaobnndaaDoor.BH
end
section
namespace Go.Proofs.YtnekiooaobnndaaDoor.BH
open Go.RowKit Go.Sort
set_option maxRecDepth 100000

theorem Keeps.grow {a w : World} (h : Keeps a w) (os : Array Obj) : Keeps a (grow w os) :=
 Keeps.trans h ⟨rfl, rfl, rfl, by rw [size_grow]; exact Nat.le_add_right _ _, fun b hb => heap_grow_old w os hb⟩

variable {γ : Type} [Inhabited γ]
/-- The row of the elements of d lies in block g, each of k cells, and 'rest' behind it; but for block g, and new ones, the world is as w0. -/
structure SRow (w0 : World) (g : Nat) (e : TypeId) (k : Nat) (f : γ → List Value) (rest : Array Value) (d : Array γ) (w : World) : Prop where
 gr : w0.grownBy w (some g)
 lt : g < w0.heap.size
 blk : Blk w g (.cells (flatK f k d ++ rest) e)
 fk : ∀ x, (f x).length = k
section
variable {w0 w : World} {g : Nat} {e : TypeId} {k : Nat} {f : γ → List Value} {rest : Array Value} {d : Array γ}
theorem SRow.keep (h : SRow w0 g e k f rest d w) {w' : World} (hk : Keeps w w') : SRow w0 g e k f rest d w' := ⟨grown_below h.gr (Below.mono hk h.gr.size), h.lt, h.blk.keep hk, h.fk⟩
theorem SRow.thawed (h : SRow w0 g e k f rest d w) (j : Nat) : w.frozen? ⟨g, j, none⟩ = false := h.blk.thawed j
end
/-- What is asked of the sort's function: called with two that may stand in the row, it answers cf; it may draw and lay blocks; it turns nothing. -/
def CmpG (P : Program) (fn : FuncId) (cb : Array Value) (arg : γ → Value) (cf : γ → γ → Int) (Q : γ → Prop) (g : Nat) (w0 : World) : Prop :=
 ∀ w, w0.grownBy w (some g) → ∀ x y, Q x → Q y → Calls P fn (#[arg x, arg y] ++ cb) w fun e w' => e = .returned (.int .i64 (cf x y)) ∧ ∃ q os, w' = grow (w.drewN q) os
omit [Inhabited γ] in
theorem CmpG.at {P : Program} {fn : FuncId} {cb : Array Value} {arg : γ → Value} {cf : γ → γ → Int} {Q : γ → Prop} {g : Nat} {w0 w : World} (h : CmpG P fn cb arg cf Q g w0) (hw : w0.grownBy w (some g)) {x y : γ} (hx : Q x) (hy : Q y) (n : Nat) (os : Array Obj) :
  Calls P fn (#[arg x, arg y] ++ cb) (grow (w.drewN n) os) fun e w' => e = .returned (.int .i64 (cf x y)) ∧ ∃ q os', w' = grow ((grow (w.drewN n) os).drewN q) os' :=
 h _ (grown_below hw (Below.mono (Keeps.grow (Keeps.drewN (Keeps.refl w) n) os) hw.size)) x y hx hy
end Go.Proofs.YtnekiooaobnndaaDoor.BH
end
section
namespace Go.Proofs.YtnekiooaobnndaaDoor
open Go.RowKit BH Go.ChangeShapes Go.WideShapes Go.Deep
set_option maxRecDepth 100000
section
variable {H : Type} {enc : TypeId × Value → H} {w : World}
theorem cells_int : Tryd.prog.cellsOf 3 = 1 := by kernel_rfl
theorem bytes_int : Tryd.prog.bytesOf 3 = 8 := by kernel_rfl
theorem cells_u8 : Tryd.prog.cellsOf 5 = 1 := by kernel_rfl
theorem bytes_u8 : Tryd.prog.bytesOf 5 = 1 := by kernel_rfl
theorem cells_ints : Tryd.prog.cellsOf 25 = 1 := by kernel_rfl
theorem bytes_ints : Tryd.prog.bytesOf 25 = 24 := by kernel_rfl
theorem cells_line : Tryd.prog.cellsOf 49 = 2 := by kernel_rfl
theorem bytes_line : Tryd.prog.bytesOf 49 = 16 := by kernel_rfl
theorem cells_fun : Tryd.prog.cellsOf 47 = 3 := by kernel_rfl
theorem bytes_fun : Tryd.prog.bytesOf 47 = 32 := by kernel_rfl
theorem cells_img : Tryd.prog.cellsOf 28 = 6 := by kernel_rfl
theorem cells_str : Tryd.prog.cellsOf 9 = 1 := by kernel_rfl
theorem line_open {fuel : Nat} {c0 c1 : Value} {x : DataW H × List MemPlace} (h : DataW.trod enc Tryd.prog w 0 (fun _ => true) true fuel 49 [c0, c1] = some x) :
  ∃ z : Ln, c0 = .int .i64 z.At ∧ c1 = .int .i64 z.N ∧ I64 z.At ∧ I64 z.N := by
 obtain ⟨y0, y1, n, -, -, h0, h1⟩ := trod_struct2 Tryd.underlying49 h
 simp only [cells_int, List.drop, List.take] at h0 h1
 obtain ⟨a, rfl, ha⟩ := int_open Tryd.underlying3 h0
 obtain ⟨b, rfl, hb⟩ := int_open Tryd.underlying3 h1
 exact ⟨⟨a, b⟩, rfl, rfl, ha, hb⟩
theorem lines_open {fuel : Nat} {c : Value} {x : DataW H × List MemPlace} (h : DataW.trod enc Tryd.prog w 0 (fun _ => true) true fuel 26 [c] = some x) (hf : Fits Tryd.prog 26 x.1) :
  ∃ l : List Ln, Lines w c l ∧ (∀ i, i < l.length → I64 (nth l i).At ∧ I64 (nth l i).N) ∧ l.length * 16 ≤ reachBytes := by
 obtain ⟨n, m, cs, ha, hb, hx⟩ := arr_open Tryd.underlying26 cells_line (by omega) h hf
 obtain ⟨f, hfz⟩ := choose_lt (α := Ln) (p := fun i z => cs i 0 = .int .i64 z.At ∧ cs i 1 = .int .i64 z.N ∧ I64 z.At ∧ I64 z.N) (fun i hi => by
  obtain ⟨y, hy, _⟩ := hx i hi
  exact line_open hy)
 refine ⟨(List.range n).map f, ?_, fun i hi => ?_, by simpa [bytes_line] using hb⟩
 ·unfold Lines
  simp only [List.length_map, List.length_range]
  exact ha.congr fun i j hi hj => by
   rw [nth_map_range f hi]
   obtain ⟨h0, h1, _⟩ := hfz i hi
   match j, hj with
   | 0, _ => exact h0
   | 1, _ => exact h1
 ·simp only [List.length_map, List.length_range] at hi
  rw [nth_map_range f hi]; exact (hfz i hi).2.2

theorem fun_open {fuel : Nat} {c0 c1 c2 : Value} {x : DataW H × List MemPlace} (h : DataW.trod enc Tryd.prog w 0 (fun _ => true) true fuel 47 [c0, c1, c2] = some x) :
  ∃ z : Fu, c0 = .string z.Name ∧ c1 = .int .i64 z.Start ∧ c2 = .int .i64 z.Size ∧ z.Name.size ≤ maxLen ∧ I64 z.Start ∧ I64 z.Size := by
 obtain ⟨y0, y1, y2, n, -, -, h0, h1, h2⟩ := trod_struct3 Tryd.underlying47 h
 simp only [cells_int, cells_str, List.drop, List.take] at h0 h1 h2
 obtain ⟨s, hc, -, hs⟩ := DataW.trod_string Tryd.underlying9 h0
 simp only [List.cons.injEq, and_true] at hc
 obtain ⟨a, rfl, ha⟩ := int_open Tryd.underlying3 h1
 obtain ⟨b, rfl, hb⟩ := int_open Tryd.underlying3 h2
 exact ⟨⟨s, a, b⟩, hc, rfl, rfl, hs, ha, hb⟩
theorem funs_open {fuel : Nat} {c : Value} {x : DataW H × List MemPlace} (h : DataW.trod enc Tryd.prog w 0 (fun _ => true) true fuel 23 [c] = some x) (hf : Fits Tryd.prog 23 x.1) :
  ∃ l : List Fu, Funs w c l ∧ (∀ i, i < l.length → (nth l i).Name.size ≤ maxLen ∧ I64 (nth l i).Start ∧ I64 (nth l i).Size) ∧ l.length * 32 ≤ reachBytes := by
 obtain ⟨n, m, cs, ha, hb, hx⟩ := arr_open Tryd.underlying23 cells_fun (by omega) h hf
 obtain ⟨f, hfz⟩ := choose_lt (α := Fu) (p := fun i z => cs i 0 = .string z.Name ∧ cs i 1 = .int .i64 z.Start ∧ cs i 2 = .int .i64 z.Size ∧ z.Name.size ≤ maxLen ∧ I64 z.Start ∧ I64 z.Size) (fun i hi => by
  obtain ⟨y, hy, _⟩ := hx i hi
  exact fun_open hy)
 refine ⟨(List.range n).map f, ?_, fun i hi => ?_, by simpa [bytes_fun] using hb⟩
 ·unfold Funs
  simp only [List.length_map, List.length_range]
  exact ha.congr fun i j hi hj => by
   rw [nth_map_range f hi]
   obtain ⟨h0, h1, h2, _⟩ := hfz i hi
   match j, hj with
   | 0, _ => exact h0
   | 1, _ => exact h1
   | 2, _ => exact h2
 ·simp only [List.length_map, List.length_range] at hi
  rw [nth_map_range f hi]; exact (hfz i hi).2.2.2

theorem tabs_open {fuel : Nat} {c : Value} {x : DataW H × List MemPlace} (h : DataW.trod enc Tryd.prog w 0 (fun _ => true) true fuel 24 [c] = some x) (hf : Fits Tryd.prog 24 x.1) :
  ∃ l : List (List Int), Tabs w c l ∧ (∀ i, i < l.length → (∀ j, j < (nth l i).length → I64 (nth (nth l i) j)) ∧ (nth l i).length * 8 ≤ reachBytes) ∧ l.length * 24 ≤ reachBytes := by
 obtain ⟨n, m, cs, ha, hb, hx⟩ := arr_open Tryd.underlying24 cells_ints (by omega) h hf
 obtain ⟨f, hfz⟩ := choose_lt (α := List Int) (p := fun i z => Ints w (cs i 0) z ∧ (∀ j, j < z.length → I64 (nth z j)) ∧ z.length * 8 ≤ reachBytes) (fun i hi => by
  obtain ⟨y, hy, hfy⟩ := hx i hi
  exact ints_open Tryd.underlying25 cells_int Tryd.underlying3 bytes_int hy hfy)
 refine ⟨(List.range n).map f, ⟨fun i => cs i 0, ?_, fun i hi => ?_⟩, fun i hi => ?_, by simpa [bytes_ints] using hb⟩
 ·simp only [List.length_map, List.length_range]
  exact ha.congr fun i j hi hj => by rw [show j = 0 by omega]
 ·simp only [List.length_map, List.length_range] at hi
  rw [nth_map_range f hi]; exact (hfz i hi).1
 ·simp only [List.length_map, List.length_range] at hi
  rw [nth_map_range f hi]; exact (hfz i hi).2

/-- what is known of the numbers and lengths of an image that came in -/
structure ImgOk (m : Img) : Prop where
 text : m.Text.length ≤ reachBytes
 funs : ∀ i, i < m.Funcs.length → (nth m.Funcs i).Name.size ≤ maxLen ∧ I64 (nth m.Funcs i).Start ∧ I64 (nth m.Funcs i).Size
 funsN : m.Funcs.length * 32 ≤ reachBytes
 tabs : ∀ i, i < m.Tables.length → (∀ j, j < (nth m.Tables i).length → I64 (nth (nth m.Tables i) j)) ∧ (nth m.Tables i).length * 8 ≤ reachBytes
 tabsN : m.Tables.length * 24 ≤ reachBytes
 data : ∀ i, i < m.Data.length → I64 (nth m.Data i)
 dataN : m.Data.length * 8 ≤ reachBytes
 lines : ∀ i, i < m.Lines.length → I64 (nth m.Lines i).At ∧ I64 (nth m.Lines i).N
 linesN : m.Lines.length * 16 ≤ reachBytes
 entry : I64 m.Entry

theorem array6 {α : Type} {a : Array α} (h : a.size = 6) : ∃ c0 c1 c2 c3 c4 c5, a = #[c0, c1, c2, c3, c4, c5] := by
 obtain ⟨l⟩ := a
 match l, h with
 | [c0, c1, c2, c3, c4, c5], _ => exact ⟨c0, c1, c2, c3, c4, c5, rfl⟩

theorem img_open {r : Reach} {b0 : Nat} {v : Value} {d : DataW H} {p : List MemPlace} (hv : Value.okWide Tryd.prog w r b0 28 v) (h : DataW.Trod enc Tryd.prog w 0 (fun _ => true) true 28 v d p) (hf : Fits Tryd.prog 28 d) :
  ∃ m : Img, ImgAt w v m ∧ ImgOk m := by
 obtain ⟨cs, rfl, hsz⟩ := okWide_struct Tryd.underlying28 hv
 obtain ⟨c0, c1, c2, c3, c4, c5, rfl⟩ := array6 (hsz.trans cells_img)
 obtain ⟨fuel, ht⟩ := h
 obtain ⟨xs, n, -, hd, -, hl, hx⟩ := DataW.trod_struct Tryd.underlying28 ht
 simp only [List.size_toArray, List.length_cons, List.length_nil] at hl
 match xs, hl with
 | [y0, y1, y2, y3, y4, y5], _ =>
  simp only [Prod.mk.injEq] at hd
  obtain ⟨rfl, -⟩ := hd
  have hfw : ∀ (j : Nat) (t : TypeId) (y : DataW H), [22, 23, 24, 25, 26, 3][j]? = some t → ([y0, y1, y2, y3, y4, y5].map (·.1))[j]? = some y → Fits Tryd.prog t y := fun j t y h1 h2 k hk => by
   refine hf k ?_
   simp only [DataW.weights, Tryd.underlying28]
   exact DataW.weights_mem_each h1 h2 k hk
  have h0 := hx 0 _ rfl
  have h1 := hx 1 _ rfl
  have h2 := hx 2 _ rfl
  have h3 := hx 3 _ rfl
  have h4 := hx 4 _ rfl
  have h5 := hx 5 _ rfl
  simp only [List.getElem?_cons_zero, List.getElem?_cons_succ] at h0 h1 h2 h3 h4 h5
  obtain ⟨l0, a0, b0⟩ := bytes_open Tryd.underlying22 cells_u8 Tryd.underlying5 bytes_u8 h0 (hfw 0 _ _ rfl rfl)
  obtain ⟨l1, a1, b1, n1⟩ := funs_open h1 (hfw 1 _ _ rfl rfl)
  obtain ⟨l2, a2, b2, n2⟩ := tabs_open h2 (hfw 2 _ _ rfl rfl)
  obtain ⟨l3, a3, b3, n3⟩ := ints_open Tryd.underlying25 cells_int Tryd.underlying3 bytes_int h3 (hfw 3 _ _ rfl rfl)
  obtain ⟨l4, a4, b4, n4⟩ := lines_open h4 (hfw 4 _ _ rfl rfl)
  obtain ⟨z, rfl, b5⟩ := int_open Tryd.underlying3 h5
  exact ⟨⟨l0, l1, l2, l3, l4, z⟩, ⟨c0, c1, c2, c3, c4, rfl, a0, a1, a2, a3, a4⟩, ⟨b0, b1, n1, b2, n2, b3, n3, b4, n4, b5⟩⟩
end
end Go.Proofs.YtnekiooaobnndaaDoor
end
