/-
 Maps from ints to ints, from ints to bools, from pairs of ints to ints. No program is named here.
 What holds of some blocks holds on while other blocks change; a struct in a block of the call's own, one field of which is a slice that grows. No program is named here.
 What the row's list of package-level variables gives: the tables isa.rows and isa.sizes hold what their initialisers lay.
-/
import Derived.Test.YtnekiooaobnndaaDoorImgOpen
import Derived.Test.YtnekiooaobnndaaDoorSame
import Derived.Test.YtnekiooaobnndaaDoorRows
import Derived.Test.YtnekiooaobnndaaDoorIsa0
import Derived.Test.YtnekiooaobnndaaDoorLift
import Derived.Lib.LaidTab
import Derived.Deep.Strs
section
namespace Go.Proofs.YtnekiooaobnndaaDoor.BH
open Go.RowKit Go.Maps Go.WideShapes
set_option maxRecDepth 100000
variable {P : Program} {t k e : TypeId}
theorem mk_ii (ht : P.underlying t = some (.map k e)) (hk : P.underlying k = some (.int .i64)) (he : P.underlying e = some (.int .i64)) (hz : ∀ w, (zeroValue e).run P w = .ok (.int .i64 0) w) :
  MK P t k e (fun x : Int => .int .i64 x) wfI (fun c : Int => .int .i64 c) litI wfI 0 where
 K := int_keyed hk
 ht := ht
 key x hx := ⟨_, keyOf_int_mk hk hx⟩
 inv v kl h := by
  obtain ⟨x, rfl, _, hx⟩ := Maps.keyOf_int_inv hk h
  exact ⟨x, hx, rfl⟩
 inj x y h := by injection h
 val c hc := plainElem_int he hc
 vinv v y h := by
  obtain ⟨c, rfl, rfl, hc⟩ := plainElem_int_inv he h
  exact ⟨c, hc, rfl, rfl⟩
 linj c d h := by unfold litI at h; injection h with h; injection h
 zero := hz
 wz := wfI_of (by decide) (by decide)
def litB (c : Bool) : DataW Unit := .lit (.bool c)
theorem mk_ib (ht : P.underlying t = some (.map k e)) (hk : P.underlying k = some (.int .i64)) (he : P.underlying e = some .bool) (hz : ∀ w, (zeroValue e).run P w = .ok (.bool false) w) :
  MK P t k e (fun x : Int => .int .i64 x) wfI (fun c : Bool => .bool c) litB (fun _ => True) false where
 K := int_keyed hk
 ht := ht
 key x hx := ⟨_, keyOf_int_mk hk hx⟩
 inv v kl h := by
  obtain ⟨x, rfl, _, hx⟩ := Maps.keyOf_int_inv hk h
  exact ⟨x, hx, rfl⟩
 inj x y h := by injection h
 val c _ := plainElem_bool he c
 vinv v y h := by
  unfold plainElem at h
  rw [he] at h
  cases v <;> simp at h
  exact ⟨_, trivial, rfl, h.symm⟩
 linj c d h := by unfold litB at h; injection h with h; injection h
 zero := hz
 wz := trivial
end Go.Proofs.YtnekiooaobnndaaDoor.BH
end
section
namespace Go.Proofs.YtnekiooaobnndaaDoor.BH
open Go.RowKit

/-- P holds, and holds in every world in which the blocks of S are as they are. -/
def Foot (S : Nat → Prop) (P : World → Prop) (w : World) : Prop := (∀ b, S b → b < w.heap.size) ∧ ∀ w', (∀ b, S b → w'.heap[b]? = w.heap[b]?) → P w'
theorem Foot.here {S : Nat → Prop} {P : World → Prop} {w : World} (h : Foot S P w) : P w := h.2 w fun _ _ => rfl
theorem Foot.move {S : Nat → Prop} {P : World → Prop} {w w' : World} (h : Foot S P w) (hs : w.heap.size ≤ w'.heap.size) (he : ∀ b, S b → w'.heap[b]? = w.heap[b]?) : Foot S P w' :=
 ⟨fun b hb => Nat.lt_of_lt_of_le (h.1 b hb) hs, fun w2 h2 => h.2 w2 fun b hb => (h2 b hb).trans (he b hb)⟩
theorem Foot.grown {S : Nat → Prop} {P : World → Prop} {w w' : World} {row : Option Nat} (h : Foot S P w) (hg : w.grownBy w' row) (hne : ∀ b, S b → row ≠ some b) : Foot S P w' :=
 h.move hg.size fun b hb => hg.block b (h.1 b hb) fun e => hne b hb e.symm
theorem Foot.keep {S : Nat → Prop} {P : World → Prop} {w w' : World} (h : Foot S P w) (hk : Keeps w w') : Foot S P w' := h.grown (hk.grown none) fun _ _ e => by cases e
theorem Foot.none (w : World) : Foot (fun _ => False) (fun _ => True) w := ⟨fun _ h => h.elim, fun _ _ => trivial⟩
theorem Foot.and {S T : Nat → Prop} {P Q : World → Prop} {w : World} (h : Foot S P w) (k : Foot T Q w) : Foot (fun b => S b ∨ T b) (fun w => P w ∧ Q w) w :=
 ⟨fun b hb => hb.elim (h.1 b) (k.1 b), fun w' h' => ⟨h.2 w' fun b hb => h' b (Or.inl hb), k.2 w' fun b hb => h' b (Or.inr hb)⟩⟩
theorem Foot.imp {S : Nat → Prop} {P Q : World → Prop} {w : World} (h : Foot S P w) (hpq : ∀ w, P w → Q w) : Foot S Q w := ⟨h.1, fun w' h' => hpq w' (h.2 w' h')⟩
theorem cell_of_heap {w w' : World} {b o : Nat} (h : w'.heap[b]? = w.heap[b]?) : w'.cell? ⟨b, o, none⟩ = w.cell? ⟨b, o, none⟩ := World.cell?_of_block (a := ⟨b, o, none⟩) h
/-- a slice that reads so: what it hangs on -/
theorem Arr.foot {w : World} {v : Value} {n k : Nat} {c : Nat → Nat → Value} (h : Arr w v n k c) (hk : 0 < k) : Foot (fun b => 0 < n ∧ v.ownBlock = some b) (fun w => Arr w v n k c) w := by
 obtain ⟨ao, cap, rfl, h1, h2, h4, h3⟩ := h
 refine ⟨fun b ⟨hn, hb⟩ => ?_, fun w' h' => ⟨ao, cap, rfl, h1, h2, h4, fun hn => ?_⟩⟩
 ·obtain ⟨b', off, rfl, hc⟩ := h3 hn
  cases hb
  have h2 := lt_of_cell (hc 0 0 hn hk)
  exact h2
 ·obtain ⟨b', off, rfl, hc⟩ := h3 hn
  exact ⟨b', off, rfl, fun i j hi hj => (cell_of_heap (h' b' ⟨hn, rfl⟩)).trans (hc i j hi hj)⟩
theorem Own.foot {α : Type} {w : World} {base : Nat} {e : TypeId} {k : Nat} {f : α → List Value} {v : Value} {l : List α} (h : Own w base e k f v l) : Foot (fun b => v.ownBlock = some b) (fun w => Own w base e k f v l) w := by
 obtain ⟨h1, h2⟩ := h
 rcases h2 with h2 | ⟨g, cap, cur, hv, hb, hg, r⟩
 ·refine ⟨fun b hb => ?_, fun w' _ => ⟨h1, Or.inl h2⟩⟩
  rw [h2.1] at hb; cases hb
 ·refine ⟨fun b hb' => ?_, fun w' h' => ⟨h1, Or.inr ⟨g, cap, cur, hv, hb, ?_, r⟩⟩⟩
  ·rw [hv] at hb'; cases hb'; exact lt_of_block hg
  ·rw [h' g (by rw [hv]; rfl)]; exact hg

theorem own_lt' {α : Type} {w : World} {base : Nat} {e : TypeId} {k : Nat} {f : α → List Value} {v : Value} {l : List α} (h : Own w base e k f v l) {b : Nat} (hb : v.ownBlock = some b) : b < w.heap.size := h.foot.1 b hb
theorem own_form' {α : Type} {w : World} {base : Nat} {e : TypeId} {k : Nat} {f : α → List Value} {v : Value} {l : List α} (h : Own w base e k f v l) : ∃ a c, v = .slice a l.length c := by
 rcases h.2 with ⟨rfl, h0⟩ | ⟨g', cap, cur, rfl, _⟩
 ·exact ⟨_, _, by rw [h0]⟩
 ·exact ⟨_, _, rfl⟩

/-- A struct lies in block g, of the call's own: its cells are c; one of them, v, is a slice of the call's own with the elements l; of the blocks of S (other parts, done) F holds; the blocks of A belong to others. All below B is as it was in w0. -/
structure Bld {α : Type} (B : Nat) (w0 : World) (g : Nat) (T : TypeId) (A S : Nat → Prop) (F : World → Prop) (e : TypeId) (k : Nat) (f : α → List Value) (c : Array Value) (v : Value) (l : List α) (w : World) : Prop where
 keep : Below B w0 w
 Bg : B ≤ g
 Bw : B ≤ w.heap.size
 blk : Blk w g (.cells c T)
 foot : Foot S F w
 SB : ∀ b, S b → B ≤ b
 own : Own w B e k f v l
 gS : ¬ S g
 vg : v.ownBlock ≠ some g
 vS : ∀ b, S b → v.ownBlock ≠ some b
 Alt : ∀ b, A b → b < w.heap.size
 Ag : ¬ A g
 AS : ∀ b, A b → ¬ S b
 Av : ∀ b, A b → v.ownBlock ≠ some b

section
variable {α : Type} {B : Nat} {w0 : World} {g : Nat} {T : TypeId} {A S : Nat → Prop} {F : World → Prop} {e : TypeId} {k : Nat} {f : α → List Value} {c : Array Value} {v : Value} {l : List α} {w : World}
/-- one more element (or several): appended, and the slice stored back -/
theorem Bld.push (h : Bld B w0 g T A S F e k f c v l w) {wa w7 : World} {v7 : Value} {l7 : List α} (ka : Keeps w wa) (o7 : Own w7 B e k f v7 l7) (g7 : wa.grownBy w7 v.ownBlock) (f7 : ∀ b, v7.ownBlock = some b → v.ownBlock = some b ∨ wa.heap.size ≤ b) (j : Nat) :
  Bld B w0 g T A S F e k f (c.setIfInBounds j v7) v7 l7 (w7.setCell ⟨g, j, none⟩ v7) := by
 have s1 := ka.size
 have s2 := g7.size
 have hset := grown_setCell w7 g j v7
 have hgl := h.blk.lt
 have vg7 : v7.ownBlock ≠ some g := fun e => by
  rcases f7 g e with e | e
  ·exact h.vg e
  ·omega
 have old : ∀ b, b < w.heap.size → v.ownBlock ≠ some b → v7.ownBlock ≠ some b := fun b hb hne e => by
  rcases f7 b e with e | e
  ·exact hne e
  ·omega
 refine ⟨?_, h.Bg, by rw [sz_setCell]; have := h.Bw; omega, ?_, ?_, h.SB, ?_, h.gS, vg7, fun b hb => old b (h.foot.1 b hb) (h.vS b hb), fun b hb => by rw [sz_setCell]; have := h.Alt b hb; omega, h.Ag, h.AS, fun b hb => old b (h.Alt b hb) (h.Av b hb)⟩
 ·have h1 : Below B w0 wa := Below.trans h.keep (Below.mono ka h.Bw)
  have h2 : Below B w0 w7 := Below.trans h1 (below_grown g7 (by have := h.Bw; omega) h.own.row)
  exact Below.setCell h2 h.Bg _
 ·exact Blk.set ((h.blk.keep ka).grown g7 fun e => h.vg e.symm) j v7
 ·exact ((h.foot.keep ka).grown g7 fun b hb => h.vS b hb).grown hset fun b hb e => h.gS (by cases e; exact hb)
 ·exact o7.other hset fun g' hg' e => vg7 (by rw [hg', e])
/-- something else changed: a block of A, and new memory -/
theorem Bld.else (h : Bld B w0 g T A S F e k f c v l w) {w' : World} {a : Nat} (hg : w.grownBy w' (some a)) (ha : A a) (hBa : B ≤ a) : Bld B w0 g T A S F e k f c v l w' := by
 have s := hg.size
 refine ⟨Below.trans h.keep (below_grown hg h.Bw fun q hq => by cases hq; exact hBa), h.Bg, by have := h.Bw; omega, h.blk.grown hg fun e => h.Ag (by cases e; exact ha), h.foot.grown hg fun b hb e => h.AS a ha (by cases e; exact hb), h.SB, h.own.other hg fun b hb e => h.Av a ha (by rw [hb, e]), h.gS, h.vg, h.vS, fun b hb => by have := h.Alt b hb; omega, h.Ag, h.AS, h.Av⟩
theorem Bld.keeps (h : Bld B w0 g T A S F e k f c v l w) {w' : World} (hk : Keeps w w') : Bld B w0 g T A S F e k f c v l w' := by
 have s := hk.size
 refine ⟨Below.trans h.keep (Below.mono hk h.Bw), h.Bg, by have := h.Bw; omega, h.blk.keep hk, h.foot.keep hk, h.SB, h.own.keep hk, h.gS, h.vg, h.vS, fun b hb => by have := h.Alt b hb; omega, h.Ag, h.AS, h.Av⟩
/-- another field begins: what has been done joins the rest -/
theorem Bld.next (h : Bld B w0 g T A S F e k f c v l w) {β : Type} {e' : TypeId} {k' : Nat} {f' : β → List Value} : Bld B w0 g T A (fun b => S b ∨ v.ownBlock = some b) (fun w => F w ∧ Own w B e k f v l) e' k' f' c (.slice none 0 0) [] w :=
 ⟨h.keep, h.Bg, h.Bw, h.blk, h.foot.and h.own.foot, fun b hb => hb.elim (h.SB b) (h.own.row b), Own.nil _ _ _ _ _, fun hb => hb.elim h.gS h.vg, (fun e => by cases e), (fun _ _ e => by cases e), h.Alt, h.Ag, fun b hb hs => hs.elim (h.AS b hb) (h.Av b hb), (fun _ _ e => by cases e)⟩
theorem Bld.weak (h : Bld B w0 g T A S F e k f c v l w) {G : World → Prop} (hg : ∀ w, F w → G w) : Bld B w0 g T A S G e k f c v l w := { h with foot := h.foot.imp hg }
/-- a part that was made apart joins the rest -/
theorem Bld.join (h : Bld B w0 g T A S F e k f c v l w) {R : Nat → Prop} {Q : World → Prop} (hr : Foot R Q w) (hB : ∀ b, R b → B ≤ b) (hg : ¬ R g) (hv : ∀ b, R b → v.ownBlock ≠ some b) (hA : ∀ b, A b → ¬ R b) :
  Bld B w0 g T A (fun b => S b ∨ R b) (fun w => F w ∧ Q w) e k f c v l w :=
 { h with foot := h.foot.and hr, SB := fun b hb => hb.elim (h.SB b) (hB b), gS := fun hb => hb.elim h.gS hg, vS := fun b hb => hb.elim (h.vS b) (hv b), AS := fun b hb hs => hs.elim (h.AS b hb) (hA b hb) }
/-- a cell of the struct that is none of the slices is stored -/
theorem Bld.put (h : Bld B w0 g T A S F e k f c v l w) (j : Nat) (u : Value) : Bld B w0 g T A S F e k f (c.setIfInBounds j u) v l (w.setCell ⟨g, j, none⟩ u) := by
 have hset := grown_setCell w g j u
 refine ⟨Below.setCell h.keep h.Bg _, h.Bg, by rw [sz_setCell]; exact h.Bw, h.blk.set j u, h.foot.grown hset fun b hb e => h.gS (by cases e; exact hb), h.SB, h.own.other hset fun b hb e => h.vg (by rw [hb, e]), h.gS, h.vg, h.vS, fun b hb => by rw [sz_setCell]; exact h.Alt b hb, h.Ag, h.AS, h.Av⟩
end

/-- slices as elements of a slice -/
structure Sle where
 a : Option Addr
 n : Nat
 c : Nat
 deriving Inhabited
def Sle.v (s : Sle) : Value := .slice s.a s.n s.c
def sle (s : Sle) : List Value := [.slice s.a s.n s.c]
theorem sle_len (s : Sle) : (sle s).length = 1 := rfl
theorem sle_one (s : Sle) : ∀ u ∈ sle s, u.oneCell' = true := by intro u hu; simp only [sle, List.mem_singleton] at hu; subst hu; rfl
/-- the rows vs read as the lists ls -/
def RowsAt (vs : List Sle) (ls : List (List Int)) (w : World) : Prop := vs.length = ls.length ∧ ∀ j, j < ls.length → Ints w (nth vs j).v (nth ls j)
theorem rowsAt_nil (w : World) : RowsAt [] [] w := ⟨rfl, fun _ hj => absurd hj (Nat.not_lt_zero _)⟩
theorem nth_app_lt {α : Type} [Inhabited α] (l : List α) (y : α) {j : Nat} (h : j < l.length) : nth (l ++ [y]) j = nth l j := by
 rw [nth_eq _ _ (by simp; omega), nth_eq _ _ h, List.getElem_append_left h]
theorem nth_app_eq {α : Type} [Inhabited α] (l : List α) (y : α) {j : Nat} (h : j = l.length) : nth (l ++ [y]) j = y := by
 subst h
 rw [nth_eq _ _ (by simp)]
 simp
theorem rowsAt_snoc {vs : List Sle} {ls : List (List Int)} {w : World} (h : RowsAt vs ls w) {s : Sle} {l : List Int} (hs : Ints w s.v l) : RowsAt (vs ++ [s]) (ls ++ [l]) w := by
 refine ⟨by simp [h.1], fun j hj => ?_⟩
 rcases Nat.lt_or_ge j ls.length with hlt | hge
 ·rw [nth_app_lt _ _ (by rw [h.1]; exact hlt), nth_app_lt _ _ hlt]; exact h.2 j hlt
 ·have : j = ls.length := by simp at hj; omega
  rw [nth_app_eq _ _ (by rw [h.1]; exact this), nth_app_eq _ _ this]; exact hs
theorem tabs_of {w : World} {base : Nat} {e : TypeId} {v : Value} {vs : List Sle} {ls : List (List Int)} (ho : Own w base e 1 sle v vs) (hr : RowsAt vs ls w) : Tabs w v ls := by
 refine ⟨fun i => (nth vs i).v, ?_, fun i hi => hr.2 i hi⟩
 have ha := ho.arr sle_len
 rw [hr.1] at ha
 exact ha.congr fun i j _ hj => by rw [show j = 0 by omega]; rfl
/-- the program's structs as they are laid -/
def cfu (x : Fu) : List Value := [.string x.Name, .int .i64 x.Start, .int .i64 x.Size]
theorem cfu_len (x : Fu) : (cfu x).length = 3 := rfl
theorem cfu_one (x : Fu) : ∀ u ∈ cfu x, u.oneCell' = true := by intro u hu; simp [cfu] at hu; rcases hu with rfl | rfl | rfl <;> rfl
def cln (x : Ln) : List Value := [.int .i64 x.At, .int .i64 x.N]
theorem cln_len (x : Ln) : (cln x).length = 2 := rfl
theorem cln_one (x : Ln) : ∀ u ∈ cln x, u.oneCell' = true := by intro u hu; simp [cln] at hu; rcases hu with rfl | rfl <;> rfl
theorem Own.funs {w : World} {base : Nat} {e : TypeId} {v : Value} {l : List Fu} (h : Own w base e 3 cfu v l) : Funs w v l :=
 (h.arr cfu_len).congr fun i j _ hj => by
  match j, hj with
  | 0, _ => rfl
  | 1, _ => rfl
  | 2, _ => rfl
theorem Own.lines {w : World} {base : Nat} {e : TypeId} {v : Value} {l : List Ln} (h : Own w base e 2 cln v l) : Lines w v l :=
 (h.arr cln_len).congr fun i j _ hj => by
  match j, hj with
  | 0, _ => rfl
  | 1, _ => rfl
end Go.Proofs.YtnekiooaobnndaaDoor.BH
end
section
namespace Go.Proofs.YtnekiooaobnndaaDoor
open Go.RowKit BH Go.ChangeShapes Go.WideShapes Go.Deep
set_option maxRecDepth 100000

theorem laid_head {P : Program} {W : World} {name : String} {d : DataW Unit} {rest : List (String × DataW Unit)} {g : Nat} {t : TypeId}
  (hg : P.globalNamed name = some g) (hty : (P.globals[g]?).map (·.type) = some t) (h : laidMet P ((name, d) :: rest) W) :
  ∃ cs fuel q, W.var? P name = some cs ∧ DataW.trod (fun _ => ()) P W 0 (fun _ => true) false fuel t cs.toList = some (d, q) := by
 obtain ⟨ps, ⟨g', t', cs, fuel, p, q, hg', ht', hvar, hd, _, _⟩, _⟩ := h
 obtain rfl := Option.some.inj (hg.symm.trans hg')
 obtain rfl := Option.some.inj (hty.symm.trans ht')
 exact ⟨cs, fuel, _, hvar, hd⟩
theorem gRows : Tryd.prog.globalNamed "bolthole/isa.rows" = some 0 := by kernel_rfl
theorem gRowsType : (Tryd.prog.globals[0]?).map (·.type) = some 128 := by kernel_rfl
theorem gSizes : Tryd.prog.globalNamed "bolthole/isa.sizes" = some 1 := by kernel_rfl
theorem gSizesType : (Tryd.prog.globals[1]?).map (·.type) = some 129 := by kernel_rfl
theorem cells_row : Tryd.prog.cellsOf 127 = 3 := by kernel_rfl
theorem cells_u8' : Tryd.prog.cellsOf 5 = 1 := by kernel_rfl
theorem cells_shape : Tryd.prog.cellsOf 125 = 1 := by kernel_rfl
theorem cells_i : Tryd.prog.cellsOf 3 = 1 := by kernel_rfl

/-- one row of isa.rows, read off its reading as data -/
theorem row_cells {H : Type} {enc : TypeId × Value → H} {w : World} {base : Nat} {sp : Nat → Bool} {hd : Bool} {fuel : Nat} {cs : List Value} {ds : List (DataW H)} {p : List MemPlace}
  (h : DataW.trod enc Tryd.prog w base sp hd fuel 128 cs = some (.agg ds, p)) (i : Nat) (hi : i < 25) (a b c : Int) (hds : ds[i]? = some (.agg [.lit (.int .u8 a), .lit (.int .u8 b), .lit (.int .i64 c)])) :
  cs[i * 3]? = some (.int .u8 a) ∧ cs[i * 3 + 1]? = some (.int .u8 b) ∧ cs[i * 3 + 2]? = some (.int .i64 c) := by
 obtain ⟨xs, m, -, hx, hl, hn, hel⟩ := DataW.trod_array Tryd.underlying128 h
 simp only [Prod.mk.injEq, DataW.agg.injEq] at hx
 obtain ⟨rfl, -⟩ := hx
 have he := hel i hi
 rw [List.getElem?_map] at hds
 obtain ⟨y, hy, hyd⟩ := Option.map_eq_some_iff.1 hds
 rw [hy, cells_row] at he
 obtain ⟨y0, y1, y2, n, hy3, hlen, h0, h1, h2⟩ := trod_struct3 Tryd.underlying127 he
 subst hy3
 simp only [DataW.agg.injEq, List.cons.injEq, and_true] at hyd
 obtain ⟨e0, e1, e2⟩ := hyd
 simp only [cells_u8', cells_shape] at h0 h1 h2
 obtain ⟨z0, q0, r0, -⟩ := DataW.trod_int Tryd.underlying5 h0
 obtain ⟨z1, q1, r1, -⟩ := DataW.trod_int Tryd.underlying5 h1
 obtain ⟨z2, q2, r2, -⟩ := DataW.trod_int Tryd.underlying125 h2
 rw [r0] at e0
 rw [r1] at e1
 rw [r2] at e2
 simp only [DataW.lit.injEq, Lit.int.injEq, true_and] at e0 e1 e2
 subst e0 e1 e2
 have key : ∀ (k : Nat) (v : Value), (((cs.drop (i * 3)).take 3).drop k).take 1 = [v] → cs[i * 3 + k]? = some v := by
  intro k v hv
  have h0 := congrArg (·[0]?) hv
  simp only [List.getElem?_cons_zero, List.getElem?_take, Nat.lt_one_iff, if_true, List.getElem?_drop, Nat.add_zero] at h0
  split at h0
  ·exact h0
  ·cases h0
 exact ⟨key 0 _ q0, key 1 _ q1, key 2 _ q2⟩

theorem tab_of_laid {W : World} {rest : List (String × DataW Unit)} (h : laidMet Tryd.prog (("bolthole/isa.rows", Rows.laid_bolthole_isa_rows) :: rest) W) : Tab W := by
 obtain ⟨cs, fuel, q, hvar, hd⟩ := laid_head gRows gRowsType h
 intro k hk
 have hrow : ∀ k, k < 25 → cs.toList[k * 3]? = some (.int .u8 (opT k)) ∧ cs.toList[k * 3 + 1]? = some (.int .u8 (longT k)) ∧ cs.toList[k * 3 + 2]? = some (.int .i64 (shapeT k)) := by
  intro k hk
  refine row_cells hd k hk _ _ _ ?_
  match k, hk with
  | 0, _ => rfl
  | 1, _ => rfl
  | 2, _ => rfl
  | 3, _ => rfl
  | 4, _ => rfl
  | 5, _ => rfl
  | 6, _ => rfl
  | 7, _ => rfl
  | 8, _ => rfl
  | 9, _ => rfl
  | 10, _ => rfl
  | 11, _ => rfl
  | 12, _ => rfl
  | 13, _ => rfl
  | 14, _ => rfl
  | 15, _ => rfl
  | 16, _ => rfl
  | 17, _ => rfl
  | 18, _ => rfl
  | 19, _ => rfl
  | 20, _ => rfl
  | 21, _ => rfl
  | 22, _ => rfl
  | 23, _ => rfl
  | 24, _ => rfl
  | n + 25, hk => exact absurd hk (by omega)
 have hc : ∀ j v, cs.toList[j]? = some v → W.cell? ⟨0, j, none⟩ = some v := by
  intro j v hj
  rw [World.var?_cell gRows hvar j]
  simpa using hj
 exact ⟨hc _ _ (hrow k hk).1, hc _ _ (hrow k hk).2.1, hc _ _ (hrow k hk).2.2⟩
end Go.Proofs.YtnekiooaobnndaaDoor
end
