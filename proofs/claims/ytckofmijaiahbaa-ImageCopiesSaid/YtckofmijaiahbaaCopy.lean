/-
  image.Copy: an image of its own memory that reads as the old one.
-/
import Derived.Test.YtckofmijaiahbaaClone
import Derived.Deep.RegionHeld3
import Derived.Deep.RegionWith
import Derived.Deep.RegionLaw
import Derived.Deep.DeepCutAuto
namespace Go.Proofs.Ytckofmijaiahbaa
open Go.RowKit BH
set_option maxHeartbeats 4000000
set_option maxRecDepth 100000

/-- the bounds that the copies of an image's lists want -/
structure ImgRoom (m : Img) : Prop where
  text : m.Text.length * 1 ≤ 140737488355328
  funs : m.Funcs.length * 32 ≤ 140737488355328
  data : m.Data.length * 8 ≤ 140737488355328
  lines : m.Lines.length * 16 ≤ 140737488355328
  tabsN : m.Tables.length * 24 ≤ 140737488355328
  tabs : ∀ i, i < m.Tables.length → (nth m.Tables i).length * 8 ≤ 140737488355328

/-- the slice's cells, if it has any, lie in another block than g -/
def Apart (n : Nat) (v : Value) (g : Nat) : Prop := 0 < n → ∀ b, v.ownBlock = some b → b ≠ g
theorem newAt_mono {B B' : Nat} {v : Value} (h : NewAt B v) (hb : B' ≤ B) : NewAt B' v := fun g hg => Nat.le_trans hb (h g hg)
theorem apart_new {B n : Nat} {v : Value} {g : Nat} (hn : NewAt B v) (h : g < B) : Apart n v g := fun _ b hb e => by have := hn b hb; omega
theorem apart_old {w : World} {v : Value} {n k : Nat} {c : Nat → Nat → Value} {g : Nat} (ha : Arr w v n k c) (hk : 0 < k) (h : w.heap.size ≤ g) : Apart n v g := fun hn b hb e => by
  obtain ⟨ao, cap, rfl, -, -, -, h3⟩ := ha
  obtain ⟨b', off, rfl, hc⟩ := h3 hn
  cases hb
  have h2 : b' < w.heap.size := lt_of_cell (hc 0 0 hn hk)
  have h4 : b' = g := e
  omega
theorem Arr.apart {w w' : World} {v : Value} {n k : Nat} {c : Nat → Nat → Value} {g : Nat} (h : Arr w v n k c) (ha : Apart n v g) (hg : w.grownBy w' (some g)) : Arr w' v n k c :=
  h.grown hg fun hn b hb _ e => ha hn b hb (by cases e; rfl)

/-- what the first statement of Copy leaves: a block with the four copies -/
def CopyMid (m : Img) (T : TypeId) (W0 : World) (s3 : Value) (wx : World) : Prop :=
  ∃ (g : Nat) (x0 x1 x3 x4 : Value), s3 = .pointer (some ⟨g, 0, none⟩) ∧ Blk wx g (.cells #[x0, x1, .slice none 0 0, x3, x4, .int .i64 m.Entry] T) ∧ W0.heap.size ≤ g ∧ Keeps W0 wx ∧
    (Bytes wx x0 m.Text ∧ Apart m.Text.length x0 g ∧ NewAt W0.heap.size x0) ∧ (Funs wx x1 m.Funcs ∧ Apart m.Funcs.length x1 g ∧ NewAt W0.heap.size x1) ∧ (Ints wx x3 m.Data ∧ Apart m.Data.length x3 g ∧ NewAt W0.heap.size x3) ∧ (Lines wx x4 m.Lines ∧ Apart m.Lines.length x4 g ∧ NewAt W0.heap.size x4)
theorem copyMid_alloc {m : Img} {T : TypeId} {W0 W : World} {x0 x1 x3 x4 : Value} (hk : Keeps W0 W) (h0 : Bytes W x0 m.Text) (h1 : Funs W x1 m.Funcs) (h3 : Ints W x3 m.Data) (h4 : Lines W x4 m.Lines) (n0 : NewAt W0.heap.size x0) (n1 : NewAt W0.heap.size x1) (n3 : NewAt W0.heap.size x3) (n4 : NewAt W0.heap.size x4) :
    CopyMid m T W0 (.pointer (some ⟨W.heap.size, 0, none⟩)) (W.alloc (.cells #[x0, x1, .slice none 0 0, x3, x4, .int .i64 m.Entry] T)) :=
  ⟨W.heap.size, x0, x1, x3, x4, rfl, Blk.top _ _, hk.size, hk.alloc _, ⟨Arr.keep h0 ((Keeps.refl _).alloc _), apart_old h0 (by decide) (Nat.le_refl _), n0⟩, ⟨Arr.keep h1 ((Keeps.refl _).alloc _), apart_old h1 (by decide) (Nat.le_refl _), n1⟩,
    ⟨Arr.keep h3 ((Keeps.refl _).alloc _), apart_old h3 (by decide) (Nat.le_refl _), n3⟩, ⟨Arr.keep h4 ((Keeps.refl _).alloc _), apart_old h4 (by decide) (Nat.le_refl _), n4⟩⟩
theorem copyMid_set {m : Img} {T : TypeId} {W0 W : World} {g : Nat} {x0 x1 x3 x4 : Value} (hk : Keeps W0 W) (hg : W0.heap.size ≤ g) (hB : Blk W g (.cells #[.slice none 0 0, .slice none 0 0, .slice none 0 0, .slice none 0 0, .slice none 0 0, .int .i64 0] T))
    (h0 : Bytes W x0 m.Text) (h1 : Funs W x1 m.Funcs) (h3 : Ints W x3 m.Data) (h4 : Lines W x4 m.Lines)
    (p0 : Apart m.Text.length x0 g) (p1 : Apart m.Funcs.length x1 g) (p3 : Apart m.Data.length x3 g) (p4 : Apart m.Lines.length x4 g) (n0 : NewAt W0.heap.size x0) (n1 : NewAt W0.heap.size x1) (n3 : NewAt W0.heap.size x3) (n4 : NewAt W0.heap.size x4) :
    CopyMid m T W0 (.pointer (some ⟨g, 0, none⟩)) ((((((W.setCell ⟨g, 0, none⟩ x0).setCell ⟨g, 1, none⟩ x1).setCell ⟨g, 2, none⟩ (.slice none 0 0)).setCell ⟨g, 3, none⟩ x3).setCell ⟨g, 4, none⟩ x4).setCell ⟨g, 5, none⟩ (.int .i64 m.Entry)) := by
  have hgr : W.grownBy ((((((W.setCell ⟨g, 0, none⟩ x0).setCell ⟨g, 1, none⟩ x1).setCell ⟨g, 2, none⟩ (.slice none 0 0)).setCell ⟨g, 3, none⟩ x3).setCell ⟨g, 4, none⟩ x4).setCell ⟨g, 5, none⟩ (.int .i64 m.Entry)) (some g) :=
    grown_trans (grown_trans (grown_trans (grown_trans (grown_trans (grown_setCell _ _ _ _) (grown_setCell _ _ _ _)) (grown_setCell _ _ _ _)) (grown_setCell _ _ _ _)) (grown_setCell _ _ _ _)) (grown_setCell _ _ _ _)
  refine ⟨g, x0, x1, x3, x4, rfl, ?_, hg, ?_, ⟨Arr.apart h0 p0 hgr, p0, n0⟩, ⟨Arr.apart h1 p1 hgr, p1, n1⟩, ⟨Arr.apart h3 p3 hgr, p3, n3⟩, ⟨Arr.apart h4 p4 hgr, p4, n4⟩⟩
  · exact (((((hB.set 0 x0).set 1 x1).set 2 (.slice none 0 0)).set 3 x3).set 4 x4).set 5 (.int .i64 m.Entry)
  · exact Below.grown hk hgr hk.size (by intro k e; cases e; omega)
theorem blk_up {W W' : World} {o : Obj} (h : Keeps (W.alloc o) W') : Blk W' W.heap.size o := (Blk.top W o).keep h
theorem keeps_dealloc {W W' : World} {o : Obj} (h : Keeps (W.alloc o) W') : Keeps W W' := ((Keeps.refl W).alloc o).trans h

/-- a slice's value, and how it is laid as an element -/
structure Sl where
  a : Option Addr
  n : Nat
  c : Nat
  deriving Inhabited
def Sl.v (s : Sl) : Value := .slice s.a s.n s.c
def sl (s : Sl) : List Value := [.slice s.a s.n s.c]
theorem sl_len (s : Sl) : (sl s).length = 1 := rfl
theorem sl_one (s : Sl) : ∀ u ∈ sl s, u.oneCell' = true := by intro u hu; simp only [sl, List.mem_singleton] at hu; subst hu; rfl
theorem own_lt {α : Type} {w : World} {base : Nat} {e : TypeId} {k : Nat} {f : α → List Value} {v : Value} {l : List α} (h : Own w base e k f v l) {b : Nat} (hb : v.ownBlock = some b) : b < w.heap.size := by
  rcases h.2 with ⟨rfl, _⟩ | ⟨g', cap, cur, rfl, _, hg, _⟩
  · cases hb
  · cases hb; exact lt_of_block hg
theorem own_form {α : Type} {w : World} {base : Nat} {e : TypeId} {k : Nat} {f : α → List Value} {v : Value} {l : List α} (h : Own w base e k f v l) : ∃ a n c, v = .slice a n c := by
  rcases h.2 with ⟨rfl, _⟩ | ⟨g', cap, cur, rfl, _⟩
  · exact ⟨_, _, _, rfl⟩
  · exact ⟨_, _, _, rfl⟩
theorem arr_lt {w : World} {v : Value} {n k : Nat} {c : Nat → Nat → Value} (ha : Arr w v n k c) (hk : 0 < k) (hn : 0 < n) {b : Nat} (hb : v.ownBlock = some b) : b < w.heap.size := by
  obtain ⟨ao, cap, rfl, -, -, -, h3⟩ := ha
  obtain ⟨b', off, rfl, hc⟩ := h3 hn
  cases hb
  have h2 := lt_of_cell (hc 0 0 hn hk)
  exact h2
/-- what the loop over the tables has done behind k rounds -/
structure CopyGo (m : Img) (wc : World) (g : Nat) (x0 x1 x3 x4 : Value) (T E : TypeId) (k : Nat) (vt : Value) (vs : List Sl) (wr : World) : Prop where
  le : k ≤ m.Tables.length
  len : vs.length = k
  grown : wc.grownBy wr (some g)
  blk : Blk wr g (.cells #[x0, x1, vt, x3, x4, .int .i64 m.Entry] T)
  own : Own wr wc.heap.size E 1 sl vt vs
  ints : ∀ j, j < k → Ints wr (nth vs j).v (nth m.Tables j)
  far : ∀ j, j < k → 0 < (nth m.Tables j).length → ∀ b, (nth vs j).v.ownBlock = some b → wc.heap.size ≤ b ∧ vt.ownBlock ≠ some b
theorem nth_snoc_lt {α : Type} [Inhabited α] (l : List α) (y : α) {j : Nat} (h : j < l.length) : nth (l ++ [y]) j = nth l j := by
  rw [nth_eq _ _ (by simp; omega), nth_eq _ _ h, List.getElem_append_left h]
theorem nth_snoc_eq {α : Type} [Inhabited α] (l : List α) (y : α) {j : Nat} (h : j = l.length) : nth (l ++ [y]) j = y := by
  subst h
  rw [nth_eq _ _ (by simp)]
  simp
theorem copyGo_step {m : Img} {wc : World} {g : Nat} {x0 x1 x3 x4 : Value} {T E : TypeId} {k : Nat} {vt : Value} {vs : List Sl} {wr : World} (h : CopyGo m wc g x0 x1 x3 x4 T E k vt vs wr) (hlt : k < m.Tables.length) (hg : g < wc.heap.size)
    {w6 wa w7 : World} {s6 : Sl} {v7 : Value} (k6 : Keeps wr w6) (i6 : Ints w6 s6.v (nth m.Tables k)) (n6 : NewAt wr.heap.size s6.v) (ka : Keeps w6 wa) (o7 : Own w7 wc.heap.size E 1 sl v7 (vs ++ [s6])) (g7 : wa.grownBy w7 vt.ownBlock)
    (f7 : ∀ b, v7.ownBlock = some b → vt.ownBlock = some b ∨ wa.heap.size ≤ b) : CopyGo m wc g x0 x1 x3 x4 T E (k + 1) v7 (vs ++ [s6]) (w7.setCell ⟨g, 2, none⟩ v7) := by
  have s1 := h.grown.size
  have s2 := k6.size
  have s3 := ka.size
  have hB : Below wc.heap.size wr w7 := Below.trans (Below.mono (k6.trans ka) s1) (below_grown g7 (by omega) h.own.row)
  have hset := grown_setCell w7 g 2 v7
  have hrow7 := o7.row
  refine ⟨by omega, by simp [h.len], grown_trans (grown_below h.grown hB) hset, ?_, ?_, ?_, ?_⟩
  · exact (Blk.below h.blk hB hg).set 2 v7
  · refine o7.other hset fun g' hg' e => ?_
    cases e
    have := hrow7 _ hg'
    omega
  · intro j hj
    by_cases hjk : j < k
    · rw [nth_snoc_lt vs s6 (by rw [h.len]; exact hjk)]
      have hi := h.ints j hjk
      have h1 : Ints w7 (nth vs j).v (nth m.Tables j) := Arr.grown (Arr.keep hi (k6.trans ka)) g7 fun hn b hb _ e => (h.far j hjk hn b hb).2 e.symm
      exact Arr.grown h1 hset fun hn b hb _ e => by
        have := (h.far j hjk hn b hb).1
        cases e
        omega
    · have hjk' : j = k := by omega
      rw [nth_snoc_eq vs s6 (by rw [h.len]; exact hjk'), hjk']
      have h1 : Ints w7 s6.v (nth m.Tables k) := Arr.grown (Arr.keep i6 ka) g7 fun hn b hb _ e => by
        have := own_lt h.own e.symm
        have := n6 b hb
        omega
      exact Arr.grown h1 hset fun hn b hb _ e => by
        have := n6 b hb
        cases e
        omega
  · intro j hj hn b hb
    by_cases hjk : j < k
    · rw [nth_snoc_lt vs s6 (by rw [h.len]; exact hjk)] at hb
      obtain ⟨q1, q2⟩ := h.far j hjk hn b hb
      refine ⟨q1, fun e => ?_⟩
      rcases f7 b e with e | e
      · exact q2 e
      · have := arr_lt (h.ints j hjk) (by decide) hn hb
        omega
    · have hjk' : j = k := by omega
      subst hjk'
      rw [nth_snoc_eq vs s6 h.len.symm] at hb
      have q1 := n6 b hb
      refine ⟨by omega, fun e => ?_⟩
      rcases f7 b e with e | e
      · have := own_lt h.own e; omega
      · have := arr_lt i6 (by decide) hn hb
        omega

theorem copy_done {m : Img} {wc : World} {g : Nat} {x0 x1 x3 x4 : Value} {T E : TypeId} {vt : Value} {vs : List Sl} {wr wf : World} {B t : Nat} (h : CopyGo m wc g x0 x1 x3 x4 T E m.Tables.length vt vs wr) (hB : B ≤ wc.heap.size) (ht : t < B) (hset : wr.grownBy wf (some t))
    (z0 : Bytes wc x0 m.Text) (p0 : Apart m.Text.length x0 g) (n0 : NewAt B x0) (z1 : Funs wc x1 m.Funcs) (p1 : Apart m.Funcs.length x1 g) (n1 : NewAt B x1) (z3 : Ints wc x3 m.Data) (p3 : Apart m.Data.length x3 g) (n3 : NewAt B x3) (z4 : Lines wc x4 m.Lines) (p4 : Apart m.Lines.length x4 g) (n4 : NewAt B x4) :
    ImgAt wf (.agg #[x0, x1, vt, x3, x4, .int .i64 m.Entry]) m := by
  have up : ∀ {v : Value} {n k : Nat} {c : Nat → Nat → Value}, Arr wr v n k c → NewAt B v → Arr wf v n k c := fun ha hn => Arr.grown ha hset fun _ b hb _ e => by
    have := hn b hb
    have e' : b = t := Option.some.inj e
    omega
  have hvs := h.len
  refine ⟨x0, x1, vt, x3, x4, rfl, up (Arr.apart z0 p0 h.grown) n0, up (Arr.apart z1 p1 h.grown) n1, ⟨fun i => (nth vs i).v, ?_, fun i hi => ?_⟩, up (Arr.apart z3 p3 h.grown) n3, up (Arr.apart z4 p4 h.grown) n4⟩
  · have ha := h.own.arr sl_len
    rw [hvs] at ha
    exact up (ha.congr fun i j _ hj => by rw [show j = 0 by omega]; rfl) (newAt_mono h.own.row hB)
  · refine Arr.grown (h.ints i hi) hset fun hn b hb _ e => ?_
    have := (h.far i hi hn b hb).1
    have e' : b = t := Option.some.inj e
    omega
theorem copy_any (v : Value) (m : Img) (w : World) (hv : ImgAt w v m) (hr : ImgRoom m) :
    Calls Try.prog 7 #[v] w (Gives (fun v' w' => ImgAt w' v' m) w) := by
  obtain ⟨v0, v1, v2, v3, v4, rfl, a0, a1, ⟨tv, ⟨ao2, ca2, rfl, t1, t2, -, t3⟩, rv⟩, a3, a4⟩ := hv
  unfold maxLen at t2
  have b0 := hr.text
  have b1 := hr.funs
  have b3 := hr.data
  have b4 := hr.lines
  obtain ⟨W0, hW0⟩ : ∃ W0 : World, W0 = (w.alloc (.cells #[v0, v1, .slice ao2 m.Tables.length ca2, v3, v4, .int .i64 m.Entry] 28)).alloc (.cells #[.slice none 0 0, .slice none 0 0, .slice none 0 0, .slice none 0 0, .slice none 0 0, .int .i64 0] 28) := ⟨_, rfl⟩
  have hkW : Keeps w W0 := by rw [hW0]; exact ((Keeps.refl _).alloc _).alloc _
  have B1 : Blk W0 w.heap.size (.cells #[v0, v1, .slice ao2 m.Tables.length ca2, v3, v4, .int .i64 m.Entry] 28) := by rw [hW0]; exact (Blk.top _ _).keep ((Keeps.refl _).alloc _)
  have B2 : Blk W0 (w.heap.size + 1) (.cells #[.slice none 0 0, .slice none 0 0, .slice none 0 0, .slice none 0 0, .slice none 0 0, .int .i64 0] 28) := by rw [hW0]; exact Blk.top' _ _ (sz_alloc _ _).symm
  have hsW : w.heap.size + 2 = W0.heap.size := by rw [hW0, sz_alloc, sz_alloc]
  have i0 : W0.cell? ⟨w.heap.size, 0, none⟩ = some v0 := by rw [hW0]; simp
  have i1 : W0.cell? ⟨w.heap.size, 1, none⟩ = some v1 := by rw [hW0]; simp
  have i3 : W0.cell? ⟨w.heap.size, 3, none⟩ = some v3 := by rw [hW0]; simp
  have i4 : W0.cell? ⟨w.heap.size, 4, none⟩ = some v4 := by rw [hW0]; simp
  have i5 : W0.cell? ⟨w.heap.size, 5, none⟩ = some (.int .i64 m.Entry) := by rw [hW0]; simp
  have a0' := Arr.keep a0 hkW
  have a1' := Arr.keep a1 hkW
  have a3' := Arr.keep a3 hkW
  have a4' := Arr.keep a4 hkW
  clear a0 a1 a3 a4
  go_enter Try.func7, Try.ntmps7
  go_upto_region 1 with fail
  rw [← hW0]
  clear hW0
  go_cut [3] (fun s3 wx => CopyMid m 28 W0 s3 wx)
  case first =>
    go_region_held3 (fun w' => w'.cell? ⟨w.heap.size, 0, none⟩ = some v0 ∧ w'.cell? ⟨w.heap.size, 1, none⟩ = some v1 ∧ w'.cell? ⟨w.heap.size, 3, none⟩ = some v3 ∧ w'.cell? ⟨w.heap.size, 4, none⟩ = some v4 ∧ w'.cell? ⟨w.heap.size, 5, none⟩ = some (.int .i64 m.Entry))
      (exact ⟨Keeps.cell (by repeat (with_reducible (first | assumption | exact Keeps.refl _ | refine Keeps.alloc ?_ _ | refine Keeps.drew ?_ | refine Keeps.drewN ?_ _ | refine Keeps.setCell ?_ (by (try dsimp only); first | omega | (simp only [sz_alloc]; omega) | (simp only [sz_drew]; omega) | (simp only [sz_alloc, sz_drew]; omega)) _ | refine Keeps.trans ?_ (by assumption)))) i0, Keeps.cell (by repeat (with_reducible (first | assumption | exact Keeps.refl _ | refine Keeps.alloc ?_ _ | refine Keeps.drew ?_ | refine Keeps.drewN ?_ _ | refine Keeps.setCell ?_ (by (try dsimp only); first | omega | (simp only [sz_alloc]; omega) | (simp only [sz_drew]; omega) | (simp only [sz_alloc, sz_drew]; omega)) _ | refine Keeps.trans ?_ (by assumption)))) i1, Keeps.cell (by repeat (with_reducible (first | assumption | exact Keeps.refl _ | refine Keeps.alloc ?_ _ | refine Keeps.drew ?_ | refine Keeps.drewN ?_ _ | refine Keeps.setCell ?_ (by (try dsimp only); first | omega | (simp only [sz_alloc]; omega) | (simp only [sz_drew]; omega) | (simp only [sz_alloc, sz_drew]; omega)) _ | refine Keeps.trans ?_ (by assumption)))) i3, Keeps.cell (by repeat (with_reducible (first | assumption | exact Keeps.refl _ | refine Keeps.alloc ?_ _ | refine Keeps.drew ?_ | refine Keeps.drewN ?_ _ | refine Keeps.setCell ?_ (by (try dsimp only); first | omega | (simp only [sz_alloc]; omega) | (simp only [sz_drew]; omega) | (simp only [sz_alloc, sz_drew]; omega)) _ | refine Keeps.trans ?_ (by assumption)))) i4, Keeps.cell (by repeat (with_reducible (first | assumption | exact Keeps.refl _ | refine Keeps.alloc ?_ _ | refine Keeps.drew ?_ | refine Keeps.drewN ?_ _ | refine Keeps.setCell ?_ (by (try dsimp only); first | omega | (simp only [sz_alloc]; omega) | (simp only [sz_drew]; omega) | (simp only [sz_alloc, sz_drew]; omega)) _ | refine Keeps.trans ?_ (by assumption)))) i5⟩)
      ((first
        | (go_at_call 17; refine (clone_bytes _ m.Text _ (Arr.keep a0' (by repeat (with_reducible (first | assumption | exact Keeps.refl _ | refine Keeps.alloc ?_ _ | refine Keeps.drew ?_ | refine Keeps.drewN ?_ _ | refine Keeps.setCell ?_ (by (try dsimp only); first | omega | (simp only [sz_alloc]; omega) | (simp only [sz_drew]; omega) | (simp only [sz_alloc, sz_drew]; omega)) _ | refine Keeps.trans ?_ (by assumption))))) b0).mono ?_; rintro e W1 ⟨x1, rfl, ⟨hx1, hn1⟩, hk1⟩; obtain ⟨ao1, ca1, rfl⟩ := Arr.form hx1; (repeat' (first | (with_reducible replace hk1 := Keeps.undrew hk1) | (with_reducible replace hk1 := Keeps.undrewN hk1))); (first | (with_reducible have hb1 := bcell_top hk1; (try simp only [sz_drew, sz_drewN] at hb1); obtain ⟨ht1, hu1⟩ := hb1) | skip); obtain ⟨hc1, hf1⟩ := bcell hk1; have hz1 := hk1.size; (first | (with_reducible have hl1 := lt_top hk1; (try simp only [sz_drew, sz_drewN] at hl1)) | skip); (first | (have hm1 := Nat.lt_of_lt_of_le (by with_reducible assumption) hz1) | skip))
        | (go_at_call 18; refine (clone_funs _ m.Funcs _ (Arr.keep a1' (by repeat (with_reducible (first | assumption | exact Keeps.refl _ | refine Keeps.alloc ?_ _ | refine Keeps.drew ?_ | refine Keeps.drewN ?_ _ | refine Keeps.setCell ?_ (by (try dsimp only); first | omega | (simp only [sz_alloc]; omega) | (simp only [sz_drew]; omega) | (simp only [sz_alloc, sz_drew]; omega)) _ | refine Keeps.trans ?_ (by assumption))))) b1).mono ?_; rintro e W2 ⟨x2, rfl, ⟨hx2, hn2⟩, hk2⟩; obtain ⟨ao2, ca2, rfl⟩ := Arr.form hx2; (repeat' (first | (with_reducible replace hk2 := Keeps.undrew hk2) | (with_reducible replace hk2 := Keeps.undrewN hk2))); (first | (with_reducible have hb2 := bcell_top hk2; (try simp only [sz_drew, sz_drewN] at hb2); obtain ⟨ht2, hu2⟩ := hb2) | skip); obtain ⟨hc2, hf2⟩ := bcell hk2; have hz2 := hk2.size; (first | (with_reducible have hl2 := lt_top hk2; (try simp only [sz_drew, sz_drewN] at hl2)) | skip); (first | (have hm2 := Nat.lt_of_lt_of_le (by with_reducible assumption) hz2) | skip))
        | (go_at_call 19; refine (clone_ints _ m.Data _ (Arr.keep a3' (by repeat (with_reducible (first | assumption | exact Keeps.refl _ | refine Keeps.alloc ?_ _ | refine Keeps.drew ?_ | refine Keeps.drewN ?_ _ | refine Keeps.setCell ?_ (by (try dsimp only); first | omega | (simp only [sz_alloc]; omega) | (simp only [sz_drew]; omega) | (simp only [sz_alloc, sz_drew]; omega)) _ | refine Keeps.trans ?_ (by assumption))))) b3).mono ?_; rintro e W3 ⟨x3, rfl, ⟨hx3, hn3⟩, hk3⟩; obtain ⟨ao3, ca3, rfl⟩ := Arr.form hx3; (repeat' (first | (with_reducible replace hk3 := Keeps.undrew hk3) | (with_reducible replace hk3 := Keeps.undrewN hk3))); (first | (with_reducible have hb3 := bcell_top hk3; (try simp only [sz_drew, sz_drewN] at hb3); obtain ⟨ht3, hu3⟩ := hb3) | skip); obtain ⟨hc3, hf3⟩ := bcell hk3; have hz3 := hk3.size; (first | (with_reducible have hl3 := lt_top hk3; (try simp only [sz_drew, sz_drewN] at hl3)) | skip); (first | (have hm3 := Nat.lt_of_lt_of_le (by with_reducible assumption) hz3) | skip))
        | (go_at_call 20; refine (clone_lines _ m.Lines _ (Arr.keep a4' (by repeat (with_reducible (first | assumption | exact Keeps.refl _ | refine Keeps.alloc ?_ _ | refine Keeps.drew ?_ | refine Keeps.drewN ?_ _ | refine Keeps.setCell ?_ (by (try dsimp only); first | omega | (simp only [sz_alloc]; omega) | (simp only [sz_drew]; omega) | (simp only [sz_alloc, sz_drew]; omega)) _ | refine Keeps.trans ?_ (by assumption))))) b4).mono ?_; rintro e W4 ⟨x4, rfl, ⟨hx4, hn4⟩, hk4⟩; obtain ⟨ao4, ca4, rfl⟩ := Arr.form hx4; (repeat' (first | (with_reducible replace hk4 := Keeps.undrew hk4) | (with_reducible replace hk4 := Keeps.undrewN hk4))); (first | (with_reducible have hb4 := bcell_top hk4; (try simp only [sz_drew, sz_drewN] at hb4); obtain ⟨ht4, hu4⟩ := hb4) | skip); obtain ⟨hc4, hf4⟩ := bcell hk4; have hz4 := hk4.size; (first | (with_reducible have hl4 := lt_top hk4; (try simp only [sz_drew, sz_drewN] at hl4)) | skip); (first | (have hm4 := Nat.lt_of_lt_of_le (by with_reducible assumption) hz4) | skip))))
    all_goals
      go_wp2_with fail
      go_meet
      have K1 : Keeps W0 W1 := by with_reducible first | exact hk1 | exact keeps_dealloc hk1
      have K2 : Keeps W1 W2 := by with_reducible first | exact hk2 | exact keeps_dealloc hk2
      have K3 : Keeps W2 W3 := by with_reducible first | exact hk3 | exact keeps_dealloc hk3
      have K4 : Keeps W3 W4 := by with_reducible first | exact hk4 | exact keeps_dealloc hk4
      have K04 : Keeps W0 W4 := K1.trans (K2.trans (K3.trans K4))
      have s1 := K1.size
      have s2 := K2.size
      have s3 := K3.size
      have s4 := K4.size
      have y1 : Bytes W4 _ m.Text := Arr.keep hx1 (K2.trans (K3.trans K4))
      have y2 : Funs W4 _ m.Funcs := Arr.keep hx2 (K3.trans K4)
      have y3 : Ints W4 _ m.Data := Arr.keep hx3 K4
      have m1 : NewAt W0.heap.size _ := newAt_mono hn1 (by (try simp only [sz_alloc, sz_drew, sz_drewN]); omega)
      have m2 : NewAt W0.heap.size _ := newAt_mono hn2 (by (try simp only [sz_alloc, sz_drew, sz_drewN]); omega)
      have m3 : NewAt W0.heap.size _ := newAt_mono hn3 (by (try simp only [sz_alloc, sz_drew, sz_drewN]); omega)
      have m4 : NewAt W0.heap.size _ := newAt_mono hn4 (by (try simp only [sz_alloc, sz_drew, sz_drewN]); omega)
      first
        | (with_reducible exact copyMid_alloc K04 y1 y2 y3 hx4 m1 m2 m3 m4)
        | (with_reducible refine copyMid_set (g := W0.heap.size) K04 ?_ ?_ y1 y2 y3 hx4 ?_ ?_ ?_ ?_ m1 m2 m3 m4
           · exact Nat.le_refl _
           · exact (blk_up hk1).keep (K2.trans (K3.trans K4))
           · exact apart_new hn1 (by (try simp only [sz_alloc, sz_drew, sz_drewN]); omega)
           · exact apart_new hn2 (by (try simp only [sz_alloc, sz_drew, sz_drewN]); omega)
           · exact apart_new hn3 (by (try simp only [sz_alloc, sz_drew, sz_drewN]); omega)
           · exact apart_new hn4 (by (try simp only [sz_alloc, sz_drew, sz_drewN]); omega))
        | (with_reducible refine copyMid_set (g := W1.heap.size) K04 ?_ ?_ y1 y2 y3 hx4 ?_ ?_ ?_ ?_ m1 m2 m3 m4
           · omega
           · exact (blk_up hk2).keep (K3.trans K4)
           · exact apart_old hx1 (by decide) (Nat.le_refl _)
           · exact apart_new hn2 (by (try simp only [sz_alloc, sz_drew, sz_drewN]); omega)
           · exact apart_new hn3 (by (try simp only [sz_alloc, sz_drew, sz_drewN]); omega)
           · exact apart_new hn4 (by (try simp only [sz_alloc, sz_drew, sz_drewN]); omega))
        | (with_reducible refine copyMid_set (g := W2.heap.size) K04 ?_ ?_ y1 y2 y3 hx4 ?_ ?_ ?_ ?_ m1 m2 m3 m4
           · omega
           · exact (blk_up hk3).keep K4
           · exact apart_old hx1 (by decide) (by omega)
           · exact apart_old hx2 (by decide) (Nat.le_refl _)
           · exact apart_new hn3 (by (try simp only [sz_alloc, sz_drew, sz_drewN]); omega)
           · exact apart_new hn4 (by (try simp only [sz_alloc, sz_drew, sz_drewN]); omega))
        | (with_reducible refine copyMid_set (g := W3.heap.size) K04 ?_ ?_ y1 y2 y3 hx4 ?_ ?_ ?_ ?_ m1 m2 m3 m4
           · omega
           · exact (blk_up hk4).keep (Keeps.refl _)
           · exact apart_old hx1 (by decide) (by omega)
           · exact apart_old hx2 (by decide) (by omega)
           · exact apart_old hx3 (by decide) (Nat.le_refl _)
           · exact apart_new hn4 (by (try simp only [sz_alloc, sz_drew, sz_drewN]); omega))
  case rest =>
    obtain ⟨g, x0, x1, x3, x4, rfl, hB, hg, hkx, ⟨z0, p0, nz0⟩, ⟨z1, p1, nz1⟩, ⟨z3, p3, nz3⟩, ⟨z4, p4, nz4⟩⟩ := hcut
    obtain ⟨ax0, cx0, rfl⟩ := Arr.form z0
    obtain ⟨ax1, cx1, rfl⟩ := Arr.form z1
    obtain ⟨ax3, cx3, rfl⟩ := Arr.form z3
    obtain ⟨ax4, cx4, rfl⟩ := Arr.form z4
    clear i0 i1 i3 i4 i5 a0' a1' a3' a4' b0 b1 b3 b4
    have k5 : Keeps w wc := hkW.trans hkx
    have C1 : Blk wc w.heap.size (.cells #[v0, v1, .slice ao2 m.Tables.length ca2, v3, v4, .int .i64 m.Entry] 28) := B1.keep hkx
    have C2 : Blk wc (w.heap.size + 1) (.cells #[.slice none 0 0, .slice none 0 0, .slice none 0 0, .slice none 0 0, .slice none 0 0, .int .i64 0] 28) := B2.keep hkx
    have c2 := C1.cell (j := 2) rfl
    clear B1 B2
    have hgl := hB.lt
    go_wp2_with fail
    go_loopw [5, 24] (fun _ i wr => ∃ (k : Nat) (vt : Value) (vs : List Sl), i = .int .i64 k ∧ CopyGo m wc g (.slice ax0 m.Text.length cx0) (.slice ax1 m.Funcs.length cx1) (.slice ax3 m.Data.length cx3) (.slice ax4 m.Lines.length cx4) 28 25 k vt vs wr) (fun _ i _ => m.Tables.length - (intOf i).toNat)
    case atStart => exact ⟨0, .slice none 0 0, [], rfl, ⟨Nat.zero_le _, rfl, World.grownBy.refl _ _, hB, Own.nil _ _ _ _ _, fun _ h => absurd h (Nat.not_lt_zero _), fun _ h => absurd h (Nat.not_lt_zero _)⟩⟩
    case round =>
      obtain ⟨k, vt, vs, rfl, hgo⟩ := hrel
      have hk := hgo.le
      have hwr : w.grownBy wr (some g) := grown_trans (k5.grown _) hgo.grown
      have hwg : w.heap.size ≤ g := Nat.le_trans hkW.size hg
      by_cases hlt : k < m.Tables.length
      · obtain ⟨b, off, rfl, hc⟩ := t3 (by omega)
        have hcw := hc k 0 hlt (by omega)
        have hbw := lt_of_cell hcw
        have ct : wr.cell? ⟨b, off + k, none⟩ = some (tv k) := by
          have hb2 : b < w.heap.size := hbw
          have := hwr.cell hcw (by intro e; have e' : b = g := Option.some.inj e; omega)
          simpa using this
        have hT : Ints wr (tv k) (nth m.Tables k) := Arr.grown (rv k hlt) hwr (fun _ b' hb' hlt' e => by have e' : b' = g := Option.some.inj e; omega)
        obtain ⟨ao5, c5, e5⟩ := Arr.form hT
        rw [e5] at ct hT
        have cT := hgo.blk.cell (j := 2) rfl
        have hgw : g < wr.heap.size := hgo.blk.lt
        have hown := hgo.own
        have hlen := hgo.len
        have HG := Lib.hid hgo
        have hcs := hgo.grown.size
        have hfz := hgo.blk.thawed 2
        clear hgo t3 rv hc hcw e5 c2 C1 C2
        go_wp2_with fail
        go_region_law (first
          | (refine step_push (by rfl) (.tmp 29) (.tmp 32) 24 (by rfl) Try.underlying24 info_ints (by rfl) (by decide) (base := wc.heap.size) (f := sl) (l := vs) (by rfl) (by exact hown.keep (by repeat (with_reducible (first | assumption | exact Keeps.refl _ | refine Keeps.alloc ?_ _ | refine Keeps.drew ?_ | refine Keeps.drewN ?_ _ | refine Keeps.trans' ?_ (by assumption) (by assumption))))) ⟨ao6, (nth m.Tables k).length, ca6⟩ _ _ (by rfl) (by exact Blk.top' _ _ (by first | rfl | simp)) sl_len sl_one (by rw [hlen]; have := hr.tabsN; omega) (by rw [hlen]; unfold maxLen; omega) (by first | omega | (simp only [sz_alloc]; omega) | (simp only [sz_drew]; omega) | (simp only [sz_alloc, sz_drew]; omega) | (simp only [sz_alloc, sz_drewN]; omega)) ?_; intro v7 w7 hown7 hbel7 hgr7 hfr7; obtain ⟨a7, n7, c7, rfl⟩ := own_form hown7; have hB7 := Blk.below (Blk.keep HG.out.blk (by repeat (with_reducible (first | assumption | exact Keeps.refl _ | refine Keeps.alloc ?_ _ | refine Keeps.drew ?_ | refine Keeps.drewN ?_ _ | refine Keeps.trans' ?_ (by assumption) (by assumption))))) hbel7 hgl; have hc7 := hB7.cell (j := 2) rfl; have hf7 := hB7.thawed 2; have HB7 := Lib.hid hB7; clear hB7)
          | (go_simp; go_at_call 19; refine (clone_ints _ (nth m.Tables k) _ (Arr.keep hT (by repeat (with_reducible (first | assumption | exact Keeps.refl _ | refine Keeps.alloc ?_ _ | refine Keeps.drew ?_ | refine Keeps.drewN ?_ _)))) (hr.tabs k hlt)).mono ?_; rintro e w6 ⟨x6, rfl, ⟨hx6, hn6⟩, hk6⟩; obtain ⟨ao6, ca6, rfl⟩ := Arr.form hx6; (repeat' (first | (with_reducible replace hk6 := Keeps.undrew hk6) | (with_reducible replace hk6 := Keeps.undrewN hk6))); obtain ⟨hc6, hf6⟩ := bcell hk6; have hy6 := hk6.size; have hz6 := Nat.lt_of_lt_of_le hgw hy6))
        all_goals
          go_wp2_with fail
          go_roundw
          case rel => exact ⟨k + 1, _, _, by go_num, copyGo_step (s6 := ⟨ao6, (nth m.Tables k).length, ca6⟩) HG.out hlt hgl hk6 hx6 hn6 (by repeat (with_reducible (first | assumption | exact Keeps.refl _ | refine Keeps.alloc ?_ _ | refine Keeps.drew ?_ | refine Keeps.drewN ?_ _))) hown7 hgr7 hfr7⟩
          case measure => simp [intOf]; omega
      · obtain rfl : k = m.Tables.length := by omega
        have D2 : Blk wr (w.heap.size + 1) (.cells #[.slice none 0 0, .slice none 0 0, .slice none 0 0, .slice none 0 0, .slice none 0 0, .int .i64 0] 28) := C2.grown hgo.grown (by intro e; have e' : w.heap.size + 1 = g := Option.some.inj e; omega)
        obtain ⟨av, nv, cv, rfl⟩ := own_form hgo.own
        have g0 := hgo.blk.cell (j := 0) rfl
        have g1 := hgo.blk.cell (j := 1) rfl
        have g2 := hgo.blk.cell (j := 2) rfl
        have g3 := hgo.blk.cell (j := 3) rfl
        have g4 := hgo.blk.cell (j := 4) rfl
        have g5 := hgo.blk.cell (j := 5) rfl
        have d0 := D2.cell (j := 0) rfl
        have d1 := D2.cell (j := 1) rfl
        have d2 := D2.cell (j := 2) rfl
        have d3 := D2.cell (j := 3) rfl
        have d4 := D2.cell (j := 4) rfl
        have d5 := D2.cell (j := 5) rfl
        have f0 := D2.thawed 0
        have f1 := D2.thawed 1
        have f2 := D2.thawed 2
        have f3 := D2.thawed 3
        have f4 := D2.thawed 4
        have f5 := D2.thawed 5
        have HG := Lib.hid hgo
        have HD2 := Lib.hid D2
        have hneg : w.heap.size + 1 ≠ g := by omega
        clear hgo t3 rv c2 C1 C2 D2
        go_wp2_with fail
        obtain ⟨wf, hwf⟩ : ∃ wf : World, wf = ((((((wr.setCell ⟨w.heap.size + 1, 0, none⟩ (.slice ax0 m.Text.length cx0)).setCell ⟨w.heap.size + 1, 1, none⟩ (.slice ax1 m.Funcs.length cx1)).setCell ⟨w.heap.size + 1, 2, none⟩ (.slice av nv cv)).setCell ⟨w.heap.size + 1, 3, none⟩ (.slice ax3 m.Data.length cx3)).setCell ⟨w.heap.size + 1, 4, none⟩ (.slice ax4 m.Lines.length cx4)).setCell ⟨w.heap.size + 1, 5, none⟩ (.int .i64 m.Entry)) := ⟨_, rfl⟩
        rw [← hwf]
        have hBf : Blk wf (w.heap.size + 1) (.cells #[.slice ax0 m.Text.length cx0, .slice ax1 m.Funcs.length cx1, .slice av nv cv, .slice ax3 m.Data.length cx3, .slice ax4 m.Lines.length cx4, .int .i64 m.Entry] 28) := by
          rw [hwf]
          exact (((((HD2.out.set 0 _).set 1 _).set 2 _).set 3 _).set 4 _).set 5 _
        have hset : wr.grownBy wf (some (w.heap.size + 1)) := by
          rw [hwf]
          exact grown_trans (grown_trans (grown_trans (grown_trans (grown_trans (grown_setCell _ _ _ _) (grown_setCell _ _ _ _)) (grown_setCell _ _ _ _)) (grown_setCell _ _ _ _)) (grown_setCell _ _ _ _)) (grown_setCell _ _ _ _)
        have Kr : Keeps w wr := Below.grown k5 HG.out.grown k5.size (by intro q e; have e' : g = q := Option.some.inj e; omega)
        have Kf : Keeps w wf := Below.grown Kr hset Kr.size (by intro q e; have e' : w.heap.size + 1 = q := Option.some.inj e; omega)
        have e0 := hBf.cell (j := 0) rfl
        have e1 := hBf.cell (j := 1) rfl
        have e2 := hBf.cell (j := 2) rfl
        have e3 := hBf.cell (j := 3) rfl
        have e4 := hBf.cell (j := 4) rfl
        have e5 := hBf.cell (j := 5) rfl
        have HZ := Lib.hid (copy_done HG.out hkx.size (show w.heap.size + 1 < W0.heap.size by omega) hset z0 p0 nz0 z1 p1 nz1 z3 p3 nz3 z4 p4 nz4)
        clear hwf hBf hset g0 g1 g2 g3 g4 g5 d0 d1 d2 d3 d4 d5 f0 f1 f2 f3 f4 f5
        exact bodyPost_ret (v := .agg #[.slice ax0 m.Text.length cx0, .slice ax1 m.Funcs.length cx1, .slice av nv cv, .slice ax3 m.Data.length cx3, .slice ax4 m.Lines.length cx4, .int .i64 m.Entry]) (by simp [results, Try.results7, go_sem, e0, e1, e2, e3, e4, e5]) rfl ⟨_, rfl, HZ.out, Kf⟩
end Go.Proofs.Ytckofmijaiahbaa
