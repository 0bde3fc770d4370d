/-
A row of the call's own that a sort turns: elements of k cel
-/
import Derived.Test.YtgdamggkaklhjaaDoorOwn
import Derived.Shelf.GgSortFunc.RowK
import Derived.Shelf.SlSortCmp.QuietGrown
import Derived.Test.YtgdamggkaklhjaaDoorProg
set_option linter.all false
section
namespace Go.Proofs.YtgdamggkaklhjaaDoor.BH
open Go.RowKit Go.Sort
set_option maxRecDepth 100000

theorem Keeps.grow {a w : World} (h : Keeps a w) (os : Array Obj) : Keeps a (grow w os) :=
 Keeps.trans h ⟨rfl, rfl, rfl, by rw [size_grow]; exact Nat.le_add_right _ _, fun b hb => heap_grow_old w os hb⟩

variable {γ : Type} [Inhabited γ]
structure SRow (w0 : World) (g : Nat) (e : TypeId) (k : Nat) (f : γ → List Value) (rest : Array Value) (d : Array γ) (w : World) : Prop where
 gr : w0.grownBy w (some g)
 lt : g < w0.heap.size
 blk : Blk w g (.cells (flatK f k d ++ rest) e)
 fk : ∀ x, (f x).length = k
section
variable {w0 w : World} {g : Nat} {e : TypeId} {k : Nat} {f : γ → List Value} {rest : Array Value} {d : Array γ}
theorem SRow.keep (h : SRow w0 g e k f rest d w) {w' : World} (hk : Keeps w w') : SRow w0 g e k f rest d w' := ⟨grown_below h.gr (Below.mono hk h.gr.size), h.lt, h.blk.keep hk, h.fk⟩
theorem SRow.glt (h : SRow w0 g e k f rest d w) : g < w.heap.size := h.blk.lt
theorem SRow.thawed (h : SRow w0 g e k f rest d w) (j : Nat) : w.frozen? ⟨g, j, none⟩ = false := h.blk.thawed j
theorem Blk.setCells {g : Nat} {e : TypeId} : ∀ (vs : List Value) (s : Nat) {c : Array Value} {w : World}, Blk w g (.cells c e) → Blk (w.setCells g s vs) g (.cells (setMany c s vs) e)
 | [], _, _, _, h => h
 | v :: r, s, c, w, h => by rw [World.setCells, setMany]; exact Blk.setCells r (s + 1) (Blk.set h s v)
end
def CmpG (P : Program) (fn : FuncId) (cb : Array Value) (arg : γ → Value) (cf : γ → γ → Int) (Q : γ → Prop) (g : Nat) (w0 : World) : Prop :=
 ∀ w, w0.grownBy w (some g) → ∀ x y, Q x → Q y → Calls P fn (#[arg x, arg y] ++ cb) w fun e w' => e = .returned (.int .i64 (cf x y)) ∧ ∃ q os, w' = grow (w.drewN q) os
omit [Inhabited γ] in
theorem CmpG.at {P : Program} {fn : FuncId} {cb : Array Value} {arg : γ → Value} {cf : γ → γ → Int} {Q : γ → Prop} {g : Nat} {w0 w : World} (h : CmpG P fn cb arg cf Q g w0) (hw : w0.grownBy w (some g)) {x y : γ} (hx : Q x) (hy : Q y) (n : Nat) (os : Array Obj) :
  Calls P fn (#[arg x, arg y] ++ cb) (grow (w.drewN n) os) fun e w' => e = .returned (.int .i64 (cf x y)) ∧ ∃ q os', w' = grow ((grow (w.drewN n) os).drewN q) os' :=
 h _ (grown_below hw (Below.mono (Keeps.grow (Keeps.drewN (Keeps.refl w) n) os) hw.size)) x y hx hy
theorem flatK_list {f : γ → List Value} {k : Nat} (hf : ∀ x, (f x).length = k) (l : List γ) : (flatK f k l.toArray).toList = l.flatMap f := by
 apply List.ext_getElem?
 intro q
 by_cases hq : q < l.length * k
 ·have k0 : 0 < k := by
   rcases Nat.eq_zero_or_pos k with h | h
   ·subst h; simp at hq
   exact h
  have h1 : q / k < l.length := Nat.div_lt_of_lt_mul (by rw [Nat.mul_comm]; exact hq)
  have h2 : q % k < k := Nat.mod_lt _ k0
  have e := flatMap_at hf l (q / k) (q % k) h1 h2
  rw [Nat.div_add_mod' q k] at e
  have hs : q < (flatK f k l.toArray).size := by rw [size_flatK]; simpa using hq
  rw [e, Array.getElem?_toList, Array.getElem?_eq_getElem hs, ← getElem!_pos (flatK f k l.toArray) _ hs, get_flatK _ _ _ _ (by simpa using hq), List.getElem?_eq_getElem (by rw [hf]; exact h2)]
  have : (l.toArray[q / k]! : γ) = nth l (q / k) := by rw [getElem!_pos _ _ (by simpa using h1), nth_eq l _ h1]; rfl
  rw [this, getElem!_pos _ _ (by rw [hf]; exact h2)]
 rw [List.getElem?_eq_none (by rw [Array.length_toList, size_flatK]; simpa using hq), List.getElem?_eq_none (by rw [flatMap_len hf]; omega)]
theorem Own.srow {w : World} {base : Nat} {e : TypeId} {k : Nat} {f : γ → List Value} {v : Value} {l : List γ} (h : Own w base e k f v l) (hf : ∀ x, (f x).length = k) (hv : v ≠ .slice none 0 0) :
  ∃ g cap rest, v = .slice (some ⟨g, 0, none⟩) l.length cap ∧ base ≤ g ∧ l.length ≤ cap ∧ cap ≤ maxLen ∧ SRow w g e k f rest l.toArray w ∧ ∀ (d : Array γ) (w' : World), d.size = l.length → SRow w g e k f rest d w' → Own w' base e k f v d.toList ∧ w.grownBy w' (some g) := by
 obtain ⟨h1, h2⟩ := h
 rcases h2 with ⟨rfl, h0⟩ | ⟨g, cap, cur, rfl, hb, hg, hn, hc, hs, ht⟩
 ·exact absurd rfl hv
 have hcut : cur = flatK f k l.toArray ++ (cur.toList.drop (l.length * k)).toArray := by
  apply Array.toList_inj.1
  rw [Array.toList_append, flatK_list hf, ← ht]
  exact (List.take_append_drop _ _).symm
 refine ⟨g, cap, (cur.toList.drop (l.length * k)).toArray, rfl, hb, hn, hc, ⟨(Keeps.refl w).grown _, lt_of_block hg, by rw [← hcut]; exact hg, hf⟩, fun d w' hd hr => ⟨⟨?_, Or.inr ⟨g, cap, _, ?_, hb, hr.blk, ?_, hc, ?_, ?_⟩⟩, hr.gr⟩⟩
 ·rw [flatMap_len hf]
 ·simp [hd]
 ·simpa [hd] using hn
 ·have e1 : cur.size = (flatK f k l.toArray).size + (cur.toList.drop (l.length * k)).toArray.size := by
   conv => lhs; rw [hcut]
   exact Array.size_append
  rw [Array.size_append, size_flatK, hd]
  rw [size_flatK] at e1
  simp only [List.size_toArray] at e1 ⊢
  omega
 rw [Array.toList_append, show flatK f k d = flatK f k d.toList.toArray by rfl, flatK_list hf, List.take_left' (by rw [flatMap_len hf])]
end Go.Proofs.YtgdamggkaklhjaaDoor.BH
end
section
namespace Go.Proofs.YtgdamggkaklhjaaDoor
open Go.RowKit BH Go.ChangeShapes Go.WideShapes Go.Deep
set_option maxRecDepth 100000
section
variable {H : Type} {enc : TypeId × Value → H} {w : World}
theorem cells_int : Tryd.prog.cellsOf 3 = 1 := by kernel_rfl
theorem bytes_int : Tryd.prog.bytesOf 3 = 8 := by kernel_rfl
theorem cells_u8 : Tryd.prog.cellsOf 5 = 1 := by kernel_rfl
theorem bytes_u8 : Tryd.prog.bytesOf 5 = 1 := by kernel_rfl
theorem cells_ints : Tryd.prog.cellsOf 25 = 1 := by kernel_rfl
theorem bytes_ints : Tryd.prog.bytesOf 25 = 24 := by kernel_rfl
theorem cells_line : Tryd.prog.cellsOf 42 = 2 := by kernel_rfl
theorem bytes_line : Tryd.prog.bytesOf 42 = 16 := by kernel_rfl
theorem cells_fun : Tryd.prog.cellsOf 40 = 3 := by kernel_rfl
theorem bytes_fun : Tryd.prog.bytesOf 40 = 32 := by kernel_rfl
theorem cells_img : Tryd.prog.cellsOf 28 = 6 := by kernel_rfl
theorem cells_str : Tryd.prog.cellsOf 9 = 1 := by kernel_rfl
theorem line_open {fuel : Nat} {c0 c1 : Value} {x : DataW H × List MemPlace} (h : DataW.trod enc Tryd.prog w 0 (fun _ => true) true fuel 42 [c0, c1] = some x) :
  ∃ z : Ln, c0 = .int .i64 z.At ∧ c1 = .int .i64 z.N ∧ I64 z.At ∧ I64 z.N := by
 obtain ⟨y0, y1, n, -, -, h0, h1⟩ := trod_struct2 Tryd.underlying42 h
 simp only [cells_int, List.drop, List.take] at h0 h1
 obtain ⟨a, rfl, ha⟩ := int_open Tryd.underlying3 h0
 obtain ⟨b, rfl, hb⟩ := int_open Tryd.underlying3 h1
 exact ⟨⟨a, b⟩, rfl, rfl, ha, hb⟩
theorem lines_open {fuel : Nat} {c : Value} {x : DataW H × List MemPlace} (h : DataW.trod enc Tryd.prog w 0 (fun _ => true) true fuel 26 [c] = some x) (hf : Fits Tryd.prog 26 x.1) :
  ∃ l : List Ln, Lines w c l ∧ (∀ i, i < l.length → I64 (nth l i).At ∧ I64 (nth l i).N) ∧ l.length * 16 ≤ reachBytes := by
 obtain ⟨n, m, cs, ha, hb, hx⟩ := arr_open Tryd.underlying26 cells_line jo h hf
 obtain ⟨f, H0⟩ := choose_lt (α := Ln) (p := fun i z => cs i 0 = .int .i64 z.At ∧ cs i 1 = .int .i64 z.N ∧ I64 z.At ∧ I64 z.N) (fun i hi => by obtain ⟨y, hy, _⟩ := hx i hi; exact line_open hy)
 refine ⟨(List.range n).map f, ?_, fun i hi => ?_, by simpa [bytes_line] using hb⟩
 ·unfold Lines
  simp only [List.length_map, List.length_range]
  exact ha.congr fun i j hi hj => by
   rw [nth_map_range f hi]
   obtain ⟨h0, h1, _⟩ := H0 i hi
   match j, hj with
   | 0, _ => exact h0
   | 1, _ => exact h1
 simp only [List.length_map, List.length_range] at hi
 rw [nth_map_range f hi]; exact (H0 i hi).2.2

theorem fun_open {fuel : Nat} {c0 c1 c2 : Value} {x : DataW H × List MemPlace} (h : DataW.trod enc Tryd.prog w 0 (fun _ => true) true fuel 40 [c0, c1, c2] = some x) :
  ∃ z : Fu, c0 = .string z.Name ∧ c1 = .int .i64 z.Start ∧ c2 = .int .i64 z.Size ∧ z.Name.size ≤ maxLen ∧ I64 z.Start ∧ I64 z.Size := by
 obtain ⟨y0, y1, y2, n, -, -, h0, h1, h2⟩ := trod_struct3 Tryd.underlying40 h
 simp only [cells_int, cells_str, List.drop, List.take] at h0 h1 h2
 obtain ⟨s, hc, -, hs⟩ := DataW.trod_string Tryd.underlying9 h0
 simp only [List.cons.injEq, and_true] at hc
 obtain ⟨a, rfl, ha⟩ := int_open Tryd.underlying3 h1
 obtain ⟨b, rfl, hb⟩ := int_open Tryd.underlying3 h2
 exact ⟨⟨s, a, b⟩, hc, rfl, rfl, hs, ha, hb⟩
theorem funs_open {fuel : Nat} {c : Value} {x : DataW H × List MemPlace} (h : DataW.trod enc Tryd.prog w 0 (fun _ => true) true fuel 23 [c] = some x) (hf : Fits Tryd.prog 23 x.1) :
  ∃ l : List Fu, Funs w c l ∧ (∀ i, i < l.length → (nth l i).Name.size ≤ maxLen ∧ I64 (nth l i).Start ∧ I64 (nth l i).Size) ∧ l.length * 32 ≤ reachBytes := by
 obtain ⟨n, m, cs, ha, hb, hx⟩ := arr_open Tryd.underlying23 cells_fun jo h hf
 obtain ⟨f, H0⟩ := choose_lt (α := Fu) (p := fun i z => cs i 0 = .string z.Name ∧ cs i 1 = .int .i64 z.Start ∧ cs i 2 = .int .i64 z.Size ∧ z.Name.size ≤ maxLen ∧ I64 z.Start ∧ I64 z.Size) (fun i hi => by
  obtain ⟨y, hy, _⟩ := hx i hi
  exact fun_open hy)
 refine ⟨(List.range n).map f, ?_, fun i hi => ?_, by simpa [bytes_fun] using hb⟩
 ·unfold Funs
  simp only [List.length_map, List.length_range]
  exact ha.congr fun i j hi hj => by
   rw [nth_map_range f hi]
   obtain ⟨h0, h1, h2, _⟩ := H0 i hi
   match j, hj with
   | 0, _ => exact h0
   | 1, _ => exact h1
   | 2, _ => exact h2
 simp only [List.length_map, List.length_range] at hi
 rw [nth_map_range f hi]; exact (H0 i hi).2.2.2

theorem tabs_open {fuel : Nat} {c : Value} {x : DataW H × List MemPlace} (h : DataW.trod enc Tryd.prog w 0 (fun _ => true) true fuel 24 [c] = some x) (hf : Fits Tryd.prog 24 x.1) :
  ∃ l : List (List Int), Tabs w c l ∧ (∀ i, i < l.length → (∀ j, j < (nth l i).length → I64 (nth (nth l i) j)) ∧ (nth l i).length * 8 ≤ reachBytes) ∧ l.length * 24 ≤ reachBytes := by
 obtain ⟨n, m, cs, ha, hb, hx⟩ := arr_open Tryd.underlying24 cells_ints jo h hf
 obtain ⟨f, H0⟩ := choose_lt (α := List Int) (p := fun i z => Ints w (cs i 0) z ∧ (∀ j, j < z.length → I64 (nth z j)) ∧ z.length * 8 ≤ reachBytes) (fun i hi => by obtain ⟨y, hy, H1⟩ := hx i hi; exact ints_open Tryd.underlying25 cells_int Tryd.underlying3 bytes_int hy H1)
 refine ⟨(List.range n).map f, ⟨fun i => cs i 0, ?_, fun i hi => ?_⟩, fun i hi => ?_, by simpa [bytes_ints] using hb⟩
 ·simp only [List.length_map, List.length_range]
  exact ha.congr fun i j hi hj => by rw [show j = 0 by omega]
 ·simp only [List.length_map, List.length_range] at hi
  rw [nth_map_range f hi]; exact (H0 i hi).1
 simp only [List.length_map, List.length_range] at hi
 rw [nth_map_range f hi]; exact (H0 i hi).2

structure ImgOk (m : Img) : Prop where
 text : m.Text.length ≤ reachBytes
 funs : ∀ i, i < m.Funcs.length → (nth m.Funcs i).Name.size ≤ maxLen ∧ I64 (nth m.Funcs i).Start ∧ I64 (nth m.Funcs i).Size
 funsN : m.Funcs.length * 32 ≤ reachBytes
 tabs : ∀ i, i < m.Tables.length → (∀ j, j < (nth m.Tables i).length → I64 (nth (nth m.Tables i) j)) ∧ (nth m.Tables i).length * 8 ≤ reachBytes
 tabsN : m.Tables.length * 24 ≤ reachBytes
 data : ∀ i, i < m.Data.length → I64 (nth m.Data i)
 dataN : m.Data.length * 8 ≤ reachBytes
 lines : ∀ i, i < m.Lines.length → I64 (nth m.Lines i).At ∧ I64 (nth m.Lines i).N
 linesN : m.Lines.length * 16 ≤ reachBytes
 entry : I64 m.Entry

theorem array6 {α : Type} {a : Array α} (h : a.size = 6) : ∃ c0 c1 c2 c3 c4 c5, a = #[c0, c1, c2, c3, c4, c5] := by
 obtain ⟨l⟩ := a
 match l, h with
 | [c0, c1, c2, c3, c4, c5], _ => exact ⟨c0, c1, c2, c3, c4, c5, rfl⟩

theorem img_open {r : Reach} {b0 : Nat} {v : Value} {d : DataW H} {p : List MemPlace} (hv : Value.okWide Tryd.prog w r b0 28 v) (h : DataW.Trod enc Tryd.prog w 0 (fun _ => true) true 28 v d p) (hf : Fits Tryd.prog 28 d) :
  ∃ m : Img, ImgAt w v m ∧ ImgOk m := by
 obtain ⟨cs, rfl, H1⟩ := okWide_struct Tryd.underlying28 hv
 obtain ⟨c0, c1, c2, c3, c4, c5, rfl⟩ := array6 (H1.trans cells_img)
 obtain ⟨H2, ht⟩ := h
 obtain ⟨xs, n, -, hd, -, hl, hx⟩ := DataW.trod_struct Tryd.underlying28 ht
 simp only [List.size_toArray, jL] at hl
 match xs, hl with
 | [y0, y1, y2, y3, y4, y5], _ =>
  simp only [Prod.mk.injEq] at hd
  obtain ⟨rfl, -⟩ := hd
  have H0 : ∀ (j : Nat) (t : TypeId) (y : DataW H), [22, 23, 24, 25, 26, 3][j]? = some t → ([y0, y1, y2, y3, y4, y5].map (·.1))[j]? = some y → Fits Tryd.prog t y := fun j t y h1 h2 k hk => by refine hf k ?_; simp only [DataW.weights, Tryd.underlying28]; exact DataW.weights_mem_each h1 h2 k hk
  have h0 := hx 0 _ rfl
  have h1 := hx 1 _ rfl
  have h2 := hx 2 _ rfl
  have h3 := hx 3 _ rfl
  have h4 := hx 4 _ rfl
  have h5 := hx 5 _ rfl
  simp only [List.getElem?_cons_zero, List.getElem?_cons_succ] at h0 h1 h2 h3 h4 h5
  obtain ⟨l0, a0, b0⟩ := bytes_open Tryd.underlying22 cells_u8 Tryd.underlying5 bytes_u8 h0 (H0 0 _ _ rfl rfl)
  obtain ⟨l1, a1, b1, n1⟩ := funs_open h1 (H0 1 _ _ rfl rfl)
  obtain ⟨l2, a2, b2, n2⟩ := tabs_open h2 (H0 2 _ _ rfl rfl)
  obtain ⟨l3, a3, b3, n3⟩ := ints_open Tryd.underlying25 cells_int Tryd.underlying3 bytes_int h3 (H0 3 _ _ rfl rfl)
  obtain ⟨l4, a4, b4, n4⟩ := lines_open h4 (H0 4 _ _ rfl rfl)
  obtain ⟨z, rfl, b5⟩ := int_open Tryd.underlying3 h5
  exact ⟨⟨l0, l1, l2, l3, l4, z⟩, ⟨c0, c1, c2, c3, c4, rfl, a0, a1, a2, a3, a4⟩, ⟨b0, b1, n1, b2, n2, b3, n3, b4, n4, b5⟩⟩
end
end Go.Proofs.YtgdamggkaklhjaaDoor
end
