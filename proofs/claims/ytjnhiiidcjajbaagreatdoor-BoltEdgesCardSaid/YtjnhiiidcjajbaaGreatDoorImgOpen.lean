/-
  An argument of the type api.Image, opened: what it reads as is an image in memory; and how many bytes its lists may take.
-/
import Derived.Test.YtjnhiiidcjajbaaGreatDoorProg
import Derived.Test.YtjnhiiidcjajbaaGreatDoorLift
import Derived.KernelRfl
namespace Go.Proofs.YtjnhiiidcjajbaaGreatDoor
open Go.RowKit BH Go.ChangeShapes Go.WideShapes Go.Deep
set_option maxRecDepth 100000
section
variable {H : Type} {enc : TypeId × Value → H} {w : World}
theorem cells_int : Tryz.prog.cellsOf 3 = 1 := by kernel_rfl
theorem bytes_int : Tryz.prog.bytesOf 3 = 8 := by kernel_rfl
theorem cells_u8 : Tryz.prog.cellsOf 5 = 1 := by kernel_rfl
theorem bytes_u8 : Tryz.prog.bytesOf 5 = 1 := by kernel_rfl
theorem cells_ints : Tryz.prog.cellsOf 24 = 1 := by kernel_rfl
theorem bytes_ints : Tryz.prog.bytesOf 24 = 24 := by kernel_rfl
theorem cells_line : Tryz.prog.cellsOf 91 = 2 := by kernel_rfl
theorem bytes_line : Tryz.prog.bytesOf 91 = 16 := by kernel_rfl
theorem cells_fun : Tryz.prog.cellsOf 89 = 3 := by kernel_rfl
theorem bytes_fun : Tryz.prog.bytesOf 89 = 32 := by kernel_rfl
theorem cells_img : Tryz.prog.cellsOf 47 = 6 := by kernel_rfl
theorem cells_str : Tryz.prog.cellsOf 9 = 1 := by kernel_rfl
theorem cells_bytes : Tryz.prog.cellsOf 32 = 1 := by kernel_rfl
theorem cells_funs : Tryz.prog.cellsOf 44 = 1 := by kernel_rfl
theorem cells_tabs : Tryz.prog.cellsOf 23 = 1 := by kernel_rfl
theorem cells_lines : Tryz.prog.cellsOf 45 = 1 := by kernel_rfl

theorem line_open {fuel : Nat} {c0 c1 : Value} {x : DataW H × List MemPlace} (h : DataW.trod enc Tryz.prog w 0 (fun _ => true) true fuel 91 [c0, c1] = some x) :
    ∃ z : Ln, c0 = .int .i64 z.At ∧ c1 = .int .i64 z.N ∧ I64 z.At ∧ I64 z.N := by
  obtain ⟨y0, y1, n, -, -, h0, h1⟩ := trod_struct2 Tryz.underlying91 h
  simp only [cells_int, List.drop, List.take] at h0 h1
  obtain ⟨a, rfl, ha⟩ := int_open Tryz.underlying3 h0
  obtain ⟨b, rfl, hb⟩ := int_open Tryz.underlying3 h1
  exact ⟨⟨a, b⟩, rfl, rfl, ha, hb⟩
theorem lines_open {fuel : Nat} {c : Value} {x : DataW H × List MemPlace} (h : DataW.trod enc Tryz.prog w 0 (fun _ => true) true fuel 45 [c] = some x) (hf : Fits Tryz.prog 45 x.1) :
    ∃ l : List Ln, Lines w c l ∧ (∀ i, i < l.length → I64 (nth l i).At ∧ I64 (nth l i).N) ∧ l.length * 16 ≤ reachBytes := by
  obtain ⟨n, m, cs, ha, hb, hx⟩ := arr_open Tryz.underlying45 cells_line (by omega) h hf
  obtain ⟨f, hfz⟩ := choose_lt (α := Ln) (p := fun i z => cs i 0 = .int .i64 z.At ∧ cs i 1 = .int .i64 z.N ∧ I64 z.At ∧ I64 z.N) (fun i hi => by
    obtain ⟨y, hy, _⟩ := hx i hi
    exact line_open hy)
  refine ⟨(List.range n).map f, ?_, fun i hi => ?_, by simpa [bytes_line] using hb⟩
  · unfold Lines
    simp only [List.length_map, List.length_range]
    exact ha.congr fun i j hi hj => by
      rw [nth_map_range f hi]
      obtain ⟨h0, h1, _⟩ := hfz i hi
      match j, hj with
      | 0, _ => exact h0
      | 1, _ => exact h1
  · simp only [List.length_map, List.length_range] at hi
    rw [nth_map_range f hi]; exact (hfz i hi).2.2

theorem fun_open {fuel : Nat} {c0 c1 c2 : Value} {x : DataW H × List MemPlace} (h : DataW.trod enc Tryz.prog w 0 (fun _ => true) true fuel 89 [c0, c1, c2] = some x) :
    ∃ z : Fu, c0 = .string z.Name ∧ c1 = .int .i64 z.Start ∧ c2 = .int .i64 z.Size ∧ z.Name.size ≤ maxLen ∧ I64 z.Start ∧ I64 z.Size := by
  obtain ⟨y0, y1, y2, n, -, -, h0, h1, h2⟩ := trod_struct3 Tryz.underlying89 h
  simp only [cells_int, cells_str, List.drop, List.take] at h0 h1 h2
  obtain ⟨s, hc, -, hs⟩ := DataW.trod_string Tryz.underlying9 h0
  simp only [List.cons.injEq, and_true] at hc
  obtain ⟨a, rfl, ha⟩ := int_open Tryz.underlying3 h1
  obtain ⟨b, rfl, hb⟩ := int_open Tryz.underlying3 h2
  exact ⟨⟨s, a, b⟩, hc, rfl, rfl, hs, ha, hb⟩
theorem funs_open {fuel : Nat} {c : Value} {x : DataW H × List MemPlace} (h : DataW.trod enc Tryz.prog w 0 (fun _ => true) true fuel 44 [c] = some x) (hf : Fits Tryz.prog 44 x.1) :
    ∃ l : List Fu, Funs w c l ∧ (∀ i, i < l.length → (nth l i).Name.size ≤ maxLen ∧ I64 (nth l i).Start ∧ I64 (nth l i).Size) ∧ l.length * 32 ≤ reachBytes := by
  obtain ⟨n, m, cs, ha, hb, hx⟩ := arr_open Tryz.underlying44 cells_fun (by omega) h hf
  obtain ⟨f, hfz⟩ := choose_lt (α := Fu) (p := fun i z => cs i 0 = .string z.Name ∧ cs i 1 = .int .i64 z.Start ∧ cs i 2 = .int .i64 z.Size ∧ z.Name.size ≤ maxLen ∧ I64 z.Start ∧ I64 z.Size) (fun i hi => by
    obtain ⟨y, hy, _⟩ := hx i hi
    exact fun_open hy)
  refine ⟨(List.range n).map f, ?_, fun i hi => ?_, by simpa [bytes_fun] using hb⟩
  · unfold Funs
    simp only [List.length_map, List.length_range]
    exact ha.congr fun i j hi hj => by
      rw [nth_map_range f hi]
      obtain ⟨h0, h1, h2, _⟩ := hfz i hi
      match j, hj with
      | 0, _ => exact h0
      | 1, _ => exact h1
      | 2, _ => exact h2
  · simp only [List.length_map, List.length_range] at hi
    rw [nth_map_range f hi]; exact (hfz i hi).2.2.2

theorem tabs_open {fuel : Nat} {c : Value} {x : DataW H × List MemPlace} (h : DataW.trod enc Tryz.prog w 0 (fun _ => true) true fuel 23 [c] = some x) (hf : Fits Tryz.prog 23 x.1) :
    ∃ l : List (List Int), Tabs w c l ∧ (∀ i, i < l.length → (∀ j, j < (nth l i).length → I64 (nth (nth l i) j)) ∧ (nth l i).length * 8 ≤ reachBytes) ∧ l.length * 24 ≤ reachBytes := by
  obtain ⟨n, m, cs, ha, hb, hx⟩ := arr_open Tryz.underlying23 cells_ints (by omega) h hf
  obtain ⟨f, hfz⟩ := choose_lt (α := List Int) (p := fun i z => Ints w (cs i 0) z ∧ (∀ j, j < z.length → I64 (nth z j)) ∧ z.length * 8 ≤ reachBytes) (fun i hi => by
    obtain ⟨y, hy, hfy⟩ := hx i hi
    exact ints_open Tryz.underlying24 cells_int Tryz.underlying3 bytes_int hy hfy)
  refine ⟨(List.range n).map f, ⟨fun i => cs i 0, ?_, fun i hi => ?_⟩, fun i hi => ?_, by simpa [bytes_ints] using hb⟩
  · simp only [List.length_map, List.length_range]
    exact ha.congr fun i j hi hj => by rw [show j = 0 by omega]
  · simp only [List.length_map, List.length_range] at hi
    rw [nth_map_range f hi]; exact (hfz i hi).1
  · simp only [List.length_map, List.length_range] at hi
    rw [nth_map_range f hi]; exact (hfz i hi).2

/-- what is known of the numbers and lengths of an image that came in -/
structure ImgOk (m : Img) : Prop where
  text : m.Text.length ≤ reachBytes
  funs : ∀ i, i < m.Funcs.length → (nth m.Funcs i).Name.size ≤ maxLen ∧ I64 (nth m.Funcs i).Start ∧ I64 (nth m.Funcs i).Size
  funsN : m.Funcs.length * 32 ≤ reachBytes
  tabs : ∀ i, i < m.Tables.length → (∀ j, j < (nth m.Tables i).length → I64 (nth (nth m.Tables i) j)) ∧ (nth m.Tables i).length * 8 ≤ reachBytes
  tabsN : m.Tables.length * 24 ≤ reachBytes
  data : ∀ i, i < m.Data.length → I64 (nth m.Data i)
  dataN : m.Data.length * 8 ≤ reachBytes
  lines : ∀ i, i < m.Lines.length → I64 (nth m.Lines i).At ∧ I64 (nth m.Lines i).N
  linesN : m.Lines.length * 16 ≤ reachBytes
  entry : I64 m.Entry

theorem array6 {α : Type} {a : Array α} (h : a.size = 6) : ∃ c0 c1 c2 c3 c4 c5, a = #[c0, c1, c2, c3, c4, c5] := by
  obtain ⟨l⟩ := a
  match l, h with
  | [c0, c1, c2, c3, c4, c5], _ => exact ⟨c0, c1, c2, c3, c4, c5, rfl⟩

theorem img_open {r : Reach} {b0 : Nat} {v : Value} {d : DataW H} {p : List MemPlace} (hv : Value.okWide Tryz.prog w r b0 47 v) (h : DataW.Trod enc Tryz.prog w 0 (fun _ => true) true 47 v d p) (hf : Fits Tryz.prog 47 d) :
    ∃ m : Img, ImgAt w v m ∧ ImgOk m := by
  obtain ⟨cs, rfl, hsz⟩ := okWide_struct Tryz.underlying47 hv
  obtain ⟨c0, c1, c2, c3, c4, c5, rfl⟩ := array6 (hsz.trans cells_img)
  obtain ⟨fuel, ht⟩ := h
  obtain ⟨xs, n, -, hd, -, hl, hx⟩ := DataW.trod_struct Tryz.underlying47 ht
  simp only [List.size_toArray, List.length_cons, List.length_nil] at hl
  match xs, hl with
  | [y0, y1, y2, y3, y4, y5], _ =>
    simp only [Prod.mk.injEq] at hd
    obtain ⟨rfl, -⟩ := hd
    have hfw : ∀ (j : Nat) (t : TypeId) (y : DataW H), [32, 44, 23, 24, 45, 3][j]? = some t → ([y0, y1, y2, y3, y4, y5].map (·.1))[j]? = some y → Fits Tryz.prog t y := fun j t y h1 h2 k hk => by
      refine hf k ?_
      simp only [DataW.weights, Tryz.underlying47]
      exact DataW.weights_mem_each h1 h2 k hk
    have h0 := hx 0 _ rfl
    have h1 := hx 1 _ rfl
    have h2 := hx 2 _ rfl
    have h3 := hx 3 _ rfl
    have h4 := hx 4 _ rfl
    have h5 := hx 5 _ rfl
    simp only [List.getElem?_cons_zero, List.getElem?_cons_succ] at h0 h1 h2 h3 h4 h5
    obtain ⟨l0, a0, b0⟩ := bytes_open Tryz.underlying32 cells_u8 Tryz.underlying5 bytes_u8 h0 (hfw 0 _ _ rfl rfl)
    obtain ⟨l1, a1, b1, n1⟩ := funs_open h1 (hfw 1 _ _ rfl rfl)
    obtain ⟨l2, a2, b2, n2⟩ := tabs_open h2 (hfw 2 _ _ rfl rfl)
    obtain ⟨l3, a3, b3, n3⟩ := ints_open Tryz.underlying24 cells_int Tryz.underlying3 bytes_int h3 (hfw 3 _ _ rfl rfl)
    obtain ⟨l4, a4, b4, n4⟩ := lines_open h4 (hfw 4 _ _ rfl rfl)
    obtain ⟨z, rfl, b5⟩ := int_open Tryz.underlying3 h5
    exact ⟨⟨l0, l1, l2, l3, l4, z⟩, ⟨c0, c1, c2, c3, c4, rfl, a0, a1, a2, a3, a4⟩, ⟨b0, b1, n1, b2, n2, b3, n3, b4, n4, b5⟩⟩
end
end Go.Proofs.YtjnhiiidcjajbaaGreatDoor
