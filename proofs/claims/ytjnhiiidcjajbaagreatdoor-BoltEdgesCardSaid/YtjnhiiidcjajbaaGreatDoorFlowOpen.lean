/-
  An argument of the type api.Flow, opened: what it reads as is a flow in memory; and how many bytes its lists may take.
-/
import Derived.Test.YtjnhiiidcjajbaaGreatDoorFlowCore
import Derived.Test.YtjnhiiidcjajbaaGreatDoorImgOpen
namespace Go.Proofs.YtjnhiiidcjajbaaGreatDoor
open Go.RowKit BH Go.ChangeShapes Go.WideShapes Go.Deep
set_option maxRecDepth 100000
section
variable {H : Type} {enc : TypeId × Value → H} {w : World}
theorem cells_instr : Tryz.prog.cellsOf 62 = 6 := by kernel_rfl
theorem bytes_instr : Tryz.prog.bytesOf 62 = 48 := by kernel_rfl
theorem cells_block : Tryz.prog.cellsOf 64 = 14 := by kernel_rfl
theorem bytes_block : Tryz.prog.bytesOf 64 = 160 := by kernel_rfl
theorem cells_flow : Tryz.prog.cellsOf 26 = 3 := by kernel_rfl
theorem cells_instrs : Tryz.prog.cellsOf 60 = 1 := by kernel_rfl
theorem cells_blocks : Tryz.prog.cellsOf 22 = 1 := by kernel_rfl

theorem ic_open {fuel : Nat} {c0 c1 c2 c3 c4 c5 : Value} {x : DataW H × List MemPlace} (h : DataW.trod enc Tryz.prog w 0 (fun _ => true) true fuel 62 [c0, c1, c2, c3, c4, c5] = some x) :
    ∃ z : Ic, c0 = z.c 0 ∧ c1 = z.c 1 ∧ c2 = z.c 2 ∧ c3 = z.c 3 ∧ c4 = z.c 4 ∧ c5 = z.c 5 ∧ I64 z.K ∧ I64 z.D ∧ I64 z.A ∧ I64 z.B ∧ I64 z.N := by
  obtain ⟨xs, n, -, hd, -, hl, hx⟩ := DataW.trod_struct Tryz.underlying62 h
  simp only [List.size_toArray, List.length_cons, List.length_nil] at hl
  match xs, hl with
  | [y0, y1, y2, y3, y4, y5], _ =>
    have h0 := hx 0 _ rfl
    have h1 := hx 1 _ rfl
    have h2 := hx 2 _ rfl
    have h3 := hx 3 _ rfl
    have h4 := hx 4 _ rfl
    have h5 := hx 5 _ rfl
    simp only [List.getElem?_cons_zero, List.getElem?_cons_succ] at h0 h1 h2 h3 h4 h5
    obtain ⟨K, rfl, b0⟩ := int_open Tryz.underlying3 h0
    obtain ⟨D, rfl, b1⟩ := int_open Tryz.underlying3 h1
    obtain ⟨A, rfl, b2⟩ := int_open Tryz.underlying3 h2
    obtain ⟨B, rfl, b3⟩ := int_open Tryz.underlying3 h3
    obtain ⟨N, rfl, b4⟩ := int_open Tryz.underlying3 h4
    obtain ⟨Lg, hc, -⟩ := DataW.trod_bool Tryz.underlying4 h5
    have hc' : [c5] = [.bool Lg] := hc
    simp only [List.cons.injEq, and_true] at hc'
    exact ⟨⟨K, D, A, B, N, Lg⟩, rfl, rfl, rfl, rfl, rfl, hc', b0, b1, b2, b3, b4⟩
theorem instrs_open {fuel : Nat} {c : Value} {x : DataW H × List MemPlace} (h : DataW.trod enc Tryz.prog w 0 (fun _ => true) true fuel 60 [c] = some x) (hf : Fits Tryz.prog 60 x.1) :
    ∃ l : List Ic, Instrs w c l ∧ (∀ i, i < l.length → I64 (nth l i).K ∧ I64 (nth l i).D ∧ I64 (nth l i).A ∧ I64 (nth l i).B ∧ I64 (nth l i).N) ∧ l.length * 48 ≤ reachBytes := by
  obtain ⟨n, m, cs, ha, hb, hx⟩ := arr_open Tryz.underlying60 cells_instr (by omega) h hf
  obtain ⟨f, hfz⟩ := choose_lt (α := Ic) (p := fun i z => (∀ j, j < 6 → cs i j = z.c j) ∧ I64 z.K ∧ I64 z.D ∧ I64 z.A ∧ I64 z.B ∧ I64 z.N) (fun i hi => by
    obtain ⟨y, hy, _⟩ := hx i hi
    obtain ⟨z, e0, e1, e2, e3, e4, e5, hh⟩ := ic_open hy
    refine ⟨z, fun j hj => ?_, hh⟩
    match j, hj with
    | 0, _ => exact e0
    | 1, _ => exact e1
    | 2, _ => exact e2
    | 3, _ => exact e3
    | 4, _ => exact e4
    | 5, _ => exact e5)
  refine ⟨(List.range n).map f, ?_, fun i hi => ?_, by simpa [bytes_instr] using hb⟩
  · unfold Instrs
    simp only [List.length_map, List.length_range]
    exact ha.congr fun i j hi hj => by
      rw [nth_map_range f hi]
      exact (hfz i hi).1 j hj
  · simp only [List.length_map, List.length_range] at hi
    rw [nth_map_range f hi]; exact (hfz i hi).2

structure BkOk (b : Bk) : Prop where
  code : ∀ i, i < b.Code.length → I64 (nth b.Code i).K ∧ I64 (nth b.Code i).D ∧ I64 (nth b.Code i).A ∧ I64 (nth b.Code i).B ∧ I64 (nth b.Code i).N
  codeN : b.Code.length * 48 ≤ reachBytes
  at_ : ∀ i, i < b.At.length → I64 (nth b.At i)
  atN : b.At.length * 8 ≤ reachBytes
  lines : ∀ i, i < b.Lines.length → I64 (nth b.Lines i)
  linesN : b.Lines.length * 8 ≤ reachBytes
  ints : I64 b.Func ∧ I64 b.Start ∧ I64 b.Ends ∧ I64 b.To ∧ I64 b.Else
theorem block_open {fuel : Nat} {c0 c1 c2 c3 c4 c5 c6 c7 c8 c9 c10 c11 c12 c13 : Value} {x : DataW H × List MemPlace} (h : DataW.trod enc Tryz.prog w 0 (fun _ => true) true fuel 64 [c0, c1, c2, c3, c4, c5, c6, c7, c8, c9, c10, c11, c12, c13] = some x) (hf : Fits Tryz.prog 64 x.1) :
    ∃ z : Bk, (∀ j, j < 14 → [c0, c1, c2, c3, c4, c5, c6, c7, c8, c9, c10, c11, c12, c13].getD j undef = z.c c2 c3 c13 j) ∧ Instrs w c2 z.Code ∧ Ints w c3 z.At ∧ Ints w c13 z.Lines ∧ BkOk z := by
  obtain ⟨xs, n, -, hd, -, hl, hx⟩ := DataW.trod_struct Tryz.underlying64 h
  simp only [List.size_toArray, List.length_cons, List.length_nil] at hl
  match xs, hl with
  | [y0, y1, y2, y3, y4, y5, y6, y7, y8], _ =>
    obtain ⟨d, pl⟩ := x
    simp only [Prod.mk.injEq] at hd
    obtain ⟨rfl, -⟩ := hd
    have hfw : ∀ (j : Nat) (t : TypeId) (y : DataW H), [3, 3, 60, 24, 62, 3, 3, 3, 24][j]? = some t → ([y0, y1, y2, y3, y4, y5, y6, y7, y8].map (·.1))[j]? = some y → Fits Tryz.prog t y := fun j t y h1 h2 k hk => by
      refine hf k ?_
      simp only [DataW.weights, Tryz.underlying64]
      exact DataW.weights_mem_each h1 h2 k hk
    have h0 := hx 0 _ rfl
    have h1 := hx 1 _ rfl
    have h2 := hx 2 _ rfl
    have h3 := hx 3 _ rfl
    have h4 := hx 4 _ rfl
    have h5 := hx 5 _ rfl
    have h6 := hx 6 _ rfl
    have h7 := hx 7 _ rfl
    have h8 := hx 8 _ rfl
    simp only [List.getElem?_cons_zero, List.getElem?_cons_succ] at h0 h1 h2 h3 h4 h5 h6 h7 h8
    obtain ⟨a0, rfl, b0⟩ := int_open Tryz.underlying3 h0
    obtain ⟨a1, rfl, b1⟩ := int_open Tryz.underlying3 h1
    obtain ⟨l2, i2, o2, n2⟩ := instrs_open h2 (hfw 2 _ _ rfl rfl)
    obtain ⟨l3, i3, o3, n3⟩ := ints_open Tryz.underlying24 cells_int Tryz.underlying3 bytes_int h3 (hfw 3 _ _ rfl rfl)
    obtain ⟨z, e0, e1, e2, e3, e4, e5, hz⟩ := ic_open h4
    obtain ⟨a5, rfl, b5⟩ := int_open Tryz.underlying3 h5
    obtain ⟨a6, rfl, b6⟩ := int_open Tryz.underlying3 h6
    obtain ⟨a7, rfl, b7⟩ := int_open Tryz.underlying3 h7
    obtain ⟨l8, i8, o8, n8⟩ := ints_open Tryz.underlying24 cells_int Tryz.underlying3 bytes_int h8 (hfw 8 _ _ rfl rfl)
    refine ⟨⟨a0, a1, l2, l3, z, a5, a6, a7, l8⟩, fun j hj => ?_, i2, i3, i8, ⟨o2, n2, o3, n3, o8, n8, b0, b1, b5, b6, b7⟩⟩
    match j, hj with
    | 0, _ => rfl
    | 1, _ => rfl
    | 2, _ => rfl
    | 3, _ => rfl
    | 4, _ => exact e0
    | 5, _ => exact e1
    | 6, _ => exact e2
    | 7, _ => exact e3
    | 8, _ => exact e4
    | 9, _ => exact e5
    | 10, _ => rfl
    | 11, _ => rfl
    | 12, _ => rfl
    | 13, _ => rfl
theorem blocks_open {fuel : Nat} {c : Value} {x : DataW H × List MemPlace} (h : DataW.trod enc Tryz.prog w 0 (fun _ => true) true fuel 22 [c] = some x) (hf : Fits Tryz.prog 22 x.1) :
    ∃ l : List Bk, Blocks w c l ∧ (∀ i, i < l.length → BkOk (nth l i)) ∧ l.length * 160 ≤ reachBytes := by
  obtain ⟨n, m, cs, ha, hb, hx⟩ := arr_open Tryz.underlying22 cells_block (by omega) h hf
  obtain ⟨f, hfz⟩ := choose_lt (α := Bk) (p := fun i z => (∀ j, j < 14 → cs i j = z.c (cs i 2) (cs i 3) (cs i 13) j) ∧ Instrs w (cs i 2) z.Code ∧ Ints w (cs i 3) z.At ∧ Ints w (cs i 13) z.Lines ∧ BkOk z) (fun i hi => by
    obtain ⟨y, hy, hfy⟩ := hx i hi
    obtain ⟨z, e, h1, h2, h3, h4⟩ := block_open hy hfy
    refine ⟨z, fun j hj => ?_, h1, h2, h3, h4⟩
    have := e j hj
    match j, hj, this with
    | 0, _, e => exact e
    | 1, _, e => exact e
    | 2, _, e => exact e
    | 3, _, e => exact e
    | 4, _, e => exact e
    | 5, _, e => exact e
    | 6, _, e => exact e
    | 7, _, e => exact e
    | 8, _, e => exact e
    | 9, _, e => exact e
    | 10, _, e => exact e
    | 11, _, e => exact e
    | 12, _, e => exact e
    | 13, _, e => exact e)
  refine ⟨(List.range n).map f, ⟨fun i => cs i 2, fun i => cs i 3, fun i => cs i 13, ?_, fun i hi => ?_⟩, fun i hi => ?_, by simpa [bytes_block] using hb⟩
  · simp only [List.length_map, List.length_range]
    exact ha.congr fun i j hi hj => by
      rw [nth_map_range f hi]
      exact (hfz i hi).1 j hj
  · simp only [List.length_map, List.length_range] at hi
    rw [nth_map_range f hi]
    exact ⟨(hfz i hi).2.1, (hfz i hi).2.2.1, (hfz i hi).2.2.2.1⟩
  · simp only [List.length_map, List.length_range] at hi
    rw [nth_map_range f hi]; exact (hfz i hi).2.2.2.2

/-- what is known of the numbers and lengths of a flow that came in -/
structure FlowOk (f : Fl) : Prop where
  blocks : ∀ i, i < f.Blocks.length → BkOk (nth f.Blocks i)
  blocksN : f.Blocks.length * 160 ≤ reachBytes
  tabs : ∀ i, i < f.Tables.length → (∀ j, j < (nth f.Tables i).length → I64 (nth (nth f.Tables i) j)) ∧ (nth f.Tables i).length * 8 ≤ reachBytes
  tabsN : f.Tables.length * 24 ≤ reachBytes
  firsts : ∀ i, i < f.Firsts.length → I64 (nth f.Firsts i)
  firstsN : f.Firsts.length * 8 ≤ reachBytes
theorem array3 {α : Type} {a : Array α} (h : a.size = 3) : ∃ c0 c1 c2, a = #[c0, c1, c2] := by
  obtain ⟨l⟩ := a
  match l, h with
  | [c0, c1, c2], _ => exact ⟨c0, c1, c2, rfl⟩
theorem flow_open {r : Reach} {b0 : Nat} {v : Value} {d : DataW H} {p : List MemPlace} (hv : Value.okWide Tryz.prog w r b0 26 v) (h : DataW.Trod enc Tryz.prog w 0 (fun _ => true) true 26 v d p) (hf : Fits Tryz.prog 26 d) :
    ∃ f : Fl, FlowAt w v f ∧ FlowOk f := by
  obtain ⟨cs, rfl, hsz⟩ := okWide_struct Tryz.underlying26 hv
  obtain ⟨c0, c1, c2, rfl⟩ := array3 (hsz.trans cells_flow)
  obtain ⟨fuel, ht⟩ := h
  obtain ⟨xs, n, -, hd, -, hl, hx⟩ := DataW.trod_struct Tryz.underlying26 ht
  simp only [List.size_toArray, List.length_cons, List.length_nil] at hl
  match xs, hl with
  | [y0, y1, y2], _ =>
    simp only [Prod.mk.injEq] at hd
    obtain ⟨rfl, -⟩ := hd
    have hfw : ∀ (j : Nat) (t : TypeId) (y : DataW H), [22, 23, 24][j]? = some t → ([y0, y1, y2].map (·.1))[j]? = some y → Fits Tryz.prog t y := fun j t y h1 h2 k hk => by
      refine hf k ?_
      simp only [DataW.weights, Tryz.underlying26]
      exact DataW.weights_mem_each h1 h2 k hk
    have h0 := hx 0 _ rfl
    have h1 := hx 1 _ rfl
    have h2 := hx 2 _ rfl
    simp only [List.getElem?_cons_zero, List.getElem?_cons_succ] at h0 h1 h2
    obtain ⟨l0, a0, b0, n0⟩ := blocks_open h0 (hfw 0 _ _ rfl rfl)
    obtain ⟨l1, a1, b1, n1⟩ := tabs_open h1 (hfw 1 _ _ rfl rfl)
    obtain ⟨l2, a2, b2, n2⟩ := ints_open Tryz.underlying24 cells_int Tryz.underlying3 bytes_int h2 (hfw 2 _ _ rfl rfl)
    exact ⟨⟨l0, l1, l2⟩, ⟨c0, c1, c2, rfl, a0, a1, a2⟩, ⟨b0, n0, b1, n1, b2, n2⟩⟩
end
end Go.Proofs.YtjnhiiidcjajbaaGreatDoor
