/-
  An argument of the type api.Image, opened: what it reads as is an image in memory; and how many bytes its lists may take.
-/
import Derived.Test.YtofaghcnkppmbaaProg
import Derived.Test.YtofaghcnkppmbaaLift
import Derived.KernelRfl
namespace Go.Proofs.Ytofaghcnkppmbaa
open Go.RowKit BH Go.ChangeShapes Go.WideShapes Go.Deep
set_option maxRecDepth 100000
section
variable {H : Type} {enc : TypeId × Value → H} {w : World}
theorem cells_int : Try.prog.cellsOf 3 = 1 := by kernel_rfl
theorem bytes_int : Try.prog.bytesOf 3 = 8 := by kernel_rfl
theorem cells_u8 : Try.prog.cellsOf 5 = 1 := by kernel_rfl
theorem bytes_u8 : Try.prog.bytesOf 5 = 1 := by kernel_rfl
theorem cells_ints : Try.prog.cellsOf 24 = 1 := by kernel_rfl
theorem bytes_ints : Try.prog.bytesOf 24 = 24 := by kernel_rfl
theorem cells_str : Try.prog.cellsOf 9 = 1 := by kernel_rfl
theorem cells_tabs : Try.prog.cellsOf 23 = 1 := by kernel_rfl
theorem tabs_open {fuel : Nat} {c : Value} {x : DataW H × List MemPlace} (h : DataW.trod enc Try.prog w 0 (fun _ => true) true fuel 23 [c] = some x) (hf : Fits Try.prog 23 x.1) :
    ∃ l : List (List Int), Tabs w c l ∧ (∀ i, i < l.length → (∀ j, j < (nth l i).length → I64 (nth (nth l i) j)) ∧ (nth l i).length * 8 ≤ reachBytes) ∧ l.length * 24 ≤ reachBytes := by
  obtain ⟨n, m, cs, ha, hb, hx⟩ := arr_open Try.underlying23 cells_ints (by omega) h hf
  obtain ⟨f, hfz⟩ := choose_lt (α := List Int) (p := fun i z => Ints w (cs i 0) z ∧ (∀ j, j < z.length → I64 (nth z j)) ∧ z.length * 8 ≤ reachBytes) (fun i hi => by
    obtain ⟨y, hy, hfy⟩ := hx i hi
    exact ints_open Try.underlying24 cells_int Try.underlying3 bytes_int hy hfy)
  refine ⟨(List.range n).map f, ⟨fun i => cs i 0, ?_, fun i hi => ?_⟩, fun i hi => ?_, by simpa [bytes_ints] using hb⟩
  · simp only [List.length_map, List.length_range]
    exact ha.congr fun i j hi hj => by rw [show j = 0 by omega]
  · simp only [List.length_map, List.length_range] at hi
    rw [nth_map_range f hi]; exact (hfz i hi).1
  · simp only [List.length_map, List.length_range] at hi
    rw [nth_map_range f hi]; exact (hfz i hi).2

/-- what is known of the numbers and lengths of an image that came in -/
structure ImgOk (m : Img) : Prop where
  text : m.Text.length ≤ reachBytes
  funs : ∀ i, i < m.Funcs.length → (nth m.Funcs i).Name.size ≤ maxLen ∧ I64 (nth m.Funcs i).Start ∧ I64 (nth m.Funcs i).Size
  funsN : m.Funcs.length * 32 ≤ reachBytes
  tabs : ∀ i, i < m.Tables.length → (∀ j, j < (nth m.Tables i).length → I64 (nth (nth m.Tables i) j)) ∧ (nth m.Tables i).length * 8 ≤ reachBytes
  tabsN : m.Tables.length * 24 ≤ reachBytes
  data : ∀ i, i < m.Data.length → I64 (nth m.Data i)
  dataN : m.Data.length * 8 ≤ reachBytes
  lines : ∀ i, i < m.Lines.length → I64 (nth m.Lines i).At ∧ I64 (nth m.Lines i).N
  linesN : m.Lines.length * 16 ≤ reachBytes
  entry : I64 m.Entry

theorem array6 {α : Type} {a : Array α} (h : a.size = 6) : ∃ c0 c1 c2 c3 c4 c5, a = #[c0, c1, c2, c3, c4, c5] := by
  obtain ⟨l⟩ := a
  match l, h with
  | [c0, c1, c2, c3, c4, c5], _ => exact ⟨c0, c1, c2, c3, c4, c5, rfl⟩

end
end Go.Proofs.Ytofaghcnkppmbaa
