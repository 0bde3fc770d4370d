/-
  An argument of the type []api.Edge, opened.
-/
import Derived.Test.YtofaghcnkppmbaaProg
import Derived.Test.YtofaghcnkppmbaaLift
import Derived.KernelRfl
namespace Go.Proofs.Ytofaghcnkppmbaa
open Go.RowKit BH Go.ChangeShapes Go.WideShapes Go.Deep
set_option maxRecDepth 100000
section
variable {H : Type} {enc : TypeId × Value → H} {w : World}
theorem cells_edge : Try.prog.cellsOf 44 = 3 := by kernel_rfl
theorem bytes_edge : Try.prog.bytesOf 44 = 24 := by kernel_rfl
theorem cells_int' : Try.prog.cellsOf 3 = 1 := by kernel_rfl
theorem edge_open {fuel : Nat} {c0 c1 c2 : Value} {x : DataW H × List MemPlace} (h : DataW.trod enc Try.prog w 0 (fun _ => true) true fuel 44 [c0, c1, c2] = some x) :
    ∃ z : Ed, c0 = .int .i64 z.From ∧ c1 = .int .i64 z.To ∧ c2 = .int .i64 z.Count ∧ I64 z.From ∧ I64 z.To ∧ I64 z.Count := by
  obtain ⟨y0, y1, y2, n, -, -, h0, h1, h2⟩ := trod_struct3 Try.underlying44 h
  simp only [cells_int', List.drop, List.take] at h0 h1 h2
  obtain ⟨a, rfl, ha⟩ := int_open Try.underlying3 h0
  obtain ⟨b, rfl, hb⟩ := int_open Try.underlying3 h1
  obtain ⟨c, rfl, hc⟩ := int_open Try.underlying3 h2
  exact ⟨⟨a, b, c⟩, rfl, rfl, rfl, ha, hb, hc⟩
theorem edges_open {fuel : Nat} {c : Value} {x : DataW H × List MemPlace} (h : DataW.trod enc Try.prog w 0 (fun _ => true) true fuel 27 [c] = some x) (hf : Fits Try.prog 27 x.1) :
    ∃ l : List Ed, Edges w c l ∧ (∀ i, i < l.length → I64 (nth l i).From ∧ I64 (nth l i).To ∧ I64 (nth l i).Count) ∧ l.length * 24 ≤ reachBytes := by
  obtain ⟨n, m, cs, ha, hb, hx⟩ := arr_open Try.underlying27 cells_edge (by omega) h hf
  obtain ⟨f, hfz⟩ := choose_lt (α := Ed) (p := fun i z => cs i 0 = .int .i64 z.From ∧ cs i 1 = .int .i64 z.To ∧ cs i 2 = .int .i64 z.Count ∧ I64 z.From ∧ I64 z.To ∧ I64 z.Count) (fun i hi => by
    obtain ⟨y, hy, _⟩ := hx i hi
    exact edge_open hy)
  refine ⟨(List.range n).map f, ?_, fun i hi => ?_, by simpa [bytes_edge] using hb⟩
  · unfold Edges
    simp only [List.length_map, List.length_range]
    exact ha.congr fun i j hi hj => by
      rw [nth_map_range f hi]
      obtain ⟨h0, h1, h2, _⟩ := hfz i hi
      match j, hj with
      | 0, _ => exact h0
      | 1, _ => exact h1
      | 2, _ => exact h2
  · simp only [List.length_map, List.length_range] at hi
    rw [nth_map_range f hi]; exact (hfz i hi).2.2.2
end
end Go.Proofs.Ytofaghcnkppmbaa
