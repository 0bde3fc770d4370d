/-
  An argument of the type api.Instr, opened.
-/
import Derived.Test.YtckofmijaiahbaaDoorIsa0
import Derived.Test.YtckofmijaiahbaaDoorLift
namespace Go.Proofs.YtckofmijaiahbaaDoor
open Go.RowKit BH Go.ChangeShapes Go.WideShapes Go.Deep
set_option maxRecDepth 100000
section
variable {H : Type} {enc : TypeId × Value → H} {w : World}
theorem cells_ins : Tryd.prog.cellsOf 23 = 6 := by kernel_rfl
theorem cells_in : Tryd.prog.cellsOf 3 = 1 := by kernel_rfl
theorem cells_bool : Tryd.prog.cellsOf 4 = 1 := by kernel_rfl
theorem array6' {α : Type} {a : Array α} (h : a.size = 6) : ∃ c0 c1 c2 c3 c4 c5, a = #[c0, c1, c2, c3, c4, c5] := by
  obtain ⟨l⟩ := a
  match l, h with
  | [c0, c1, c2, c3, c4, c5], _ => exact ⟨c0, c1, c2, c3, c4, c5, rfl⟩
theorem ins_cells {fuel : Nat} {c0 c1 c2 c3 c4 c5 : Value} {x : DataW H × List MemPlace} {base : Nat} {sp : Nat → Bool} {hd : Bool} (h : DataW.trod enc Tryd.prog w base sp hd fuel 23 [c0, c1, c2, c3, c4, c5] = some x) :
    ∃ K D A B N Lg, c0 = .int .i64 K ∧ c1 = .int .i64 D ∧ c2 = .int .i64 A ∧ c3 = .int .i64 B ∧ c4 = .int .i64 N ∧ c5 = .bool Lg ∧ I64 K ∧ I64 D ∧ I64 A ∧ I64 B ∧ I64 N := by
  obtain ⟨xs, n, -, hd, -, hl, hx⟩ := DataW.trod_struct Tryd.underlying23 h
  simp only [List.size_toArray, List.length_cons, List.length_nil] at hl
  match xs, hl with
  | [y0, y1, y2, y3, y4, y5], _ =>
    have h0 := hx 0 _ rfl
    have h1 := hx 1 _ rfl
    have h2 := hx 2 _ rfl
    have h3 := hx 3 _ rfl
    have h4 := hx 4 _ rfl
    have h5 := hx 5 _ rfl
    simp only [List.getElem?_cons_zero, List.getElem?_cons_succ] at h0 h1 h2 h3 h4 h5
    obtain ⟨K, rfl, b0⟩ := int_open Tryd.underlying3 h0
    obtain ⟨D, rfl, b1⟩ := int_open Tryd.underlying3 h1
    obtain ⟨A, rfl, b2⟩ := int_open Tryd.underlying3 h2
    obtain ⟨B, rfl, b3⟩ := int_open Tryd.underlying3 h3
    obtain ⟨N, rfl, b4⟩ := int_open Tryd.underlying3 h4
    obtain ⟨Lg, hc, -⟩ := DataW.trod_bool Tryd.underlying4 h5
    have hc' : [c5] = [.bool Lg] := hc
    simp only [List.cons.injEq, and_true] at hc'
    exact ⟨K, D, A, B, N, Lg, rfl, rfl, rfl, rfl, rfl, hc', b0, b1, b2, b3, b4⟩
theorem ins_open {r : Reach} {b0 : Nat} {v : Value} {d : DataW H} {p : List MemPlace} (hv : Value.okWide Tryd.prog w r b0 23 v) (h : DataW.Trod enc Tryd.prog w 0 (fun _ => true) true 23 v d p) :
    ∃ K D A B N Lg, v = insV K D A B N Lg ∧ I64 K ∧ I64 D ∧ I64 A ∧ I64 B ∧ I64 N := by
  obtain ⟨cs, rfl, hsz⟩ := okWide_struct Tryd.underlying23 hv
  obtain ⟨c0, c1, c2, c3, c4, c5, rfl⟩ := array6' (hsz.trans cells_ins)
  obtain ⟨fuel, ht⟩ := h
  obtain ⟨K, D, A, B, N, Lg, rfl, rfl, rfl, rfl, rfl, rfl, hh⟩ := ins_cells ht
  exact ⟨K, D, A, B, N, Lg, rfl, hh⟩
end
end Go.Proofs.YtckofmijaiahbaaDoor
