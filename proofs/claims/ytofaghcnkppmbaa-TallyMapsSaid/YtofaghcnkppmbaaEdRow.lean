/-
  A slice of edges of the call's own.
-/
import Derived.Test.YtofaghcnkppmbaaOwn
namespace Go.Proofs.Ytofaghcnkppmbaa
open Go.RowKit BH
set_option maxRecDepth 100000
def ced (x : Ed) : List Value := [.int .i64 x.From, .int .i64 x.To, .int .i64 x.Count]
theorem ced_len (x : Ed) : (ced x).length = 3 := rfl
theorem ced_one (x : Ed) : ∀ u ∈ ced x, u.oneCell' = true := by intro u hu; simp [ced] at hu; rcases hu with rfl | rfl | rfl <;> rfl
theorem own_ed {w : World} {base : Nat} {e : TypeId} {v : Value} {l : List Ed} (h : Own w base e 3 ced v l) : Edges w v l := by
  refine (h.arr ced_len).congr fun i j _ hj => ?_
  match j, hj with
  | 0, _ => rfl
  | 1, _ => rfl
  | 2, _ => rfl
theorem edges_nil (w : World) : Edges w (.slice none 0 0) [] := own_ed (Own.nil w 0 0 3 ced)
end Go.Proofs.Ytofaghcnkppmbaa
