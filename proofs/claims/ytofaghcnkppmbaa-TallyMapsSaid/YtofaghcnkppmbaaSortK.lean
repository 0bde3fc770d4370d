/-
  A row of elements of some cells each, sorted by the library's slices.SortFunc: what the slice of the call's own holds then. No program is named here.
-/
import Derived.Test.YtofaghcnkppmbaaRowSort
import Derived.Sort.OwnSortedInts
import Derived.Shelf.SlSortCmp.InsertionK
namespace Go.Proofs.Ytofaghcnkppmbaa.BH
open Go.RowKit Go.Sort
set_option maxRecDepth 100000
variable {γ : Type} [Inhabited γ]
section
variable {w0 w : World} {g : Nat} {e : TypeId} {k : Nat} {f : γ → List Value} {rest : Array Value} {d : Array γ}
theorem SRow.holdsK (h : SRow w0 g e k f rest d w) : HoldsK f k w g 0 d := fun j hj => by
  rw [Nat.zero_add]
  refine ⟨h.blk.cell ?_, h.blk.thawed j⟩
  rw [Array.getElem?_append_left hj, Array.getElem?_eq_getElem hj, getElem!_pos (flatK f k d) j hj]
  rfl
theorem SRow.sorted (h : SRow w0 g e k f rest d w) {d' : Array γ} (hd : d'.size = d.size) (n : Nat) (os : Array Obj) : SRow w0 g e k f rest d' (sortWorldK f k w g 0 n d' os) := by
  have hF : (flatK f k d').size = (flatK f k d).size := by rw [size_flatK, size_flatK, hd]
  have hg := h.glt
  refine ⟨grown_trans h.gr ⟨rfl, rfl, rfl, by simp [sortWorldK, putRowK], fun q hq hne => ?_⟩, h.lt, ?_, h.fk⟩
  · unfold sortWorldK putRowK
    rw [heap_grow_old _ _ (by simpa using hq)]
    have : g ≠ q := fun e => hne (by rw [e])
    simp [putRow, mapBlock, Sort.ahead, Array.getElem?_modify, this]
  · have hb : w.heap[g]? = some (.cells (flatK f k d ++ rest) e) := h.blk
    show (sortWorldK f k w g 0 n d' os).heap[g]? = _
    unfold sortWorldK putRowK
    rw [heap_grow_old _ _ (by simpa using hg)]
    have e1 : putCells id 0 (flatK f k d') (flatK f k d ++ rest) = flatK f k d' ++ rest := by
      apply Array.ext
      · simp [putCells, hd]
      · intro j h1 h2
        by_cases hj : j < (flatK f k d').size
        · rw [Array.getElem_append_left hj]
          simp only [putCells, Array.getElem_mapIdx, Nat.zero_le, Nat.zero_add, hj, and_self, if_true, Nat.sub_zero]
          exact getElem!_pos _ _ _
        · rw [Array.getElem_append_right (by omega)]
          simp only [putCells, Array.getElem_mapIdx, Nat.zero_le, Nat.zero_add, hj, and_false, if_false]
          rw [Array.getElem_append_right (by omega)]
          simp only [hF]
    simp [putRow, mapBlock, Sort.ahead, Array.getElem?_modify, hb, onCells, e1]
end
end Go.Proofs.Ytofaghcnkppmbaa.BH
