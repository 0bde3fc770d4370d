/-
  The comparison by which place.Order sorts edges: the greater Count first.
-/
import Derived.Test.YtofaghcnkppmbaaStabEdS
namespace Go.Proofs.Ytofaghcnkppmbaa
open Go.RowKit BH Go.Sort
set_option maxHeartbeats 10000000
set_option maxRecDepth 100000
/-- an edge whose Count may be -/
def CntOk (e : Ed) : Prop := 0 ≤ e.Count ∧ e.Count ≤ 1073741824
theorem two_grow (w : World) (a b : Obj) : ∃ q os, (w.alloc a).alloc b = grow (w.drewN q) os := ⟨0, #[a] ++ #[b], by rw [alloc_eq_grow, alloc_eq_grow, grow_grow]; rfl⟩
theorem order1_any (x y : Ed) (hx : CntOk x) (hy : CntOk y) (w : World) :
    Calls Try.prog 15 #[argEd x, argEd y] w fun e w' => e = .returned (.int .i64 (y.Count - x.Count)) ∧ ∃ q os, w' = grow (w.drewN q) os := by
  obtain ⟨x1, x2⟩ := hx
  obtain ⟨y1, y2⟩ := hy
  obtain ⟨xf, xt, xc⟩ := x
  obtain ⟨yf, yt, yc⟩ := y
  dsimp only at x1 x2 y1 y2
  unfold argEd
  go_enter Try.func15, Try.ntmps15
  go_wp2_with fail
  go_ret
  exact ⟨rfl, two_grow _ _ _⟩
theorem order1_cmp (g : Nat) (w : World) : CmpG Try.prog 15 #[] (fun z : Ed × Nat => argEd z.1) (fun x y : Ed × Nat => y.1.Count - x.1.Count) (fun z : Ed × Nat => CntOk z.1) g w :=
  fun w' _ x y hx hy => order1_any x.1 y.1 hx hy w'
/-- the clean order: the greater Count is less -/
def cntLt (x y : Ed) : Bool := decide (y.Count < x.Count)
theorem cntLt_swo : SWO cntLt := by
  refine ⟨fun x => by simp [cntLt], fun x y z h1 h2 => ?_, fun x y z h1 h2 => ?_⟩
  · simp only [cntLt, decide_eq_true_eq] at *; omega
  · simp only [cntLt, decide_eq_false_iff_not] at *; omega
/-- 'often', sorted -/
theorem often_sorted {w : World} {base : Nat} {v : Value} {l : List Ed} (h : Own w base 44 3 cEd v l) (hl : l.length < 1152921504606846976) (hc : ∀ e, e ∈ l → CntOk e) (hb : base ≤ w.heap.size) :
    Calls Try.prog 14 #[v, .func (.func 15) #[] #[]] w fun e w' => e = .returned (.tuple #[]) ∧ Own w' base 44 3 cEd v (l.mergeSort (leOf cntLt)) ∧ w.grownBy w' v.ownBlock :=
  sortStable_ed (cf := fun x y => y.Count - x.Count) (Q := fun x _ => CntOk x) (lt0 := cntLt) (enters_of Try.func15 (by kernel_rfl) rfl) (fun g _ => order1_cmp g w) cntLt_swo
    (fun x y _ _ _ _ _ => by unfold cntLt; congr 1; apply propext; constructor <;> intro h <;> omega) hl h (fun i hi => by rw [nth_eq l i hi]; exact hc _ (List.getElem_mem hi)) hb
end Go.Proofs.Ytofaghcnkppmbaa
