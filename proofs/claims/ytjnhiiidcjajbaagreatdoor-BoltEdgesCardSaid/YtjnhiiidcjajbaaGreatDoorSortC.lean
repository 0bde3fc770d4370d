/-
  A slice of edges of the call's own.
  slices.Sort and slices.Compact on a slice of ints that is the call's own.
-/
import Derived.Test.YtjnhiiidcjajbaaGreatDoorOwn
import Derived.Test.YtjnhiiidcjajbaaGreatDoorShelf
import Derived.Test.YtjnhiiidcjajbaaGreatDoorTypes
import Derived.Sort.OwnSortedInts
import Derived.Lib.OwnBridge
section
namespace Go.Proofs.YtjnhiiidcjajbaaGreatDoor
open Go.RowKit BH
set_option maxRecDepth 100000
def ced (x : Ed) : List Value := [.int .i64 x.From, .int .i64 x.To, .int .i64 x.Count]
theorem ced_len (x : Ed) : (ced x).length = 3 := rfl
theorem ced_one (x : Ed) : ∀ u ∈ ced x, u.oneCell' = true := by intro u hu; simp [ced] at hu; rcases hu with rfl | rfl | rfl <;> rfl
theorem own_ed {w : World} {base : Nat} {e : TypeId} {v : Value} {l : List Ed} (h : Own w base e 3 ced v l) : Edges w v l := by
  refine (h.arr ced_len).congr fun i j _ hj => ?_
  match j, hj with
  | 0, _ => rfl
  | 1, _ => rfl
  | 2, _ => rfl
theorem edges_nil (w : World) : Edges w (.slice none 0 0) [] := own_ed (Own.nil w 0 0 3 ced)
end Go.Proofs.YtjnhiiidcjajbaaGreatDoor
end
section
namespace Go.Proofs.YtjnhiiidcjajbaaGreatDoor
open Go.RowKit BH Go.Sort
set_option maxRecDepth 100000

theorem ci_flat (l : List Int) : l.flatMap ci = l.map (Value.int .i64) := by
  induction l with
  | nil => rfl
  | cons x r ih => simp [ci, ih]
theorem sort_own {base : Nat} {v : Value} {l : List Int} {w : World} (h : Own w base 3 1 ci v l) (hl : l.length < 4611686018427387904) (hb : base ≤ w.heap.size) :
    Calls Tryz.prog 80 #[v] w fun e w' => e = .returned (.tuple #[]) ∧ Own w' base 3 1 ci v (l.mergeSort fun x y => decide (x ≤ y)) ∧ Below base w w' := by
  by_cases hv : v = .slice none 0 0
  · subst hv
    have h0 : l = [] := by
      rcases h.2 with ⟨_, h0⟩ | ⟨g, cap, cur, hv, _⟩
      · exact List.eq_nil_of_length_eq_zero h0
      · cases hv
    subst h0
    refine (Any.slices_Sort_int_none Tryz.laysSort none 0 w).mono fun e w' ⟨he, hw⟩ => ?_
    subst hw
    exact ⟨he, by rw [List.mergeSort_nil]; exact h, Below.refl _ _⟩
  · have hown : w.ownsRow base 3 1 v l.length (l.map (Value.int .i64)) := by rw [← ci_flat]; exact h
    obtain ⟨g, cap, rfl, hbg, hgl, hnc, hcm, -, hH⟩ := Lib.holds_of_ownsRow hown hv
    refine (Any.slices_Sort_int Tryz.laysSort g 0 cap l w hH hgl hl).mono fun e w' ⟨he, n, os, hw⟩ => ?_
    subst hw
    rcases hown.2 with ⟨h0, _⟩ | ⟨g', cap', cur, hv', hbase, hgb, h1, h2, h3, h4⟩
    · cases h0
    cases hv'
    have hlen : (l.mergeSort fun x y => decide (x ≤ y)).length = l.length := List.length_mergeSort l
    have hs := ownsRow_sortedI (n := n) (os := os) (ts := l.mergeSort fun x y => decide (x ≤ y)) hlen hbase hgb h1 h2 h3
    refine ⟨he, ?_, below_grown (grownBy_sortedI _) hb (fun k hk => by cases hk; exact hbase)⟩
    unfold Own
    rw [ci_flat, hlen]
    exact hs
theorem compact_own {base : Nat} {v : Value} {l : List Int} {w : World} (h : Own w base 3 1 ci v l) (hl : l.length ≤ 9223372036854775807) (hb : base ≤ w.heap.size) :
    Calls Tryz.prog 81 #[v] w fun e w' => ∃ v', e = .returned v' ∧ Own w' base 3 1 ci v' (Lib.compact l) ∧ Below base w w' := by
  by_cases hv : v = .slice none 0 0
  · subst hv
    have h0 : l = [] := by
      rcases h.2 with ⟨_, h0⟩ | ⟨g, cap, cur, hv, _⟩
      · exact List.eq_nil_of_length_eq_zero h0
      · cases hv
    subst h0
    refine (Any.slices_Compact_int_empty Tryz.laysCompact none 0 w).mono fun e w' ⟨he, hw⟩ => ?_
    subst hw
    exact ⟨_, he, h, Below.refl _ _⟩
  · have hown : w.ownsRow base 3 1 v l.length (l.map (Value.int .i64)) := by rw [← ci_flat]; exact h
    obtain ⟨g, cap, rfl, hbg, hgl, hnc, hcm, -, hH⟩ := Lib.holds_of_ownsRow hown hv
    refine (Any.slices_Compact_int Tryz.laysCompact g 0 cap l w hH hl hnc).mono fun e w' ⟨he, q, hw⟩ => ?_
    subst hw
    have hle := Lib.compact_length_le l
    have hc := Lib.ownsRow_putRow (q := q) (k := (Lib.compact l).length) (ys := Lib.compact l ++ List.replicate (l.length - (Lib.compact l).length) 0) hown (by simp; omega) hle
    rw [List.take_left] at hc
    refine ⟨_, he, ?_, Lib.below_putRow (Below.refl _ _) hbg⟩
    unfold Own
    rw [ci_flat]
    exact hc
end Go.Proofs.YtjnhiiidcjajbaaGreatDoor
end
