/-
  The law's sameParts and sameEdges, where both sides read alike.
-/
import Derived.Test.YtofaghcnkppmbaaSame
import Derived.Test.YtofaghcnkppmbaaOrdPartsM
import Derived.Deep.RegionHeld3
namespace Go.Proofs.Ytofaghcnkppmbaa
open Go.RowKit BH
set_option maxHeartbeats 10000000
set_option maxRecDepth 100000
theorem sameParts_yes (va vb : Value) (l : List Pa) (w : World) (ha : PartsAt w va l) (hb : PartsAt w vb l) :
    Calls Try.prog 7 #[va, vb] w fun e w' => e = .returned (.bool true) ∧ Keeps w w' := by
  obtain ⟨ta, ⟨ao, ca, rfl, a1, a2, -, a3⟩, ia⟩ := ha
  obtain ⟨tb, ⟨bo, cb, rfl, b1, b2, -, b3⟩, ib⟩ := hb
  unfold maxLen at a2 b2
  go_enter Try.func7, Try.ntmps7
  go_wp2
  go_loopw [5] (fun i wr => ∃ k : Nat, k ≤ l.length ∧ i = .int .i64 k ∧ Keeps w wr) (fun i _ => l.length - (intOf i).toNat)
  case atStart => exact ⟨0, Nat.zero_le _, rfl, Keeps.refl _⟩
  case round =>
    obtain ⟨k, hk, rfl, hkeep⟩ := hrel
    by_cases hlt : k < l.length
    · have hltz : (k : Int) < (l.length : Int) := by omega
      obtain ⟨ab, af, rfl, ac⟩ := a3 (by omega)
      obtain ⟨bb, bf, rfl, bc⟩ := b3 (by omega)
      obtain ⟨X, hX⟩ : ∃ X, X = (nth l k).Func := ⟨_, rfl⟩
      have c0 : wr.cell? ⟨ab, af + k * 2, none⟩ = some (.int .i64 X) := by rw [hX]; exact hkeep.cell (ac k 0 hlt (by omega))
      have d0 : wr.cell? ⟨bb, bf + k * 2, none⟩ = some (.int .i64 X) := by rw [hX]; exact hkeep.cell (bc k 0 hlt (by omega))
      have c1 : wr.cell? ⟨ab, af + k * 2 + 1, none⟩ = some (ta k) := hkeep.cell (ac k 1 hlt (by omega))
      have d1 : wr.cell? ⟨bb, bf + k * 2 + 1, none⟩ = some (tb k) := hkeep.cell (bc k 1 hlt (by omega))
      have hA := Lib.hid (Arr.keep (ia k hlt) hkeep)
      have hB := Lib.hid (Arr.keep (ib k hlt) hkeep)
      have tX : (X != X) = false := by simp
      obtain ⟨xa, na, ga, ea⟩ : ∃ a n c, Value.slice a n c = ta k := by obtain ⟨a, c, e⟩ := Arr.form (ia k hlt); exact ⟨a, _, c, e.symm⟩
      obtain ⟨xb, nb, gb, eb⟩ : ∃ a n c, Value.slice a n c = tb k := by obtain ⟨a, c, e⟩ := Arr.form (ib k hlt); exact ⟨a, _, c, e.symm⟩
      rw [← ea] at c1 hA
      rw [← eb] at d1 hB
      clear a3 b3 ac bc ia ib hX ea eb
      go_wp2_with fail
      go_region_held3 (fun w' => w'.cell? ⟨ab, af + k * 2, none⟩ = some (.int .i64 X) ∧ w'.cell? ⟨bb, bf + k * 2, none⟩ = some (.int .i64 X) ∧ w'.cell? ⟨ab, af + k * 2 + 1, none⟩ = some (.slice xa na ga) ∧ w'.cell? ⟨bb, bf + k * 2 + 1, none⟩ = some (.slice xb nb gb)) (first | go_keep | exact ⟨hk1.cell c0, hk1.cell d0, hk1.cell c1, hk1.cell d1⟩) ((first | (go_at_call 22; refine (sameInts_yes _ _ (nth l k).Blocks _ (Arr.keep hA.out (by repeat (with_reducible (first | assumption | exact Keeps.refl _ | refine Keeps.alloc ?_ _ | refine Keeps.drew ?_ | refine Keeps.drewN ?_ _)))) (Arr.keep hB.out (by repeat (with_reducible (first | assumption | exact Keeps.refl _ | refine Keeps.alloc ?_ _ | refine Keeps.drew ?_ | refine Keeps.drewN ?_ _))))).mono ?_; rintro e w1 ⟨rfl, hk1⟩; (repeat' (first | (with_reducible replace hk1 := Keeps.undrew hk1) | (with_reducible replace hk1 := Keeps.undrewN hk1))))))
      all_goals
        go_wp2_with fail
        go_roundw
        case rel => exact ⟨k + 1, by omega, by go_num, hkeep.trans (Keeps.trans (by first | exact hk1 | exact (Keeps.refl _).drewN _ | exact Keeps.refl _) (by repeat (with_reducible (first | assumption | exact Keeps.refl _ | refine Keeps.alloc ?_ _ | refine Keeps.drew ?_ | refine Keeps.drewN ?_ _))))⟩
        case measure => simp [intOf]; omega
    · obtain rfl : k = l.length := by omega
      clear a3 b3
      go_wp2
      go_ret
      exact ⟨rfl, hkeep⟩
theorem sameEdges_yes (va vb : Value) (l : List Ed) (w : World) (ha : Edges w va l) (hb : Edges w vb l) :
    Calls Try.prog 8 #[va, vb] w fun e w' => e = .returned (.bool true) ∧ Keeps w w' := by
  obtain ⟨ao, ca, rfl, a1, a2, -, a3⟩ := ha
  obtain ⟨bo, cb, rfl, b1, b2, -, b3⟩ := hb
  unfold maxLen at a2 b2
  go_enter Try.func8, Try.ntmps8
  go_wp2
  go_loopw [5] (fun i wr => ∃ k : Nat, k ≤ l.length ∧ i = .int .i64 k ∧ Keeps w wr) (fun i _ => l.length - (intOf i).toNat)
  case atStart => exact ⟨0, Nat.zero_le _, rfl, Keeps.refl _⟩
  case round =>
    obtain ⟨k, hk, rfl, hkeep⟩ := hrel
    by_cases hlt : k < l.length
    · have hltz : (k : Int) < (l.length : Int) := by omega
      obtain ⟨ab, af, rfl, ac⟩ := a3 (by omega)
      obtain ⟨bb, bf, rfl, bc⟩ := b3 (by omega)
      have c0 : wr.cell? ⟨ab, af + k * 3, none⟩ = some (.int .i64 (nth l k).From) := hkeep.cell (ac k 0 hlt (by omega))
      have c1 : wr.cell? ⟨ab, af + k * 3 + 1, none⟩ = some (.int .i64 (nth l k).To) := hkeep.cell (ac k 1 hlt (by omega))
      have c2 : wr.cell? ⟨ab, af + k * 3 + 2, none⟩ = some (.int .i64 (nth l k).Count) := hkeep.cell (ac k 2 hlt (by omega))
      have d0 : wr.cell? ⟨bb, bf + k * 3, none⟩ = some (.int .i64 (nth l k).From) := hkeep.cell (bc k 0 hlt (by omega))
      have d1 : wr.cell? ⟨bb, bf + k * 3 + 1, none⟩ = some (.int .i64 (nth l k).To) := hkeep.cell (bc k 1 hlt (by omega))
      have d2 : wr.cell? ⟨bb, bf + k * 3 + 2, none⟩ = some (.int .i64 (nth l k).Count) := hkeep.cell (bc k 2 hlt (by omega))
      generalize nth l k = E at *
      clear a3 b3 ac bc
      go_wp2
      go_quiet (fail)
      go_wp2
      go_roundw
      case rel => exact ⟨k + 1, by omega, by go_num, hkeep.drewN _⟩
      case measure => simp [intOf]; omega
    · clear a3 b3
      go_wp2
      go_ret
      exact ⟨rfl, hkeep⟩
end Go.Proofs.Ytofaghcnkppmbaa
