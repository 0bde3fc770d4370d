/-
  place.CheckEdges and the document's EdgesFault answer the same: the first fault, edge by edge.
-/
import Derived.Test.YtofaghcnkppmbaaIn
import Derived.Deep.QuietTactic
import Derived.BigQuiet
namespace Go.Proofs.Ytofaghcnkppmbaa
open Go.RowKit BH

def edgeBad (blocks : Int) (e : Ed) : Bool := decide (e.From < 0 ∨ e.To < 0 ∨ blocks ≤ e.From ∨ blocks ≤ e.To ∨ e.Count < 1 ∨ 1073741824 < e.Count)
def edgeOrd (p e : Ed) : Bool := decide (e.From < p.From ∨ p.From = e.From ∧ e.To ≤ p.To)
/-- what CheckEdges answers of what is left, behind k edges -/
def edgesGo (blocks : Int) (l : List Ed) : Nat → Nat → Int
  | 0, _ => 0
  | f + 1, k => if edgeBad blocks (nth l k) then 2 else if k > 0 ∧ edgeOrd (nth l (k - 1)) (nth l k) = true then 8 else edgesGo blocks l f (k + 1)

theorem edgesGo_bad {blocks : Int} {l : List Ed} {k : Nat} (hk : k < l.length) (h : edgeBad blocks (nth l k) = true) : edgesGo blocks l (l.length - k) k = 2 := by
  rw [show l.length - k = (l.length - k - 1) + 1 by omega, edgesGo, if_pos h]
theorem edgesGo_ord {blocks : Int} {l : List Ed} {k : Nat} (hk : k < l.length) (h : ¬ edgeBad blocks (nth l k) = true) (h0 : 0 < k) (ho : edgeOrd (nth l (k - 1)) (nth l k) = true) : edgesGo blocks l (l.length - k) k = 8 := by
  rw [show l.length - k = (l.length - k - 1) + 1 by omega, edgesGo, if_neg h, if_pos ⟨h0, ho⟩]
theorem edgesGo_on {blocks : Int} {l : List Ed} {k : Nat} (hk : k < l.length) (h : ¬ edgeBad blocks (nth l k) = true) (ho : ¬ (0 < k ∧ edgeOrd (nth l (k - 1)) (nth l k) = true)) : edgesGo blocks l (l.length - k) k = edgesGo blocks l (l.length - (k + 1)) (k + 1) := by
  rw [show l.length - k = (l.length - (k + 1)) + 1 by omega, edgesGo, if_neg h, if_neg ho]

set_option maxHeartbeats 1000000
set_option maxRecDepth 100000
theorem edgesFault_any (v : Value) (l : List Ed) (n : Int) (w : World) (hv : Edges w v l) :
    Calls Try.prog 19 #[v, .int .i64 n] w fun e w' => e = .returned (.int .i64 (edgesGo n l l.length 0)) ∧ Keeps w w' := by
  obtain ⟨ao, cap, rfl, h1, h2, -, h3⟩ := hv
  unfold maxLen at h2
  go_enter Try.func19, Try.ntmps19
  go_wp2
  go_loopw [5, 6] (fun i _ wr => ∃ k : Nat, k ≤ l.length ∧ i = .int .i64 k ∧ edgesGo n l l.length 0 = edgesGo n l (l.length - k) k ∧ Keeps w wr) (fun i _ _ => l.length - (intOf i).toNat)
  case atStart => exact ⟨0, Nat.zero_le _, rfl, rfl, Keeps.refl _⟩
  case round =>
    obtain ⟨k, hk, rfl, hsp, hkeep⟩ := hrel
    have HS := Lib.hid hsp
    clear hsp
    by_cases hlt : k < l.length
    · obtain ⟨b, off, rfl, hc⟩ := h3 (by omega)
      have hc0 : wr.cell? ⟨b, off + k * 3, none⟩ = some (.int .i64 (nth l k).From) := hkeep.cell (hc k 0 hlt (by omega))
      have hc1 : wr.cell? ⟨b, off + k * 3 + 1, none⟩ = some (.int .i64 (nth l k).To) := hkeep.cell (hc k 1 hlt (by omega))
      have hc2 : wr.cell? ⟨b, off + k * 3 + 2, none⟩ = some (.int .i64 (nth l k).Count) := hkeep.cell (hc k 2 hlt (by omega))
      have hbr : b < wr.heap.size := lt_of_cell hc0
      by_cases hbad : edgeBad n (nth l k) = true
      · have hb := of_decide_eq_true hbad
        have HF := Lib.hid (HS.out.trans (edgesGo_bad hlt hbad))
        clear hc h3 hbad HS
        go_wp2_with (go_at_call 30; refine (in_no _ _ _ _ (by omega)).mono ?_; rintro e w' ⟨rfl, rfl⟩)
        all_goals (go_ret; exact ⟨by rw [HF.out]; rfl, hkeep⟩)
      · have hb : 0 ≤ (nth l k).From ∧ 0 ≤ (nth l k).To ∧ (nth l k).From < n ∧ (nth l k).To < n ∧ 1 ≤ (nth l k).Count ∧ (nth l k).Count ≤ 1073741824 := by
          have := of_decide_eq_false (Bool.not_eq_true _ ▸ hbad); omega
        obtain ⟨g1, g2, g3, g4, g5, g6⟩ := hb
        have d1 : decide ((nth l k).From < 0) = false := by simpa using g1
        have d2 : decide ((nth l k).To < 0) = false := by simpa using g2
        have d3 : decide (n ≤ (nth l k).From) = false := by simpa using g3
        have d4 : decide (n ≤ (nth l k).To) = false := by simpa using g4
        by_cases hk0 : 0 < k
        · have hp0 : wr.cell? ⟨b, off + (k - 1) * 3, none⟩ = some (.int .i64 (nth l (k - 1)).From) := hkeep.cell (hc (k - 1) 0 (by omega) (by omega))
          have hp1 : wr.cell? ⟨b, off + (k - 1) * 3 + 1, none⟩ = some (.int .i64 (nth l (k - 1)).To) := hkeep.cell (hc (k - 1) 1 (by omega) (by omega))
          have hp2 : wr.cell? ⟨b, off + (k - 1) * 3 + 2, none⟩ = some (.int .i64 (nth l (k - 1)).Count) := hkeep.cell (hc (k - 1) 2 (by omega) (by omega))
          have Hbad := Lib.hid hbad
          have d5 : decide ((0:Int) < k) = true := by simpa using hk0
          clear hc h3 hbad
          go_wp2_with (go_at_call 30; refine (in_yes _ _ _ _ (by omega) (by omega)).mono ?_; rintro e w' ⟨rfl, rfl⟩)
          rcases Int.lt_or_le (nth l k).From (nth l (k - 1)).From with ho | ho
          · have HF := Lib.hid (HS.out.trans (edgesGo_ord hlt Hbad.out hk0 (decide_eq_true (by omega))))
            go_quiet (fail)
            go_wp2
            go_ret
            exact ⟨by rw [HF.out]; rfl, hkeep.alloc _ |>.drewN _⟩
          · have d6 : decide ((nth l k).From < (nth l (k - 1)).From) = false := by simpa using ho
            by_cases he : (nth l (k - 1)).From = (nth l k).From
            · have d7 : ((nth l (k - 1)).From == (nth l k).From) = true := by simpa using he
              by_cases ht : (nth l k).To ≤ (nth l (k - 1)).To
              · have HF := Lib.hid (HS.out.trans (edgesGo_ord hlt Hbad.out hk0 (decide_eq_true (by omega))))
                clear he
                go_quiet (fail)
                go_wp2
                go_ret
                exact ⟨by rw [HF.out]; rfl, hkeep.alloc _ |>.drewN _⟩
              · have HF := Lib.hid (HS.out.trans (edgesGo_on hlt Hbad.out (by rintro ⟨_, h⟩; have := of_decide_eq_true h; omega)))
                have d8 : decide ((nth l k).To ≤ (nth l (k - 1)).To) = false := by simpa using ht
                clear he
                go_quiet (fail)
                go_wp2
                go_roundw
                case rel => exact ⟨k + 1, by omega, by go_num, HF.out, hkeep.alloc _ |>.drewN _⟩
                case measure => simp [intOf]; omega
            · have d7 : ((nth l (k - 1)).From == (nth l k).From) = false := by simpa using he
              have HF := Lib.hid (HS.out.trans (edgesGo_on hlt Hbad.out (by rintro ⟨_, h⟩; have := of_decide_eq_true h; omega)))
              clear he
              go_quiet (fail)
              go_wp2
              go_roundw
              case rel => exact ⟨k + 1, by omega, by go_num, HF.out, hkeep.alloc _ |>.drewN _⟩
              case measure => simp [intOf]; omega
        · have HF := Lib.hid (HS.out.trans (edgesGo_on hlt hbad (by omega)))
          have d5 : decide ((0:Int) < k) = false := by simpa using hk0
          clear hc h3 hbad
          go_wp2_with (go_at_call 30; refine (in_yes _ _ _ _ (by omega) (by omega)).mono ?_; rintro e w' ⟨rfl, rfl⟩)
          go_roundw
          case rel => exact ⟨k + 1, by omega, by go_num, HF.out, hkeep⟩
          case measure => simp [intOf]; omega
    · have HF := Lib.hid (HS.out.trans (show edgesGo n l (l.length - k) k = 0 by rw [show l.length - k = 0 by omega, edgesGo]))
      clear h3
      go_wp2
      go_ret
      exact ⟨by rw [HF.out]; rfl, hkeep⟩

theorem checkEdges_any (v : Value) (l : List Ed) (n : Int) (w : World) (hv : Edges w v l) :
    Calls Try.prog 12 #[v, .int .i64 n] w fun e w' => e = .returned (.int .i64 (edgesGo n l l.length 0)) ∧ Keeps w w' := by
  obtain ⟨ao, cap, rfl, h1, h2, -, h3⟩ := hv
  unfold maxLen at h2
  go_enter Try.func12, Try.ntmps12
  go_wp2
  go_loopw [5, 6, 9] (fun _ _ i wr => ∃ k : Nat, k ≤ l.length ∧ i = .int .i64 k ∧ edgesGo n l l.length 0 = edgesGo n l (l.length - k) k ∧ Keeps w wr) (fun _ _ i _ => l.length - (intOf i).toNat)
  case atStart => exact ⟨0, Nat.zero_le _, rfl, rfl, Keeps.refl _⟩
  case round =>
    obtain ⟨k, hk, rfl, hsp, hkeep⟩ := hrel
    have HS := Lib.hid hsp
    clear hsp
    by_cases hlt : k < l.length
    · obtain ⟨b, off, rfl, hc⟩ := h3 (by omega)
      have hc0 : wr.cell? ⟨b, off + k * 3, none⟩ = some (.int .i64 (nth l k).From) := hkeep.cell (hc k 0 hlt (by omega))
      have hc1 : wr.cell? ⟨b, off + k * 3 + 1, none⟩ = some (.int .i64 (nth l k).To) := hkeep.cell (hc k 1 hlt (by omega))
      have hc2 : wr.cell? ⟨b, off + k * 3 + 2, none⟩ = some (.int .i64 (nth l k).Count) := hkeep.cell (hc k 2 hlt (by omega))
      have hbr : b < wr.heap.size := lt_of_cell hc0
      by_cases hbad : edgeBad n (nth l k) = true
      · have hb := of_decide_eq_true hbad
        have HF := Lib.hid (HS.out.trans (edgesGo_bad hlt hbad))
        clear hc h3 hbad HS
        go_wp2
        all_goals first
          | (exfalso; omega)
          | (go_ret; exact ⟨by rw [HF.out]; rfl, hkeep.alloc _⟩)
      · have hb : 0 ≤ (nth l k).From ∧ 0 ≤ (nth l k).To ∧ (nth l k).From < n ∧ (nth l k).To < n ∧ 1 ≤ (nth l k).Count ∧ (nth l k).Count ≤ 1073741824 := by
          have := of_decide_eq_false (Bool.not_eq_true _ ▸ hbad); omega
        obtain ⟨g1, g2, g3, g4, g5, g6⟩ := hb
        have d1 : decide ((nth l k).From < 0) = false := by simpa using g1
        have d2 : decide ((nth l k).To < 0) = false := by simpa using g2
        have d3 : decide (n ≤ (nth l k).From) = false := by simpa using g3
        have d4 : decide (n ≤ (nth l k).To) = false := by simpa using g4
        have d9 : decide ((nth l k).Count < 1) = false := by simp; omega
        have d10 : decide (1073741824 < (nth l k).Count) = false := by simpa using g6
        by_cases hk0 : 0 < k
        · have hp0 : wr.cell? ⟨b, off + (k - 1) * 3, none⟩ = some (.int .i64 (nth l (k - 1)).From) := hkeep.cell (hc (k - 1) 0 (by omega) (by omega))
          have hp1 : wr.cell? ⟨b, off + (k - 1) * 3 + 1, none⟩ = some (.int .i64 (nth l (k - 1)).To) := hkeep.cell (hc (k - 1) 1 (by omega) (by omega))
          have Hbad := Lib.hid hbad
          have d5 : decide ((0:Int) < k) = true := by simpa using hk0
          clear hc h3 hbad
          go_wp2
          rcases Int.lt_or_le (nth l k).From (nth l (k - 1)).From with ho | ho
          · have HF := Lib.hid (HS.out.trans (edgesGo_ord hlt Hbad.out hk0 (decide_eq_true (by omega))))
            go_quiet (fail)
            go_wp2
            go_ret
            exact ⟨by rw [HF.out]; rfl, hkeep.alloc _ |>.drewN _⟩
          · have d6 : decide ((nth l k).From < (nth l (k - 1)).From) = false := by simpa using ho
            by_cases he : (nth l (k - 1)).From = (nth l k).From
            · have d7 : ((nth l (k - 1)).From == (nth l k).From) = true := by simpa using he
              by_cases ht : (nth l k).To ≤ (nth l (k - 1)).To
              · have HF := Lib.hid (HS.out.trans (edgesGo_ord hlt Hbad.out hk0 (decide_eq_true (by omega))))
                clear he
                go_quiet (fail)
                go_wp2
                go_ret
                exact ⟨by rw [HF.out]; rfl, hkeep.alloc _ |>.drewN _⟩
              · have HF := Lib.hid (HS.out.trans (edgesGo_on hlt Hbad.out (by rintro ⟨_, h⟩; have := of_decide_eq_true h; omega)))
                have d8 : decide ((nth l k).To ≤ (nth l (k - 1)).To) = false := by simpa using ht
                clear he
                go_quiet (fail)
                go_wp2
                go_roundw
                case rel => exact ⟨k + 1, by omega, by go_num, HF.out, hkeep.alloc _ |>.drewN _⟩
                case measure => simp [intOf]; omega
            · have d7 : ((nth l (k - 1)).From == (nth l k).From) = false := by simpa using he
              have HF := Lib.hid (HS.out.trans (edgesGo_on hlt Hbad.out (by rintro ⟨_, h⟩; have := of_decide_eq_true h; omega)))
              clear he
              go_quiet (fail)
              go_wp2
              go_roundw
              case rel => exact ⟨k + 1, by omega, by go_num, HF.out, hkeep.alloc _ |>.drewN _⟩
              case measure => simp [intOf]; omega
        · have HF := Lib.hid (HS.out.trans (edgesGo_on hlt hbad (by omega)))
          have d5 : decide ((0:Int) < k) = false := by simpa using hk0
          clear hc h3 hbad
          go_wp2
          go_quiet (fail)
          go_wp2
          go_roundw
          case rel => exact ⟨k + 1, by omega, by go_num, HF.out, hkeep.alloc _ |>.drewN _⟩
          case measure => simp [intOf]; omega
    · have HF := Lib.hid (HS.out.trans (show edgesGo n l (l.length - k) k = 0 by rw [show l.length - k = 0 by omega, edgesGo]))
      clear h3
      go_wp2
      go_ret
      exact ⟨by rw [HF.out]; rfl, hkeep⟩
end Go.Proofs.Ytofaghcnkppmbaa
