/-
  slices.Clone, at the five types of the program: a slice of its own that reads as the old one.
-/
import Derived.Test.YtjnhiiidcjajbaaGreatDoorOwn
import Derived.Test.YtjnhiiidcjajbaaGreatDoorTypes
import Derived.Lib.Hide
namespace Go.Proofs.YtjnhiiidcjajbaaGreatDoor
open Go.RowKit BH
set_option maxHeartbeats 1000000
set_option maxRecDepth 100000

theorem clone_bytes (v : Value) (l : List UInt8) (w : World) (hv : Bytes w v l) (hl : l.length * 1 ≤ 140737488355328) :
    Calls Tryz.prog 85 #[v] w (Gives (fun v' w' => Bytes w' v' l ∧ NewAt w.heap.size v') w) := by
  have HV := Lib.hid hv
  obtain ⟨ao, cap, rfl, -, -, hcap, h0⟩ := hv
  have he := fun (w : World) (a : Option Addr) (n c : Nat) => Lib.run_eql_slice_nil (P := Tryz.prog) w 32 5 a n c 0 0 Tryz.underlying32
  cases ao with
  | none =>
    have hlen : l.length = 0 := by
      rcases Nat.eq_zero_or_pos l.length with h | h
      · exact h
      · obtain ⟨b, off, hab, _⟩ := h0 h; cases hab
    clear hcap h0
    have HL := Lib.hid hlen
    clear hlen
    go_enter Tryz.func85, Tryz.ntmps85
    go_wp2
    go_ret
    refine ⟨_, rfl, ⟨?_, NewAt.nil _ _ _⟩, Keeps.refl _⟩
    exact ⟨none, 0, by rw [HL.out]; rfl, by rw [HL.out]; omega, by unfold maxLen; omega, fun _ => rfl, fun h => absurd h (by rw [HL.out]; omega)⟩
  | some a =>
    clear hcap h0
    go_enter Tryz.func85, Tryz.ntmps85
    go_wp2_with (at_builtin; refine wpList_copy rfl (.tmp 5) (.tmp 6) 32 rfl Tryz.underlying32 info_u8 rfl (by decide) (base := w.heap.size) rfl ?c0 rfl (HV.out.keep ((Keeps.refl _).alloc _)) ?c1 hl ?c2 ?_)
    case c0 => exact Own.of_block (α := Unit) (l := []) (f := fun _ => List.replicate 1 undef) (fun _ => by simp) (Nat.le_refl _) (Blk.top _ _) (by unfold maxLen; decide)
    case c1 =>
      intro i j hi hj
      match j, hj with
      | 0, _ => rfl
    case c2 => exact ((Keeps.refl w).alloc _).size
    intro v' w' harr hnew hb
    go_wp2
    go_ret
    exact ⟨_, rfl, ⟨harr, hnew⟩, ((Keeps.refl w).alloc _).trans' hb (Nat.le_refl _)⟩

theorem clone_ints (v : Value) (l : List Int) (w : World) (hv : Ints w v l) (hl : l.length * 8 ≤ 140737488355328) :
    Calls Tryz.prog 110 #[v] w (Gives (fun v' w' => Ints w' v' l ∧ NewAt w.heap.size v') w) := by
  have HV := Lib.hid hv
  obtain ⟨ao, cap, rfl, -, -, hcap, h0⟩ := hv
  have he := fun (w : World) (a : Option Addr) (n c : Nat) => Lib.run_eql_slice_nil (P := Tryz.prog) w 24 3 a n c 0 0 Tryz.underlying24
  cases ao with
  | none =>
    have hlen : l.length = 0 := by
      rcases Nat.eq_zero_or_pos l.length with h | h
      · exact h
      · obtain ⟨b, off, hab, _⟩ := h0 h; cases hab
    clear hcap h0
    have HL := Lib.hid hlen
    clear hlen
    go_enter Tryz.func110, Tryz.ntmps110
    go_wp2
    go_ret
    refine ⟨_, rfl, ⟨?_, NewAt.nil _ _ _⟩, Keeps.refl _⟩
    exact ⟨none, 0, by rw [HL.out]; rfl, by rw [HL.out]; omega, by unfold maxLen; omega, fun _ => rfl, fun h => absurd h (by rw [HL.out]; omega)⟩
  | some a =>
    clear hcap h0
    go_enter Tryz.func110, Tryz.ntmps110
    go_wp2_with (at_builtin; refine wpList_copy rfl (.tmp 5) (.tmp 6) 24 rfl Tryz.underlying24 info_int rfl (by decide) (base := w.heap.size) rfl ?c0 rfl (HV.out.keep ((Keeps.refl _).alloc _)) ?c1 hl ?c2 ?_)
    case c0 => exact Own.of_block (α := Unit) (l := []) (f := fun _ => List.replicate 1 undef) (fun _ => by simp) (Nat.le_refl _) (Blk.top _ _) (by unfold maxLen; decide)
    case c1 =>
      intro i j hi hj
      match j, hj with
      | 0, _ => rfl
    case c2 => exact ((Keeps.refl w).alloc _).size
    intro v' w' harr hnew hb
    go_wp2
    go_ret
    exact ⟨_, rfl, ⟨harr, hnew⟩, ((Keeps.refl w).alloc _).trans' hb (Nat.le_refl _)⟩


end Go.Proofs.YtjnhiiidcjajbaaGreatDoor
