/-
  slices.Clone, at the five types of the program: a slice of its own that reads as the old one.
-/
import Derived.Test.YtckofmijaiahbaaOwn
import Derived.Test.YtckofmijaiahbaaTypes
import Derived.Lib.Hide
namespace Go.Proofs.Ytckofmijaiahbaa
open Go.RowKit BH
set_option maxHeartbeats 1000000
set_option maxRecDepth 100000

theorem clone_bytes (v : Value) (l : List UInt8) (w : World) (hv : Bytes w v l) (hl : l.length * 1 ≤ 140737488355328) :
    Calls Try.prog 17 #[v] w (Gives (fun v' w' => Bytes w' v' l ∧ NewAt w.heap.size v') w) := by
  have HV := Lib.hid hv
  obtain ⟨ao, cap, rfl, -, -, hcap, h0⟩ := hv
  have he := fun (w : World) (a : Option Addr) (n c : Nat) => Lib.run_eql_slice_nil (P := Try.prog) w 22 5 a n c 0 0 Try.underlying22
  cases ao with
  | none =>
    have hlen : l.length = 0 := by
      rcases Nat.eq_zero_or_pos l.length with h | h
      · exact h
      · obtain ⟨b, off, hab, _⟩ := h0 h; cases hab
    clear hcap h0
    have HL := Lib.hid hlen
    clear hlen
    go_enter Try.func17, Try.ntmps17
    go_wp2
    go_ret
    refine ⟨_, rfl, ⟨?_, NewAt.nil _ _ _⟩, Keeps.refl _⟩
    exact ⟨none, 0, by rw [HL.out]; rfl, by rw [HL.out]; omega, by unfold maxLen; omega, fun _ => rfl, fun h => absurd h (by rw [HL.out]; omega)⟩
  | some a =>
    clear hcap h0
    go_enter Try.func17, Try.ntmps17
    go_wp2_with (at_builtin; refine wpList_copy rfl (.tmp 5) (.tmp 6) 22 rfl Try.underlying22 info_u8 rfl (by decide) (base := w.heap.size) rfl ?c0 rfl (HV.out.keep ((Keeps.refl _).alloc _)) ?c1 hl ?c2 ?_)
    case c0 => exact Own.of_block (α := Unit) (l := []) (f := fun _ => List.replicate 1 undef) (fun _ => by simp) (Nat.le_refl _) (Blk.top _ _) (by unfold maxLen; decide)
    case c1 =>
      intro i j hi hj
      match j, hj with
      | 0, _ => rfl
    case c2 => exact ((Keeps.refl w).alloc _).size
    intro v' w' harr hnew hb
    go_wp2
    go_ret
    exact ⟨_, rfl, ⟨harr, hnew⟩, ((Keeps.refl w).alloc _).trans' hb (Nat.le_refl _)⟩

theorem clone_ints (v : Value) (l : List Int) (w : World) (hv : Ints w v l) (hl : l.length * 8 ≤ 140737488355328) :
    Calls Try.prog 19 #[v] w (Gives (fun v' w' => Ints w' v' l ∧ NewAt w.heap.size v') w) := by
  have HV := Lib.hid hv
  obtain ⟨ao, cap, rfl, -, -, hcap, h0⟩ := hv
  have he := fun (w : World) (a : Option Addr) (n c : Nat) => Lib.run_eql_slice_nil (P := Try.prog) w 25 3 a n c 0 0 Try.underlying25
  cases ao with
  | none =>
    have hlen : l.length = 0 := by
      rcases Nat.eq_zero_or_pos l.length with h | h
      · exact h
      · obtain ⟨b, off, hab, _⟩ := h0 h; cases hab
    clear hcap h0
    have HL := Lib.hid hlen
    clear hlen
    go_enter Try.func19, Try.ntmps19
    go_wp2
    go_ret
    refine ⟨_, rfl, ⟨?_, NewAt.nil _ _ _⟩, Keeps.refl _⟩
    exact ⟨none, 0, by rw [HL.out]; rfl, by rw [HL.out]; omega, by unfold maxLen; omega, fun _ => rfl, fun h => absurd h (by rw [HL.out]; omega)⟩
  | some a =>
    clear hcap h0
    go_enter Try.func19, Try.ntmps19
    go_wp2_with (at_builtin; refine wpList_copy rfl (.tmp 5) (.tmp 6) 25 rfl Try.underlying25 info_int rfl (by decide) (base := w.heap.size) rfl ?c0 rfl (HV.out.keep ((Keeps.refl _).alloc _)) ?c1 hl ?c2 ?_)
    case c0 => exact Own.of_block (α := Unit) (l := []) (f := fun _ => List.replicate 1 undef) (fun _ => by simp) (Nat.le_refl _) (Blk.top _ _) (by unfold maxLen; decide)
    case c1 =>
      intro i j hi hj
      match j, hj with
      | 0, _ => rfl
    case c2 => exact ((Keeps.refl w).alloc _).size
    intro v' w' harr hnew hb
    go_wp2
    go_ret
    exact ⟨_, rfl, ⟨harr, hnew⟩, ((Keeps.refl w).alloc _).trans' hb (Nat.le_refl _)⟩

theorem clone_funs (v : Value) (l : List Fu) (w : World) (hv : Funs w v l) (hl : l.length * 32 ≤ 140737488355328) :
    Calls Try.prog 18 #[v] w (Gives (fun v' w' => Funs w' v' l ∧ NewAt w.heap.size v') w) := by
  have HV := Lib.hid hv
  obtain ⟨ao, cap, rfl, -, -, hcap, h0⟩ := hv
  have he := fun (w : World) (a : Option Addr) (n c : Nat) => Lib.run_eql_slice_nil (P := Try.prog) w 23 42 a n c 0 0 Try.underlying23
  cases ao with
  | none =>
    have hlen : l.length = 0 := by
      rcases Nat.eq_zero_or_pos l.length with h | h
      · exact h
      · obtain ⟨b, off, hab, _⟩ := h0 h; cases hab
    clear hcap h0
    have HL := Lib.hid hlen
    clear hlen
    go_enter Try.func18, Try.ntmps18
    go_wp2
    go_ret
    refine ⟨_, rfl, ⟨?_, NewAt.nil _ _ _⟩, Keeps.refl _⟩
    exact ⟨none, 0, by rw [HL.out]; rfl, by rw [HL.out]; omega, by unfold maxLen; omega, fun _ => rfl, fun h => absurd h (by rw [HL.out]; omega)⟩
  | some a =>
    clear hcap h0
    go_enter Try.func18, Try.ntmps18
    go_wp2_with (at_builtin; refine wpList_copy rfl (.tmp 5) (.tmp 6) 23 rfl Try.underlying23 info_fun rfl (by decide) (base := w.heap.size) rfl ?c0 rfl (HV.out.keep ((Keeps.refl _).alloc _)) ?c1 hl ?c2 ?_)
    case c0 => exact Own.of_block (α := Unit) (l := []) (f := fun _ => List.replicate 3 undef) (fun _ => by simp) (Nat.le_refl _) (Blk.top _ _) (by unfold maxLen; decide)
    case c1 =>
      intro i j hi hj
      match j, hj with
      | 0, _ => rfl
      | 1, _ => rfl
      | 2, _ => rfl
    case c2 => exact ((Keeps.refl w).alloc _).size
    intro v' w' harr hnew hb
    go_wp2
    go_ret
    exact ⟨_, rfl, ⟨harr, hnew⟩, ((Keeps.refl w).alloc _).trans' hb (Nat.le_refl _)⟩

theorem clone_lines (v : Value) (l : List Ln) (w : World) (hv : Lines w v l) (hl : l.length * 16 ≤ 140737488355328) :
    Calls Try.prog 20 #[v] w (Gives (fun v' w' => Lines w' v' l ∧ NewAt w.heap.size v') w) := by
  have HV := Lib.hid hv
  obtain ⟨ao, cap, rfl, -, -, hcap, h0⟩ := hv
  have he := fun (w : World) (a : Option Addr) (n c : Nat) => Lib.run_eql_slice_nil (P := Try.prog) w 26 46 a n c 0 0 Try.underlying26
  cases ao with
  | none =>
    have hlen : l.length = 0 := by
      rcases Nat.eq_zero_or_pos l.length with h | h
      · exact h
      · obtain ⟨b, off, hab, _⟩ := h0 h; cases hab
    clear hcap h0
    have HL := Lib.hid hlen
    clear hlen
    go_enter Try.func20, Try.ntmps20
    go_wp2
    go_ret
    refine ⟨_, rfl, ⟨?_, NewAt.nil _ _ _⟩, Keeps.refl _⟩
    exact ⟨none, 0, by rw [HL.out]; rfl, by rw [HL.out]; omega, by unfold maxLen; omega, fun _ => rfl, fun h => absurd h (by rw [HL.out]; omega)⟩
  | some a =>
    clear hcap h0
    go_enter Try.func20, Try.ntmps20
    go_wp2_with (at_builtin; refine wpList_copy rfl (.tmp 5) (.tmp 6) 26 rfl Try.underlying26 info_line rfl (by decide) (base := w.heap.size) rfl ?c0 rfl (HV.out.keep ((Keeps.refl _).alloc _)) ?c1 hl ?c2 ?_)
    case c0 => exact Own.of_block (α := Unit) (l := []) (f := fun _ => List.replicate 2 undef) (fun _ => by simp) (Nat.le_refl _) (Blk.top _ _) (by unfold maxLen; decide)
    case c1 =>
      intro i j hi hj
      match j, hj with
      | 0, _ => rfl
      | 1, _ => rfl
    case c2 => exact ((Keeps.refl w).alloc _).size
    intro v' w' harr hnew hb
    go_wp2
    go_ret
    exact ⟨_, rfl, ⟨harr, hnew⟩, ((Keeps.refl w).alloc _).trans' hb (Nat.le_refl _)⟩
end Go.Proofs.Ytckofmijaiahbaa
