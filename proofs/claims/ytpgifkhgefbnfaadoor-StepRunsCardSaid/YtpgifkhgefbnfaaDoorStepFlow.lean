/-
  step.machine's flow: where it goes on.
-/
import Derived.Test.YtpgifkhgefbnfaaDoorStepDo
namespace Go.Proofs.YtpgifkhgefbnfaaDoor
open Go.RowKit BH
set_option maxHeartbeats 1500000
set_option maxRecDepth 100000
theorem flow_1 {B g : Nat} {W0 : World} {h : List Value} {s : Mach} {vd vi vt : Value} {en st at2 : Int} (w : World) (hm : MAt B W0 g h s vd vi vt en st at2 w) (ok : MachOk s) (m : Img) (D A R : Nat) (N : Int) (Lg : Bool) (hD : D < 8) (hA : A < 8) (hR : R < 8) (_hN : -32768 ≤ N ∧ N ≤ 32767) (nx : Int) :
    Calls Tryd.prog 42 #[.pointer (some ⟨g, 0, none⟩), insV 1 D A R N Lg, .int .i64 nx] w fun e w' => e = .returned (.tuple #[.int .i64 (flowS m s ⟨1, D, A, R, N, Lg⟩ nx).1, .int .i64 (flowS m s ⟨1, D, A, R, N, Lg⟩ nx).2.1]) ∧ MAt B W0 g h (flowS m s ⟨1, D, A, R, N, Lg⟩ nx).2.2 vd vi vt en st at2 w' := by
  have e0 : flowS m s ⟨1, D, A, R, N, Lg⟩ nx = (1, nx, s) := rfl
  generalize flowS m s ⟨1, D, A, R, N, Lg⟩ nx = RR0 at e0 ⊢
  subst e0
  dsimp only
  unfold insV
  have h8 := ok.regs
  have hDi : (D : Int) < 8 := by omega
  have hAi : (A : Int) < 8 := by omega
  have hRi : (R : Int) < 8 := by omega
  obtain ⟨W, hW, hkW⟩ : ∃ W : World, W = w.alloc (.cells #[.int .i64 1, .int .i64 D, .int .i64 A, .int .i64 R, .int .i64 N, .bool Lg] 24) ∧ Keeps w W := ⟨_, rfl, (Keeps.refl w).alloc _⟩
  have hBI : Blk W w.heap.size (.cells #[.int .i64 1, .int .i64 D, .int .i64 A, .int .i64 R, .int .i64 N, .bool Lg] 24) := by rw [hW]; exact Blk.top _ _
  have i0 := hBI.cell (j := 0) rfl
  have i1 := hBI.cell (j := 1) rfl
  have i2 := hBI.cell (j := 2) rfl
  have i3 := hBI.cell (j := 3) rfl
  have i4 := hBI.cell (j := 4) rfl
  have i5 := hBI.cell (j := 5) rfl
  have hM := hm.keeps hkW
  have HW := Lib.hid hW
  have HM := Lib.hid hM
  have HOK := Lib.hid ok
  clear hM hBI hW hm ok
  go_enter Tryd.func42, Tryd.ntmps42
  go_upto_region 1 with fail
  rw [← HW.out]
  go_wp2_with fail
  go_ret2
  refine ⟨rfl, ?_⟩
  first
    | (with_reducible exact HM.out)
    | exact HM.out.keeps (by repeat (with_reducible (first | assumption | exact Keeps.refl _ | refine Keeps.alloc ?_ _ | refine Keeps.drew ?_ | refine Keeps.drewN ?_ _)))
theorem flow_2 {B g : Nat} {W0 : World} {h : List Value} {s : Mach} {vd vi vt : Value} {en st at2 : Int} (w : World) (hm : MAt B W0 g h s vd vi vt en st at2 w) (ok : MachOk s) (m : Img) (D A R : Nat) (N : Int) (Lg : Bool) (hD : D < 8) (hA : A < 8) (hR : R < 8) (_hN : -32768 ≤ N ∧ N ≤ 32767) (nx : Int) :
    Calls Tryd.prog 42 #[.pointer (some ⟨g, 0, none⟩), insV 2 D A R N Lg, .int .i64 nx] w fun e w' => e = .returned (.tuple #[.int .i64 (flowS m s ⟨2, D, A, R, N, Lg⟩ nx).1, .int .i64 (flowS m s ⟨2, D, A, R, N, Lg⟩ nx).2.1]) ∧ MAt B W0 g h (flowS m s ⟨2, D, A, R, N, Lg⟩ nx).2.2 vd vi vt en st at2 w' := by
  have e0 : flowS m s ⟨2, D, A, R, N, Lg⟩ nx = (2, nx, s) := rfl
  generalize flowS m s ⟨2, D, A, R, N, Lg⟩ nx = RR0 at e0 ⊢
  subst e0
  dsimp only
  unfold insV
  have h8 := ok.regs
  have hDi : (D : Int) < 8 := by omega
  have hAi : (A : Int) < 8 := by omega
  have hRi : (R : Int) < 8 := by omega
  obtain ⟨W, hW, hkW⟩ : ∃ W : World, W = w.alloc (.cells #[.int .i64 2, .int .i64 D, .int .i64 A, .int .i64 R, .int .i64 N, .bool Lg] 24) ∧ Keeps w W := ⟨_, rfl, (Keeps.refl w).alloc _⟩
  have hBI : Blk W w.heap.size (.cells #[.int .i64 2, .int .i64 D, .int .i64 A, .int .i64 R, .int .i64 N, .bool Lg] 24) := by rw [hW]; exact Blk.top _ _
  have i0 := hBI.cell (j := 0) rfl
  have i1 := hBI.cell (j := 1) rfl
  have i2 := hBI.cell (j := 2) rfl
  have i3 := hBI.cell (j := 3) rfl
  have i4 := hBI.cell (j := 4) rfl
  have i5 := hBI.cell (j := 5) rfl
  have hM := hm.keeps hkW
  have HW := Lib.hid hW
  have HM := Lib.hid hM
  have HOK := Lib.hid ok
  clear hM hBI hW hm ok
  go_enter Tryd.func42, Tryd.ntmps42
  go_upto_region 1 with fail
  rw [← HW.out]
  go_wp2_with fail
  go_ret2
  refine ⟨rfl, ?_⟩
  first
    | (with_reducible exact HM.out)
    | exact HM.out.keeps (by repeat (with_reducible (first | assumption | exact Keeps.refl _ | refine Keeps.alloc ?_ _ | refine Keeps.drew ?_ | refine Keeps.drewN ?_ _)))
theorem flow_ret {B g : Nat} {W0 : World} {h : List Value} {s : Mach} {vd vi vt : Value} {en st at2 : Int} (w : World) (hm : MAt B W0 g h s vd vi vt en st at2 w) (ok : MachOk s) (m : Img) (D A R : Nat) (N : Int) (Lg : Bool) (hD : D < 8) (hA : A < 8) (hR : R < 8) (_hN : -32768 ≤ N ∧ N ≤ 32767) (nx : Int) :
    Calls Tryd.prog 42 #[.pointer (some ⟨g, 0, none⟩), insV 3 D A R N Lg, .int .i64 nx] w fun e w' => e = .returned (.tuple #[.int .i64 (flowS m s ⟨3, D, A, R, N, Lg⟩ nx).1, .int .i64 (flowS m s ⟨3, D, A, R, N, Lg⟩ nx).2.1]) ∧ MAt B W0 g h (flowS m s ⟨3, D, A, R, N, Lg⟩ nx).2.2 vd vi vt en st at2 w' := by
  have e0 : flowS m s ⟨3, D, A, R, N, Lg⟩ nx = (if (nth s.regs 7).C then (0, (nth s.regs 7).N, s) else (4, nx, s)) := rfl
  generalize flowS m s ⟨3, D, A, R, N, Lg⟩ nx = RR0 at e0 ⊢
  unfold insV
  have h8 := ok.regs
  have hDi : (D : Int) < 8 := by omega
  have hAi : (A : Int) < 8 := by omega
  have hRi : (R : Int) < 8 := by omega
  obtain ⟨W, hW, hkW⟩ : ∃ W : World, W = w.alloc (.cells #[.int .i64 3, .int .i64 D, .int .i64 A, .int .i64 R, .int .i64 N, .bool Lg] 24) ∧ Keeps w W := ⟨_, rfl, (Keeps.refl w).alloc _⟩
  have hBI : Blk W w.heap.size (.cells #[.int .i64 3, .int .i64 D, .int .i64 A, .int .i64 R, .int .i64 N, .bool Lg] 24) := by rw [hW]; exact Blk.top _ _
  have i0 := hBI.cell (j := 0) rfl
  have i1 := hBI.cell (j := 1) rfl
  have i2 := hBI.cell (j := 2) rfl
  have i3 := hBI.cell (j := 3) rfl
  have i4 := hBI.cell (j := 4) rfl
  have i5 := hBI.cell (j := 5) rfl
  have hM := hm.keeps hkW
  have HW := Lib.hid hW
  have HM := Lib.hid hM
  have HOK := Lib.hid ok
  have c7 : W.cell? ⟨g, 20, none⟩ = some (.int .i64 (nth s.regs 7).N) := (MAt.reg hM (r := 7) (by omega)).1
  have d7 : W.cell? ⟨g, 21, none⟩ = some (.bool (nth s.regs 7).C) := (MAt.reg hM (r := 7) (by omega)).2
  generalize nth s.regs 7 = v7 at *
  obtain ⟨vN, vC⟩ := v7
  clear hM hBI hW hm ok
  dsimp only at c7 d7 e0
  cases vC with
  | true =>
    rw [if_pos rfl] at e0
    subst e0
    dsimp only
    go_enter Tryd.func42, Tryd.ntmps42
    go_upto_region 1 with fail
    rw [← HW.out]
    go_wp2_with fail
    go_quiet (fail)
    go_wp2_with fail
    go_ret2
    refine ⟨rfl, ?_⟩
    first
      | (with_reducible exact HM.out)
      | exact HM.out.keeps (by repeat (with_reducible (first | assumption | exact Keeps.refl _ | refine Keeps.alloc ?_ _ | refine Keeps.drew ?_ | refine Keeps.drewN ?_ _)))
  | false =>
    rw [if_neg (by simp)] at e0
    subst e0
    dsimp only
    go_enter Tryd.func42, Tryd.ntmps42
    go_upto_region 1 with fail
    rw [← HW.out]
    go_wp2_with fail
    go_ret2
    refine ⟨rfl, ?_⟩
    first
      | (with_reducible exact HM.out)
      | exact HM.out.keeps (by repeat (with_reducible (first | assumption | exact Keeps.refl _ | refine Keeps.alloc ?_ _ | refine Keeps.drew ?_ | refine Keeps.drewN ?_ _)))
theorem flow_jump {B g : Nat} {W0 : World} {h : List Value} {s : Mach} {vd vi vt : Value} {en st at2 : Int} (w : World) (hm : MAt B W0 g h s vd vi vt en st at2 w) (ok : MachOk s) (m : Img) (D A R : Nat) (N : Int) (Lg : Bool) (hD : D < 8) (hA : A < 8) (hR : R < 8) (hN : -32768 ≤ N ∧ N ≤ 32767) (nx : Int) :
    Calls Tryd.prog 42 #[.pointer (some ⟨g, 0, none⟩), insV 22 D A R N Lg, .int .i64 nx] w fun e w' => e = .returned (.tuple #[.int .i64 (flowS m s ⟨22, D, A, R, N, Lg⟩ nx).1, .int .i64 (flowS m s ⟨22, D, A, R, N, Lg⟩ nx).2.1]) ∧ MAt B W0 g h (flowS m s ⟨22, D, A, R, N, Lg⟩ nx).2.2 vd vi vt en st at2 w' := by
  have e0 : flowS m s ⟨22, D, A, R, N, Lg⟩ nx = (0, s.pc + N, s) := rfl
  generalize flowS m s ⟨22, D, A, R, N, Lg⟩ nx = RR0 at e0 ⊢
  subst e0
  dsimp only
  unfold insV
  have h8 := ok.regs
  have hDi : (D : Int) < 8 := by omega
  have hAi : (A : Int) < 8 := by omega
  have hRi : (R : Int) < 8 := by omega
  obtain ⟨W, hW, hkW⟩ : ∃ W : World, W = w.alloc (.cells #[.int .i64 22, .int .i64 D, .int .i64 A, .int .i64 R, .int .i64 N, .bool Lg] 24) ∧ Keeps w W := ⟨_, rfl, (Keeps.refl w).alloc _⟩
  have hBI : Blk W w.heap.size (.cells #[.int .i64 22, .int .i64 D, .int .i64 A, .int .i64 R, .int .i64 N, .bool Lg] 24) := by rw [hW]; exact Blk.top _ _
  have i0 := hBI.cell (j := 0) rfl
  have i1 := hBI.cell (j := 1) rfl
  have i2 := hBI.cell (j := 2) rfl
  have i3 := hBI.cell (j := 3) rfl
  have i4 := hBI.cell (j := 4) rfl
  have i5 := hBI.cell (j := 5) rfl
  have hM := hm.keeps hkW
  have HW := Lib.hid hW
  have HM := Lib.hid hM
  have HOK := Lib.hid ok
  have p0 := hM.tail h8 2 rfl
  have hpc := ok.pc
  unfold InM at hpc
  have s1 : IntKind.i64.wrap (s.pc + N) = s.pc + N := IntWalk.i64_in _ (by omega)
  have s2 : IntKind.i64.wrap (s.pc + N) = s.pc + N := s1
  clear hM hBI hW hm ok
  go_enter Tryd.func42, Tryd.ntmps42
  go_upto_region 1 with fail
  rw [← HW.out]
  go_wp2_with fail
  go_quiet (fail)
  go_wp2_with fail
  go_ret2
  refine ⟨rfl, ?_⟩
  first
    | (with_reducible exact HM.out)
    | exact HM.out.keeps (by repeat (with_reducible (first | assumption | exact Keeps.refl _ | refine Keeps.alloc ?_ _ | refine Keeps.drew ?_ | refine Keeps.drewN ?_ _)))
theorem flow_call {B g : Nat} {W0 : World} {h : List Value} {s : Mach} {vd vi vt : Value} {en st at2 : Int} (w : World) (hm : MAt B W0 g h s vd vi vt en st at2 w) (ok : MachOk s) (m : Img) (D A R : Nat) (N : Int) (Lg : Bool) (hD : D < 8) (hA : A < 8) (hR : R < 8) (hN : -32768 ≤ N ∧ N ≤ 32767) (nx : Int) :
    Calls Tryd.prog 42 #[.pointer (some ⟨g, 0, none⟩), insV 23 D A R N Lg, .int .i64 nx] w fun e w' => e = .returned (.tuple #[.int .i64 (flowS m s ⟨23, D, A, R, N, Lg⟩ nx).1, .int .i64 (flowS m s ⟨23, D, A, R, N, Lg⟩ nx).2.1]) ∧ MAt B W0 g h (flowS m s ⟨23, D, A, R, N, Lg⟩ nx).2.2 vd vi vt en st at2 w' := by
  have e0 : flowS m s ⟨23, D, A, R, N, Lg⟩ nx = (0, s.pc + N, s.put 7 ⟨nx, true⟩) := rfl
  generalize flowS m s ⟨23, D, A, R, N, Lg⟩ nx = RR0 at e0 ⊢
  subst e0
  dsimp only
  unfold insV
  have h8 := ok.regs
  have hDi : (D : Int) < 8 := by omega
  have hAi : (A : Int) < 8 := by omega
  have hRi : (R : Int) < 8 := by omega
  obtain ⟨W, hW, hkW⟩ : ∃ W : World, W = w.alloc (.cells #[.int .i64 23, .int .i64 D, .int .i64 A, .int .i64 R, .int .i64 N, .bool Lg] 24) ∧ Keeps w W := ⟨_, rfl, (Keeps.refl w).alloc _⟩
  have hBI : Blk W w.heap.size (.cells #[.int .i64 23, .int .i64 D, .int .i64 A, .int .i64 R, .int .i64 N, .bool Lg] 24) := by rw [hW]; exact Blk.top _ _
  have i0 := hBI.cell (j := 0) rfl
  have i1 := hBI.cell (j := 1) rfl
  have i2 := hBI.cell (j := 2) rfl
  have i3 := hBI.cell (j := 3) rfl
  have i4 := hBI.cell (j := 4) rfl
  have i5 := hBI.cell (j := 5) rfl
  have hM := hm.keeps hkW
  have HW := Lib.hid hW
  have HM := Lib.hid hM
  have HOK := Lib.hid ok
  have c7 : W.cell? ⟨g, 20, none⟩ = some (.int .i64 (nth s.regs 7).N) := (MAt.reg hM (r := 7) (by omega)).1
  have d7 : W.cell? ⟨g, 21, none⟩ = some (.bool (nth s.regs 7).C) := (MAt.reg hM (r := 7) (by omega)).2
  have u7 : W.frozen? ⟨g, 20, none⟩ = false := hM.blk.thawed 20
  have u8 : W.frozen? ⟨g, 21, none⟩ = false := hM.blk.thawed 21
  have hgl := hM.blk.lt
  have hne : w.heap.size ≠ g := fun e => by have := hm.blk.lt; omega
  have HBI := Lib.hid hBI
  have hpc := ok.pc
  clear hM hBI hW hm ok
  go_enter Tryd.func42, Tryd.ntmps42
  go_upto_region 1 with fail
  rw [← HW.out]
  go_upto_region 14 with fail
  obtain ⟨w3, hw3⟩ : ∃ w3, w3 = (W.setCell ⟨g, 20, none⟩ (.int .i64 nx)).setCell ⟨g, 21, none⟩ (.bool true) := ⟨_, rfl⟩
  rw [← hw3]
  have hM3 : MAt B W0 g h (s.put 7 ⟨nx, true⟩) vd vi vt en st at2 w3 := by rw [hw3]; exact HM.out.put h8 7 (by decide) ⟨nx, true⟩
  have hB3 : Blk w3 w.heap.size (.cells #[.int .i64 23, .int .i64 D, .int .i64 A, .int .i64 R, .int .i64 N, .bool Lg] 24) := by rw [hw3]; exact (HBI.out.grown (grown_setCell _ _ _ _) (fun e => by injection e with e; exact hne e)).grown (grown_setCell _ _ _ _) (fun e => by injection e with e; exact hne e)
  have i4 := hB3.cell (j := 4) rfl
  have p0 : w3.cell? ⟨g, 22 + 2, none⟩ = some (.int .i64 s.pc) := hM3.tail (by simp [Mach.put, h8]) 2 rfl
  unfold InM at hpc
  have s1 : IntKind.i64.wrap (s.pc + N) = s.pc + N := IntWalk.i64_in _ (by omega)
  have HM3 := Lib.hid hM3
  clear hM3 hB3 hw3 c7 d7 u7 u8
  go_wp2_with fail
  go_quiet (fail)
  go_wp2_with fail
  go_ret2
  refine ⟨rfl, ?_⟩
  first
    | (with_reducible exact HM3.out)
    | exact HM3.out.keeps (by repeat (with_reducible (first | assumption | exact Keeps.refl _ | refine Keeps.alloc ?_ _ | refine Keeps.drew ?_ | refine Keeps.drewN ?_ _)))
theorem flow_br {B g : Nat} {W0 : World} {h : List Value} {s : Mach} {vd vi vt : Value} {en st at2 : Int} (w : World) (hm : MAt B W0 g h s vd vi vt en st at2 w) (ok : MachOk s) (m : Img) (K : Int) (hK : 18 ≤ K ∧ K ≤ 21) (D A R : Nat) (N : Int) (Lg : Bool) (hD : D < 8) (hA : A < 8) (hR : R < 8) (hN : -32768 ≤ N ∧ N ≤ 32767) (nx : Int) :
    Calls Tryd.prog 42 #[.pointer (some ⟨g, 0, none⟩), insV K D A R N Lg, .int .i64 nx] w fun e w' => e = .returned (.tuple #[.int .i64 (flowS m s ⟨K, D, A, R, N, Lg⟩ nx).1, .int .i64 (flowS m s ⟨K, D, A, R, N, Lg⟩ nx).2.1]) ∧ MAt B W0 g h (flowS m s ⟨K, D, A, R, N, Lg⟩ nx).2.2 vd vi vt en st at2 w' := by
  have e0 : flowS m s ⟨K, D, A, R, N, Lg⟩ nx = (if (nth s.regs A).C = true ∨ (nth s.regs R).C = true then (4, nx, s) else if takenN K (nth s.regs A).N (nth s.regs R).N then (0, s.pc + N, s) else (0, nx, s)) := by
    unfold flowS Mach.r
    simp only [Int.toNat_natCast]
    rw [if_neg (by omega), if_neg (by omega), if_neg (by omega), if_neg (by omega), if_neg (by omega), if_neg (by omega)]
  generalize flowS m s ⟨K, D, A, R, N, Lg⟩ nx = RR0 at e0 ⊢
  unfold insV
  have h8 := ok.regs
  have hDi : (D : Int) < 8 := by omega
  have hAi : (A : Int) < 8 := by omega
  have hRi : (R : Int) < 8 := by omega
  obtain ⟨W, hW, hkW⟩ : ∃ W : World, W = w.alloc (.cells #[.int .i64 K, .int .i64 D, .int .i64 A, .int .i64 R, .int .i64 N, .bool Lg] 24) ∧ Keeps w W := ⟨_, rfl, (Keeps.refl w).alloc _⟩
  have hBI : Blk W w.heap.size (.cells #[.int .i64 K, .int .i64 D, .int .i64 A, .int .i64 R, .int .i64 N, .bool Lg] 24) := by rw [hW]; exact Blk.top _ _
  have i0 := hBI.cell (j := 0) rfl
  have i1 := hBI.cell (j := 1) rfl
  have i2 := hBI.cell (j := 2) rfl
  have i3 := hBI.cell (j := 3) rfl
  have i4 := hBI.cell (j := 4) rfl
  have i5 := hBI.cell (j := 5) rfl
  have hM := hm.keeps hkW
  have HW := Lib.hid hW
  have HM := Lib.hid hM
  have HOK := Lib.hid ok
  have t1 : (K == 1) = false := by simp; omega
  have t2 : (K == 2) = false := by simp; omega
  have t3 : (K == 3) = false := by simp; omega
  have t22 : (K == 22) = false := by simp; omega
  have t23 : (K == 23) = false := by simp; omega
  have t24 : (K == 24) = false := by simp; omega
  have p0 := hM.tail h8 2 rfl
  have hpc := ok.pc
  unfold InM at hpc
  have s1 : IntKind.i64.wrap (s.pc + N) = s.pc + N := IntWalk.i64_in _ (by omega)
  have s2 : IntKind.i64.wrap (s.pc + N) = s.pc + N := s1
  have HNM := Lib.hid (numbers_mc g A R (nth s.regs A) (nth s.regs R) W (MAt.reg hM (by omega)) (MAt.reg hM (by omega)) hA hR)
  generalize nth s.regs A = va at *
  generalize nth s.regs R = vr at *
  obtain ⟨vaN, vaC⟩ := va
  obtain ⟨vrN, vrC⟩ := vr
  clear hM hBI hW hm ok
  dsimp only at HNM e0
  by_cases hbad : vaC = true ∨ vrC = true
  · rw [if_pos hbad] at e0
    subst e0
    dsimp only
    have hb2 : (!vaC && !vrC) = false := by rcases hbad with rfl | rfl <;> simp
    rw [hb2] at HNM
    clear hbad hb2 s1 s2 p0
    go_enter Tryd.func42, Tryd.ntmps42
    go_upto_region 1 with fail
    rw [← HW.out]
    go_wp2_with fail
    refine HNM.out.mono ?_
    rintro e w1 ⟨rfl, hk1⟩
    go_wp2_with fail
    go_ret2
    exact ⟨rfl, HM.out.keeps hk1⟩
  · rw [if_neg hbad] at e0
    have hb2 : (!vaC && !vrC) = true := by simpa using hbad
    rw [hb2] at HNM
    clear hbad hb2
    have HT := Lib.hid (fun w' => taken_any K vaN vrN w')
    cases ht : takenN K vaN vrN with
    | true =>
      rw [ht, if_pos rfl] at e0
      rw [ht] at HT
      subst e0
      dsimp only
      clear ht
      go_enter Tryd.func42, Tryd.ntmps42
      go_upto_region 1 with fail
      rw [← HW.out]
      go_wp2_with fail
      refine HNM.out.mono ?_
      rintro e w1 ⟨rfl, hk1⟩
      have i0 := hk1.cell i0
      have i1 := hk1.cell i1
      have i2 := hk1.cell i2
      have i3 := hk1.cell i3
      have i4 := hk1.cell i4
      have i5 := hk1.cell i5
      have p0 := hk1.cell p0
      have HM := Lib.hid (HM.out.keeps hk1)
      go_wp2_with (go_at_call 68; refine (HT.out _).mono ?_; rintro e w' ⟨rfl, rfl⟩)
      go_quiet (fail)
      go_wp2_with fail
      go_ret2
      refine ⟨rfl, ?_⟩
      first
        | (with_reducible exact HM.out)
        | exact HM.out.keeps (by repeat (with_reducible (first | assumption | exact Keeps.refl _ | refine Keeps.alloc ?_ _ | refine Keeps.drew ?_ | refine Keeps.drewN ?_ _)))
    | false =>
      rw [ht, if_neg (by simp)] at e0
      rw [ht] at HT
      subst e0
      dsimp only
      clear ht
      go_enter Tryd.func42, Tryd.ntmps42
      go_upto_region 1 with fail
      rw [← HW.out]
      go_wp2_with fail
      refine HNM.out.mono ?_
      rintro e w1 ⟨rfl, hk1⟩
      have i0 := hk1.cell i0
      have i1 := hk1.cell i1
      have i2 := hk1.cell i2
      have i3 := hk1.cell i3
      have i4 := hk1.cell i4
      have i5 := hk1.cell i5
      have HM := Lib.hid (HM.out.keeps hk1)
      go_wp2_with (go_at_call 68; refine (HT.out _).mono ?_; rintro e w' ⟨rfl, rfl⟩)
      go_ret2
      refine ⟨rfl, ?_⟩
      first
        | (with_reducible exact HM.out)
        | exact HM.out.keeps (by repeat (with_reducible (first | assumption | exact Keeps.refl _ | refine Keeps.alloc ?_ _ | refine Keeps.drew ?_ | refine Keeps.drewN ?_ _)))
theorem flow_tab {B g : Nat} {W0 : World} {h : List Value} {s : Mach} {vd vi vt : Value} {en st at2 : Int} (w : World) (hm : MAt B W0 g h s vd vi vt en st at2 w) (ok : MachOk s) (m : Img) (v2 : Value) (hv2 : h[2]? = some v2) (hT : Tabs W0 v2 m.Tables) (D A R : Nat) (N : Int) (Lg : Bool) (hD : D < 8) (hA : A < 8) (hR : R < 8) (hN : -32768 ≤ N ∧ N ≤ 32767) (hN0 : 0 ≤ N) (nx : Int) :
    Calls Tryd.prog 42 #[.pointer (some ⟨g, 0, none⟩), insV 24 D A R N Lg, .int .i64 nx] w fun e w' => e = .returned (.tuple #[.int .i64 (flowS m s ⟨24, D, A, R, N, Lg⟩ nx).1, .int .i64 (flowS m s ⟨24, D, A, R, N, Lg⟩ nx).2.1]) ∧ MAt B W0 g h (flowS m s ⟨24, D, A, R, N, Lg⟩ nx).2.2 vd vi vt en st at2 w' := by
  have e0 : flowS m s ⟨24, D, A, R, N, Lg⟩ nx = (if (nth s.regs A).C then (4, nx, s) else if (m.Tables.length : Int) ≤ N ∨ (nth s.regs A).N < 0 ∨ ((nth m.Tables N.toNat).length : Int) ≤ (nth s.regs A).N then (2, nx, s) else (0, nth (nth m.Tables N.toNat) (nth s.regs A).N.toNat, s)) := by
    unfold flowS Mach.r
    simp
  generalize flowS m s ⟨24, D, A, R, N, Lg⟩ nx = RR0 at e0 ⊢
  unfold insV
  have h8 := ok.regs
  have hDi : (D : Int) < 8 := by omega
  have hAi : (A : Int) < 8 := by omega
  have hRi : (R : Int) < 8 := by omega
  obtain ⟨W, hW, hkW⟩ : ∃ W : World, W = w.alloc (.cells #[.int .i64 24, .int .i64 D, .int .i64 A, .int .i64 R, .int .i64 N, .bool Lg] 24) ∧ Keeps w W := ⟨_, rfl, (Keeps.refl w).alloc _⟩
  have hBI : Blk W w.heap.size (.cells #[.int .i64 24, .int .i64 D, .int .i64 A, .int .i64 R, .int .i64 N, .bool Lg] 24) := by rw [hW]; exact Blk.top _ _
  have i0 := hBI.cell (j := 0) rfl
  have i1 := hBI.cell (j := 1) rfl
  have i2 := hBI.cell (j := 2) rfl
  have i3 := hBI.cell (j := 3) rfl
  have i4 := hBI.cell (j := 4) rfl
  have i5 := hBI.cell (j := 5) rfl
  have hM := hm.keeps hkW
  have HW := Lib.hid hW
  have HM := Lib.hid hM
  have HOK := Lib.hid ok
  obtain ⟨tv, ⟨a2, c2, e2, t1, t2, -, t3⟩, rv⟩ := hT
  subst e2
  have hW0 : Keeps W0 W := Keeps.trans' (Keeps.refl _) hM.keep hM.B0
  have g2 := hM.head (j := 2) (by decide) hv2
  have HNM := Lib.hid (number_mc g A (nth s.regs A) W (MAt.reg hM (by omega)) hA)
  generalize nth s.regs A = va at *
  obtain ⟨vaN, vaC⟩ := va
  clear hM hBI hW hm ok
  dsimp only at HNM e0
  cases vaC with
  | true =>
    rw [if_pos rfl] at e0
    subst e0
    dsimp only
    go_enter Tryd.func42, Tryd.ntmps42
    go_upto_region 1 with fail
    rw [← HW.out]
    go_wp2_with fail
    refine HNM.out.mono ?_
    rintro e w1 ⟨rfl, hk1⟩
    go_wp2_with fail
    go_ret2
    exact ⟨rfl, HM.out.keeps hk1⟩
  | false =>
    rw [if_neg (by simp)] at e0
    by_cases h1 : (m.Tables.length : Int) ≤ N
    · rw [if_pos (Or.inl h1)] at e0
      subst e0
      dsimp only
      have b1 : decide ((m.Tables.length : Int) ≤ N) = true := by simpa using h1
      clear t3 rv h1
      go_enter Tryd.func42, Tryd.ntmps42
      go_upto_region 1 with fail
      rw [← HW.out]
      go_wp2_with fail
      refine HNM.out.mono ?_
      rintro e w1 ⟨rfl, hk1⟩
      have i0 := hk1.cell i0
      have i1 := hk1.cell i1
      have i2 := hk1.cell i2
      have i3 := hk1.cell i3
      have i4 := hk1.cell i4
      have i5 := hk1.cell i5
      have g2 := hk1.cell g2
      have HM := Lib.hid (HM.out.keeps hk1)
      go_wp2_with fail
      go_quiet (fail)
      go_wp2_with fail
      go_ret2
      refine ⟨rfl, ?_⟩
      first
        | (with_reducible exact HM.out)
        | exact HM.out.keeps (by repeat (with_reducible (first | assumption | exact Keeps.refl _ | refine Keeps.alloc ?_ _ | refine Keeps.drew ?_ | refine Keeps.drewN ?_ _)))
    · obtain ⟨n, hn⟩ : ∃ n : Nat, N = n := ⟨N.toNat, by omega⟩
      subst hn
      rw [Int.toNat_natCast] at e0
      have hnl : n < m.Tables.length := by omega
      have hnl2 : (n : Int) < (m.Tables.length : Int) := by omega
      have b1 : decide ((m.Tables.length : Int) ≤ (n : Int)) = false := by simpa using h1
      have b1' : decide (m.Tables.length ≤ n) = false := by simpa using hnl
      obtain ⟨tb, toff, rfl, hc⟩ := t3 (by omega)
      have c1 : W.cell? ⟨tb, toff + n, none⟩ = some (tv n) := hW0.cell (by simpa using hc n 0 hnl (by omega))
      obtain ⟨a3, c3, e3, r1, r2, -, r3⟩ := rv n hnl
      rw [e3] at c1
      generalize nth m.Tables n = row at *
      clear hc rv e3 t1 t2
      by_cases h2 : vaN < 0
      · rw [if_pos (Or.inr (Or.inl h2))] at e0
        subst e0
        dsimp only
        have b2 : decide (vaN < 0) = true := by simpa using h2
        clear r3 h1
        go_enter Tryd.func42, Tryd.ntmps42
        go_upto_region 1 with fail
        rw [← HW.out]
        go_wp2_with fail
        refine HNM.out.mono ?_
        rintro e w1 ⟨rfl, hk1⟩
        have i0 := hk1.cell i0
        have i1 := hk1.cell i1
        have i2 := hk1.cell i2
        have i3 := hk1.cell i3
        have i4 := hk1.cell i4
        have i5 := hk1.cell i5
        have g2 := hk1.cell g2
        have HM := Lib.hid (HM.out.keeps hk1)
        go_wp2_with fail
        go_quiet (fail)
        go_wp2_with fail
        go_ret2
        refine ⟨rfl, ?_⟩
        first
          | (with_reducible exact HM.out)
          | exact HM.out.keeps (by repeat (with_reducible (first | assumption | exact Keeps.refl _ | refine Keeps.alloc ?_ _ | refine Keeps.drew ?_ | refine Keeps.drewN ?_ _)))
      · have b2 : decide (vaN < 0) = false := by simpa using h2
        by_cases h3 : (row.length : Int) ≤ vaN
        · rw [if_pos (Or.inr (Or.inr h3))] at e0
          subst e0
          dsimp only
          have b3 : decide ((row.length : Int) ≤ vaN) = true := by simpa using h3
          clear r3 h1
          go_enter Tryd.func42, Tryd.ntmps42
          go_upto_region 1 with fail
          rw [← HW.out]
          go_wp2_with fail
          refine HNM.out.mono ?_
          rintro e w1 ⟨rfl, hk1⟩
          have i0 := hk1.cell i0
          have i1 := hk1.cell i1
          have i2 := hk1.cell i2
          have i3 := hk1.cell i3
          have i4 := hk1.cell i4
          have i5 := hk1.cell i5
          have g2 := hk1.cell g2
          have c1 := hk1.cell c1
          have HM := Lib.hid (HM.out.keeps hk1)
          go_wp2_with fail
          go_quiet (fail)
          go_wp2_with fail
          go_ret2
          refine ⟨rfl, ?_⟩
          first
            | (with_reducible exact HM.out)
            | exact HM.out.keeps (by repeat (with_reducible (first | assumption | exact Keeps.refl _ | refine Keeps.alloc ?_ _ | refine Keeps.drew ?_ | refine Keeps.drewN ?_ _)))
        · rw [if_neg (by rintro (h | h | h) <;> omega)] at e0
          obtain ⟨v, hv⟩ : ∃ v : Nat, vaN = v := ⟨vaN.toNat, by omega⟩
          subst hv
          rw [Int.toNat_natCast] at e0
          subst e0
          dsimp only
          have b3 : decide ((row.length : Int) ≤ (v : Int)) = false := by simpa using h3
          have hvl : v < row.length := by omega
          have b3' : decide (row.length ≤ v) = false := by simpa using hvl
          have b2' : decide ((v : Int) < 0) = false := b2
          have hvl2 : (v : Int) < (row.length : Int) := by omega
          obtain ⟨rb, roff, rfl, hc3⟩ := r3 (by omega)
          have c3' : W.cell? ⟨rb, roff + v, none⟩ = some (.int .i64 (nth row v)) := hW0.cell (by simpa using hc3 v 0 hvl (by omega))
          clear hc3 h1 h2 h3
          go_enter Tryd.func42, Tryd.ntmps42
          go_upto_region 1 with fail
          rw [← HW.out]
          go_wp2_with fail
          refine HNM.out.mono ?_
          rintro e w1 ⟨rfl, hk1⟩
          have i0 := hk1.cell i0
          have i1 := hk1.cell i1
          have i2 := hk1.cell i2
          have i3 := hk1.cell i3
          have i4 := hk1.cell i4
          have i5 := hk1.cell i5
          have g2 := hk1.cell g2
          have c1 := hk1.cell c1
          have c3' := hk1.cell c3'
          have HM := Lib.hid (HM.out.keeps hk1)
          go_wp2_with fail
          go_quiet (fail)
          go_wp2_with fail
          go_quiet (fail)
          go_wp2_with fail
          go_ret2
          refine ⟨rfl, ?_⟩
          first
            | (with_reducible exact HM.out)
            | exact HM.out.keeps (by repeat (with_reducible (first | assumption | exact Keeps.refl _ | refine Keeps.alloc ?_ _ | refine Keeps.drew ?_ | refine Keeps.drewN ?_ _)))
end Go.Proofs.YtpgifkhgefbnfaaDoor
