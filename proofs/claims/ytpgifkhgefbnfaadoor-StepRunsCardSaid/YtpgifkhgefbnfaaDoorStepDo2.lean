/-
  step.machine's do: what it does to the machine.
-/
import Derived.Test.YtpgifkhgefbnfaaDoorStepDo
namespace Go.Proofs.YtpgifkhgefbnfaaDoor
open Go.RowKit BH
set_option maxHeartbeats 4000000
set_option maxRecDepth 100000
theorem do_nop {B g : Nat} {W0 : World} {h : List Value} {s : Mach} {vd vi vt : Value} {en st at2 : Int} (w : World) (hm : MAt B W0 g h s vd vi vt en st at2 w) (ok : MachOk s) (D A R : Nat) (N : Int) (Lg : Bool) (hD : D < 8) (hA : A < 8) (hR : R < 8) (_hN : -32768 ≤ N ∧ N ≤ 32767) :
    Calls Tryd.prog 43 #[.pointer (some ⟨g, 0, none⟩), insV 4 D A R N Lg] w fun e w' => ∃ vi' vt', e = .returned (.int .i64 (doS s ⟨4, D, A, R, N, Lg⟩).1) ∧ MAt B W0 g h (doS s ⟨4, D, A, R, N, Lg⟩).2 vd vi' vt' en st at2 w' := by
  have e0 : doS s ⟨4, D, A, R, N, Lg⟩ = (0, s) := rfl
  generalize doS s ⟨4, D, A, R, N, Lg⟩ = RR0 at e0 ⊢
  subst e0
  dsimp only
  unfold insV
  have h8 := ok.regs
  have hDi : (D : Int) < 8 := by omega
  have hAi : (A : Int) < 8 := by omega
  have hRi : (R : Int) < 8 := by omega
  obtain ⟨W, hW, hkW⟩ : ∃ W : World, W = w.alloc (.cells #[.int .i64 4, .int .i64 D, .int .i64 A, .int .i64 R, .int .i64 N, .bool Lg] 24) ∧ Keeps w W := ⟨_, rfl, (Keeps.refl w).alloc _⟩
  have hBI : Blk W w.heap.size (.cells #[.int .i64 4, .int .i64 D, .int .i64 A, .int .i64 R, .int .i64 N, .bool Lg] 24) := by rw [hW]; exact Blk.top _ _
  have i0 := hBI.cell (j := 0) rfl
  have i1 := hBI.cell (j := 1) rfl
  have i2 := hBI.cell (j := 2) rfl
  have i3 := hBI.cell (j := 3) rfl
  have i4 := hBI.cell (j := 4) rfl
  have i5 := hBI.cell (j := 5) rfl
  have hM := hm.keeps hkW
  have HW := Lib.hid hW
  have HM := Lib.hid hM
  have HOK := Lib.hid ok
  clear hM hBI hW hm ok
  go_enter Tryd.func43, Tryd.ntmps43
  go_upto_region 1 with fail
  rw [← HW.out]
  go_wp2_with fail
  go_ret
  exact ⟨vi, vt, rfl, HM.out⟩
theorem do_li {B g : Nat} {W0 : World} {h : List Value} {s : Mach} {vd vi vt : Value} {en st at2 : Int} (w : World) (hm : MAt B W0 g h s vd vi vt en st at2 w) (ok : MachOk s) (D A R : Nat) (N : Int) (Lg : Bool) (hD : D < 8) (hA : A < 8) (hR : R < 8) (_hN : -32768 ≤ N ∧ N ≤ 32767) :
    Calls Tryd.prog 43 #[.pointer (some ⟨g, 0, none⟩), insV 5 D A R N Lg] w fun e w' => ∃ vi' vt', e = .returned (.int .i64 (doS s ⟨5, D, A, R, N, Lg⟩).1) ∧ MAt B W0 g h (doS s ⟨5, D, A, R, N, Lg⟩).2 vd vi' vt' en st at2 w' := by
  have e0 : doS s ⟨5, D, A, R, N, Lg⟩ = (0, s.put D ⟨N, false⟩) := rfl
  generalize doS s ⟨5, D, A, R, N, Lg⟩ = RR0 at e0 ⊢
  subst e0
  dsimp only
  unfold insV
  have h8 := ok.regs
  have hDi : (D : Int) < 8 := by omega
  have hAi : (A : Int) < 8 := by omega
  have hRi : (R : Int) < 8 := by omega
  obtain ⟨W, hW, hkW⟩ : ∃ W : World, W = w.alloc (.cells #[.int .i64 5, .int .i64 D, .int .i64 A, .int .i64 R, .int .i64 N, .bool Lg] 24) ∧ Keeps w W := ⟨_, rfl, (Keeps.refl w).alloc _⟩
  have hBI : Blk W w.heap.size (.cells #[.int .i64 5, .int .i64 D, .int .i64 A, .int .i64 R, .int .i64 N, .bool Lg] 24) := by rw [hW]; exact Blk.top _ _
  have i0 := hBI.cell (j := 0) rfl
  have i1 := hBI.cell (j := 1) rfl
  have i2 := hBI.cell (j := 2) rfl
  have i3 := hBI.cell (j := 3) rfl
  have i4 := hBI.cell (j := 4) rfl
  have i5 := hBI.cell (j := 5) rfl
  have hM := hm.keeps hkW
  have HW := Lib.hid hW
  have HM := Lib.hid hM
  have HOK := Lib.hid ok
  have z0 := (MAt.reg hM (r := D) (by show D < s.regs.length; omega)).1
  have z1 := (MAt.reg hM (r := D) (by show D < s.regs.length; omega)).2
  have q0 := (MAt.blk hM).thawed (6 + D * 2)
  have q1 := (MAt.blk hM).thawed (6 + D * 2 + 1)
  have hgl := (MAt.blk hM).lt
  clear hM hBI hW hm ok i2 i3 i5
  go_enter Tryd.func43, Tryd.ntmps43
  go_upto_region 1 with fail
  rw [← HW.out]
  go_wp2_with fail
  go_region_law (fail)
  all_goals
    go_wp2_with fail
    go_ret
    refine ⟨vi, vt, rfl, ?_⟩
    first
      | exact (MAt.put HM.out h8 D hD ⟨N, false⟩).keeps ((Keeps.refl _).drew)
      | exact (MAt.put HM.out h8 D hD ⟨N, false⟩).keeps ((Keeps.refl _).drewN _)
      | exact MAt.put (MAt.keeps HM.out (by repeat (with_reducible (first | assumption | exact Keeps.refl _ | refine Keeps.alloc ?_ _ | refine Keeps.drew ?_ | refine Keeps.drewN ?_ _)))) h8 D hD ⟨N, false⟩
theorem do_addi {B g : Nat} {W0 : World} {h : List Value} {s : Mach} {vd vi vt : Value} {en st at2 : Int} (w : World) (hm : MAt B W0 g h s vd vi vt en st at2 w) (ok : MachOk s) (D A R : Nat) (N : Int) (Lg : Bool) (hD : D < 8) (hA : A < 8) (hR : R < 8) (hN : -32768 ≤ N ∧ N ≤ 32767) :
    Calls Tryd.prog 43 #[.pointer (some ⟨g, 0, none⟩), insV 6 D A R N Lg] w fun e w' => ∃ vi' vt', e = .returned (.int .i64 (doS s ⟨6, D, A, R, N, Lg⟩).1) ∧ MAt B W0 g h (doS s ⟨6, D, A, R, N, Lg⟩).2 vd vi' vt' en st at2 w' := by
  have e0 : doS s ⟨6, D, A, R, N, Lg⟩ = (if (nth s.regs A).C then (4, s) else (0, s.put D ⟨foldN ((nth s.regs A).N + N), false⟩)) := by unfold doS Mach.r; simp
  generalize doS s ⟨6, D, A, R, N, Lg⟩ = RR0 at e0 ⊢
  unfold insV
  have h8 := ok.regs
  have hDi : (D : Int) < 8 := by omega
  have hAi : (A : Int) < 8 := by omega
  have hRi : (R : Int) < 8 := by omega
  obtain ⟨W, hW, hkW⟩ : ∃ W : World, W = w.alloc (.cells #[.int .i64 6, .int .i64 D, .int .i64 A, .int .i64 R, .int .i64 N, .bool Lg] 24) ∧ Keeps w W := ⟨_, rfl, (Keeps.refl w).alloc _⟩
  have hBI : Blk W w.heap.size (.cells #[.int .i64 6, .int .i64 D, .int .i64 A, .int .i64 R, .int .i64 N, .bool Lg] 24) := by rw [hW]; exact Blk.top _ _
  have i0 := hBI.cell (j := 0) rfl
  have i1 := hBI.cell (j := 1) rfl
  have i2 := hBI.cell (j := 2) rfl
  have i3 := hBI.cell (j := 3) rfl
  have i4 := hBI.cell (j := 4) rfl
  have i5 := hBI.cell (j := 5) rfl
  have hM := hm.keeps hkW
  have HW := Lib.hid hW
  have HM := Lib.hid hM
  have HOK := Lib.hid ok
  have hva := r_in ok (a := (A : Int)) (by omega) (by omega)
  have HNM := Lib.hid (number_mc g A (nth s.regs A) W (MAt.reg hM (by omega)) hA)
  unfold Mach.r at hva
  rw [Int.toNat_natCast] at hva
  unfold InM at hva
  generalize nth s.regs A = va at *
  obtain ⟨vaN, vaC⟩ := va
  clear hM hBI hW hm ok
  dsimp only at HNM hva
  cases vaC with
  | true =>
    rw [if_pos rfl] at e0
    subst e0
    dsimp only
    go_enter Tryd.func43, Tryd.ntmps43
    go_upto_region 1 with fail
    rw [← HW.out]
    go_wp2_with fail
    refine HNM.out.mono ?_
    rintro e w1 ⟨rfl, hk1⟩
    go_wp2_with fail
    go_ret
    exact ⟨vi, vt, rfl, HM.out.keeps hk1⟩
  | false =>
    rw [if_neg (by simp)] at e0
    subst e0
    dsimp only
    go_enter Tryd.func43, Tryd.ntmps43
    go_upto_region 1 with fail
    rw [← HW.out]
    go_wp2_with fail
    refine HNM.out.mono ?_
    rintro e w1 ⟨rfl, hk1⟩
    have i0 := hk1.cell i0
    have i1 := hk1.cell i1
    have i2 := hk1.cell i2
    have i3 := hk1.cell i3
    have i4 := hk1.cell i4
    have i5 := hk1.cell i5
    have hM1 := HM.out.keeps hk1
    have z0 := (MAt.reg hM1 (r := D) (by show D < s.regs.length; omega)).1
    have z1 := (MAt.reg hM1 (r := D) (by show D < s.regs.length; omega)).2
    have q0 := (MAt.blk hM1).thawed (6 + D * 2)
    have q1 := (MAt.blk hM1).thawed (6 + D * 2 + 1)
    have hgl := (MAt.blk hM1).lt
    have HM1 := Lib.hid hM1
    have s1 : IntKind.i64.wrap (vaN + N) = vaN + N := IntWalk.i64_in _ (by omega)
    clear hM1
    go_wp2_with fail
    go_region_law ((try go_simp); go_at_call 69; refine (fold_any _ _ (by omega) (by omega)).mono ?_; rintro e w' ⟨rfl, rfl⟩)
    all_goals
      go_wp2_with fail
      go_ret
      refine ⟨vi, vt, rfl, ?_⟩
      first
        | exact (MAt.put HM1.out h8 D hD ⟨foldN (vaN + N), false⟩).keeps ((Keeps.refl _).drew)
        | exact (MAt.put HM1.out h8 D hD ⟨foldN (vaN + N), false⟩).keeps ((Keeps.refl _).drewN _)
        | exact MAt.put (MAt.keeps HM1.out (by repeat (with_reducible (first | assumption | exact Keeps.refl _ | refine Keeps.alloc ?_ _ | refine Keeps.drew ?_ | refine Keeps.drewN ?_ _)))) h8 D hD ⟨foldN (vaN + N), false⟩
theorem do_mem14 {B g : Nat} {W0 : World} {h : List Value} {s : Mach} {vd vi vt : Value} {en st at2 : Int} (w : World) (hm : MAt B W0 g h s vd vi vt en st at2 w) (ok : MachOk s) (D A R : Nat) (N : Int) (Lg : Bool) (hD : D < 8) (hA : A < 8) (hR : R < 8) (hN : -32768 ≤ N ∧ N ≤ 32767) :
    Calls Tryd.prog 43 #[.pointer (some ⟨g, 0, none⟩), insV 14 D A R N Lg] w fun e w' => ∃ vi' vt', e = .returned (.int .i64 (doS s ⟨14, D, A, R, N, Lg⟩).1) ∧ MAt B W0 g h (doS s ⟨14, D, A, R, N, Lg⟩).2 vd vi' vt' en st at2 w' := by
  have e0 : doS s ⟨14, D, A, R, N, Lg⟩ = memS s ⟨14, D, A, R, N, Lg⟩ := by unfold doS; simp
  rw [e0]
  clear e0
  have HC := Lib.hid (fun w' (hk : Keeps w w') => memory_mc w' (hm.keeps hk) ok 14 D A R N Lg hD hA hR hN (by decide))
  unfold insV at HC
  unfold insV
  have h8 := ok.regs
  have hDi : (D : Int) < 8 := by omega
  have hAi : (A : Int) < 8 := by omega
  have hRi : (R : Int) < 8 := by omega
  obtain ⟨W, hW, hkW⟩ : ∃ W : World, W = w.alloc (.cells #[.int .i64 14, .int .i64 D, .int .i64 A, .int .i64 R, .int .i64 N, .bool Lg] 24) ∧ Keeps w W := ⟨_, rfl, (Keeps.refl w).alloc _⟩
  have hBI : Blk W w.heap.size (.cells #[.int .i64 14, .int .i64 D, .int .i64 A, .int .i64 R, .int .i64 N, .bool Lg] 24) := by rw [hW]; exact Blk.top _ _
  have i0 := hBI.cell (j := 0) rfl
  have i1 := hBI.cell (j := 1) rfl
  have i2 := hBI.cell (j := 2) rfl
  have i3 := hBI.cell (j := 3) rfl
  have i4 := hBI.cell (j := 4) rfl
  have i5 := hBI.cell (j := 5) rfl
  have hM := hm.keeps hkW
  have HW := Lib.hid hW
  have HM := Lib.hid hM
  have HOK := Lib.hid ok
  have HK := Lib.hid hkW
  clear hM hBI hW hm ok
  go_enter Tryd.func43, Tryd.ntmps43
  go_upto_region 1 with fail
  rw [← HW.out]
  go_wp2_with fail
  refine (HC.out _ HK.out).mono ?_
  rintro e w1 ⟨rfl, hm1⟩
  go_wp2_with fail
  go_ret
  exact ⟨vi, vt, rfl, hm1⟩
theorem do_mem15 {B g : Nat} {W0 : World} {h : List Value} {s : Mach} {vd vi vt : Value} {en st at2 : Int} (w : World) (hm : MAt B W0 g h s vd vi vt en st at2 w) (ok : MachOk s) (D A R : Nat) (N : Int) (Lg : Bool) (hD : D < 8) (hA : A < 8) (hR : R < 8) (hN : -32768 ≤ N ∧ N ≤ 32767) :
    Calls Tryd.prog 43 #[.pointer (some ⟨g, 0, none⟩), insV 15 D A R N Lg] w fun e w' => ∃ vi' vt', e = .returned (.int .i64 (doS s ⟨15, D, A, R, N, Lg⟩).1) ∧ MAt B W0 g h (doS s ⟨15, D, A, R, N, Lg⟩).2 vd vi' vt' en st at2 w' := by
  have e0 : doS s ⟨15, D, A, R, N, Lg⟩ = memS s ⟨15, D, A, R, N, Lg⟩ := by unfold doS; simp
  rw [e0]
  clear e0
  have HC := Lib.hid (fun w' (hk : Keeps w w') => memory_mc w' (hm.keeps hk) ok 15 D A R N Lg hD hA hR hN (by decide))
  unfold insV at HC
  unfold insV
  have h8 := ok.regs
  have hDi : (D : Int) < 8 := by omega
  have hAi : (A : Int) < 8 := by omega
  have hRi : (R : Int) < 8 := by omega
  obtain ⟨W, hW, hkW⟩ : ∃ W : World, W = w.alloc (.cells #[.int .i64 15, .int .i64 D, .int .i64 A, .int .i64 R, .int .i64 N, .bool Lg] 24) ∧ Keeps w W := ⟨_, rfl, (Keeps.refl w).alloc _⟩
  have hBI : Blk W w.heap.size (.cells #[.int .i64 15, .int .i64 D, .int .i64 A, .int .i64 R, .int .i64 N, .bool Lg] 24) := by rw [hW]; exact Blk.top _ _
  have i0 := hBI.cell (j := 0) rfl
  have i1 := hBI.cell (j := 1) rfl
  have i2 := hBI.cell (j := 2) rfl
  have i3 := hBI.cell (j := 3) rfl
  have i4 := hBI.cell (j := 4) rfl
  have i5 := hBI.cell (j := 5) rfl
  have hM := hm.keeps hkW
  have HW := Lib.hid hW
  have HM := Lib.hid hM
  have HOK := Lib.hid ok
  have HK := Lib.hid hkW
  clear hM hBI hW hm ok
  go_enter Tryd.func43, Tryd.ntmps43
  go_upto_region 1 with fail
  rw [← HW.out]
  go_wp2_with fail
  refine (HC.out _ HK.out).mono ?_
  rintro e w1 ⟨rfl, hm1⟩
  go_wp2_with fail
  go_ret
  exact ⟨vi, vt, rfl, hm1⟩
theorem do_arith {B g : Nat} {W0 : World} {h : List Value} {s : Mach} {vd vi vt : Value} {en st at2 : Int} (w : World) (hm : MAt B W0 g h s vd vi vt en st at2 w) (ok : MachOk s) (K : Int) (hK : 7 ≤ K ∧ K ≤ 13) (D A R : Nat) (N : Int) (Lg : Bool) (hD : D < 8) (hA : A < 8) (hR : R < 8) (_hN : -32768 ≤ N ∧ N ≤ 32767) :
    Calls Tryd.prog 43 #[.pointer (some ⟨g, 0, none⟩), insV K D A R N Lg] w fun e w' => ∃ vi' vt', e = .returned (.int .i64 (doS s ⟨K, D, A, R, N, Lg⟩).1) ∧ MAt B W0 g h (doS s ⟨K, D, A, R, N, Lg⟩).2 vd vi' vt' en st at2 w' := by
  have e0 : doS s ⟨K, D, A, R, N, Lg⟩ = (if (nth s.regs A).C = true ∨ (nth s.regs R).C = true then (4, s) else (0, s.put D ⟨arithN K (nth s.regs A).N (nth s.regs R).N, false⟩)) := by
    unfold doS Mach.r
    simp only [Int.toNat_natCast]
    rw [if_neg (by omega), if_neg (by omega), if_neg (by omega), if_neg (by omega), if_neg (by omega), if_neg (by omega)]
  generalize doS s ⟨K, D, A, R, N, Lg⟩ = RR0 at e0 ⊢
  unfold insV
  have h8 := ok.regs
  have hDi : (D : Int) < 8 := by omega
  have hAi : (A : Int) < 8 := by omega
  have hRi : (R : Int) < 8 := by omega
  obtain ⟨W, hW, hkW⟩ : ∃ W : World, W = w.alloc (.cells #[.int .i64 K, .int .i64 D, .int .i64 A, .int .i64 R, .int .i64 N, .bool Lg] 24) ∧ Keeps w W := ⟨_, rfl, (Keeps.refl w).alloc _⟩
  have hBI : Blk W w.heap.size (.cells #[.int .i64 K, .int .i64 D, .int .i64 A, .int .i64 R, .int .i64 N, .bool Lg] 24) := by rw [hW]; exact Blk.top _ _
  have i0 := hBI.cell (j := 0) rfl
  have i1 := hBI.cell (j := 1) rfl
  have i2 := hBI.cell (j := 2) rfl
  have i3 := hBI.cell (j := 3) rfl
  have i4 := hBI.cell (j := 4) rfl
  have i5 := hBI.cell (j := 5) rfl
  have hM := hm.keeps hkW
  have HW := Lib.hid hW
  have HM := Lib.hid hM
  have HOK := Lib.hid ok
  have t4 : (K == 4) = false := by simp; omega
  have t5 : (K == 5) = false := by simp; omega
  have t6 : (K == 6) = false := by simp; omega
  have t14 : (K == 14) = false := by simp; omega
  have t15 : (K == 15) = false := by simp; omega
  have t16 : (K == 16) = false := by simp; omega
  have t17 : (K == 17) = false := by simp; omega
  have hva := r_in ok (a := (A : Int)) (by omega) (by omega)
  have hvr := r_in ok (a := (R : Int)) (by omega) (by omega)
  have HNM := Lib.hid (numbers_mc g A R (nth s.regs A) (nth s.regs R) W (MAt.reg hM (by omega)) (MAt.reg hM (by omega)) hA hR)
  unfold Mach.r at hva hvr
  rw [Int.toNat_natCast] at hva hvr
  generalize nth s.regs A = va at *
  generalize nth s.regs R = vr at *
  obtain ⟨vaN, vaC⟩ := va
  obtain ⟨vrN, vrC⟩ := vr
  clear hM hBI hW hm ok
  dsimp only at HNM hva hvr e0
  have HVA := Lib.hid hva
  have HVR := Lib.hid hvr
  clear hva hvr
  by_cases hbad : vaC = true ∨ vrC = true
  · rw [if_pos hbad] at e0
    subst e0
    dsimp only
    have hb2 : (!vaC && !vrC) = false := by rcases hbad with rfl | rfl <;> simp
    rw [hb2] at HNM
    clear hbad hb2
    go_enter Tryd.func43, Tryd.ntmps43
    go_upto_region 1 with fail
    rw [← HW.out]
    go_wp2_with fail
    refine HNM.out.mono ?_
    rintro e w1 ⟨rfl, hk1⟩
    go_wp2_with fail
    go_ret
    exact ⟨vi, vt, rfl, HM.out.keeps hk1⟩
  · rw [if_neg hbad] at e0
    subst e0
    dsimp only
    have hb2 : (!vaC && !vrC) = true := by simpa using hbad
    rw [hb2] at HNM
    clear hbad hb2
    go_enter Tryd.func43, Tryd.ntmps43
    go_upto_region 1 with fail
    rw [← HW.out]
    go_wp2_with fail
    refine HNM.out.mono ?_
    rintro e w1 ⟨rfl, hk1⟩
    have i0 := hk1.cell i0
    have i1 := hk1.cell i1
    have i2 := hk1.cell i2
    have i3 := hk1.cell i3
    have i4 := hk1.cell i4
    have i5 := hk1.cell i5
    have hM1 := HM.out.keeps hk1
    have z0 := (MAt.reg hM1 (r := D) (by show D < s.regs.length; omega)).1
    have z1 := (MAt.reg hM1 (r := D) (by show D < s.regs.length; omega)).2
    have q0 := (MAt.blk hM1).thawed (6 + D * 2)
    have q1 := (MAt.blk hM1).thawed (6 + D * 2 + 1)
    have hgl := (MAt.blk hM1).lt
    have HM1 := Lib.hid hM1
    clear hM1
    go_wp2_with fail
    go_region_law ((try go_simp); go_at_call 71; refine (arith_any _ _ _ _ HVA.out HVR.out).mono ?_; rintro e w' ⟨rfl, rfl⟩)
    all_goals
      go_wp2_with fail
      go_ret
      refine ⟨vi, vt, rfl, ?_⟩
      first
        | exact (MAt.put HM1.out h8 D hD ⟨arithN K vaN vrN, false⟩).keeps ((Keeps.refl _).drew)
        | exact (MAt.put HM1.out h8 D hD ⟨arithN K vaN vrN, false⟩).keeps ((Keeps.refl _).drewN _)
        | exact MAt.put (MAt.keeps HM1.out (by repeat (with_reducible (first | assumption | exact Keeps.refl _ | refine Keeps.alloc ?_ _ | refine Keeps.drew ?_ | refine Keeps.drewN ?_ _)))) h8 D hD ⟨arithN K vaN vrN, false⟩
theorem do_out {B g : Nat} {W0 : World} {h : List Value} {s : Mach} {vd vi vt : Value} {en st at2 : Int} (w : World) (hm : MAt B W0 g h s vd vi vt en st at2 w) (ok : MachOk s) (htl : s.told.length ≤ 100000) (D A R : Nat) (N : Int) (Lg : Bool) (hD : D < 8) (hA : A < 8) (hR : R < 8) (_hN : -32768 ≤ N ∧ N ≤ 32767) :
    Calls Tryd.prog 43 #[.pointer (some ⟨g, 0, none⟩), insV 17 D A R N Lg] w fun e w' => ∃ vi' vt', e = .returned (.int .i64 (doS s ⟨17, D, A, R, N, Lg⟩).1) ∧ MAt B W0 g h (doS s ⟨17, D, A, R, N, Lg⟩).2 vd vi' vt' en st at2 w' := by
  have e0 : doS s ⟨17, D, A, R, N, Lg⟩ = (if (nth s.regs A).C then (4, s) else (0, { s with told := s.told ++ [(nth s.regs A).N] })) := by unfold doS Mach.r; simp
  generalize doS s ⟨17, D, A, R, N, Lg⟩ = RR0 at e0 ⊢
  unfold insV
  have h8 := ok.regs
  have hDi : (D : Int) < 8 := by omega
  have hAi : (A : Int) < 8 := by omega
  have hRi : (R : Int) < 8 := by omega
  obtain ⟨W, hW, hkW⟩ : ∃ W : World, W = w.alloc (.cells #[.int .i64 17, .int .i64 D, .int .i64 A, .int .i64 R, .int .i64 N, .bool Lg] 24) ∧ Keeps w W := ⟨_, rfl, (Keeps.refl w).alloc _⟩
  have hBI : Blk W w.heap.size (.cells #[.int .i64 17, .int .i64 D, .int .i64 A, .int .i64 R, .int .i64 N, .bool Lg] 24) := by rw [hW]; exact Blk.top _ _
  have i0 := hBI.cell (j := 0) rfl
  have i1 := hBI.cell (j := 1) rfl
  have i2 := hBI.cell (j := 2) rfl
  have i3 := hBI.cell (j := 3) rfl
  have i4 := hBI.cell (j := 4) rfl
  have i5 := hBI.cell (j := 5) rfl
  have hM := hm.keeps hkW
  have HW := Lib.hid hW
  have HM := Lib.hid hM
  have HOK := Lib.hid ok
  have hva := r_in ok (a := (A : Int)) (by omega) (by omega)
  have HNM := Lib.hid (number_mc g A (nth s.regs A) W (MAt.reg hM (by omega)) hA)
  unfold Mach.r at hva
  rw [Int.toNat_natCast] at hva
  unfold InM at hva
  generalize nth s.regs A = va at *
  obtain ⟨vaN, vaC⟩ := va
  clear hM hBI hW hm ok
  dsimp only at HNM hva e0
  cases vaC with
  | true =>
    rw [if_pos rfl] at e0
    subst e0
    dsimp only
    go_enter Tryd.func43, Tryd.ntmps43
    go_upto_region 1 with fail
    rw [← HW.out]
    go_wp2_with fail
    refine HNM.out.mono ?_
    rintro e w1 ⟨rfl, hk1⟩
    go_wp2_with fail
    go_ret
    exact ⟨vi, vt, rfl, HM.out.keeps hk1⟩
  | false =>
    rw [if_neg (by simp)] at e0
    subst e0
    dsimp only
    obtain ⟨at1, ct1, et⟩ := own_form' HM.out.tld
    subst et
    go_enter Tryd.func43, Tryd.ntmps43
    go_upto_region 1 with fail
    rw [← HW.out]
    go_wp2_with fail
    refine HNM.out.mono ?_
    rintro e w1 ⟨rfl, hk1⟩
    have hM1 := HM.out.keeps hk1
    have x3 := hM1.tail h8 3 rfl
    have y3 := hM1.blk.thawed 25
    have hgl := hM1.blk.lt
    have hsw := hM1.Bw
    have HM1 := Lib.hid hM1
    clear hM1 i0 i1 i2 i3 i4 i5
    go_wp2_with (at_builtin; refine wpList_pushes (by rfl) (.tmp 127) (.tmp 129) 32 (by rfl) Tryd.underlying32 info_int (by rfl) (by decide) (base := B) (f := ci) (l := s.told) (by rfl) (by exact HM1.out.tld.keep (by repeat (with_reducible (first | assumption | exact Keeps.refl _ | refine Keeps.alloc ?_ _ | refine Keeps.drew ?_ | refine Keeps.drewN ?_ _ | refine Keeps.trans' ?_ (by assumption) (by assumption))))) [vaN] _ _ (by rfl) (by exact Blk.top' _ _ (by first | rfl | simp)) ci_len ci_one (by simp only [List.length_cons, List.length_nil]; omega) (by simp only [List.length_cons, List.length_nil]; unfold maxLen; omega) (by first | omega | (simp only [sz_alloc]; omega) | (simp only [sz_drew]; omega) | (simp only [sz_alloc, sz_drew]; omega) | (simp only [sz_alloc, sz_drewN]; omega)) ?_; intro v7 wp7 hown7 hbel7 hgr7 hfr7; obtain ⟨ap7, cp7, rfl⟩ := own_form' hown7; have hB7 := Blk.grown (Blk.keep HM1.out.blk (by repeat (with_reducible (first | assumption | exact Keeps.refl _ | refine Keeps.alloc ?_ _ | refine Keeps.drew ?_ | refine Keeps.drewN ?_ _ | refine Keeps.trans' ?_ (by assumption) (by assumption))))) hgr7 (fun e => HM1.out.tg e.symm); have hc7 := hB7.cell (mCells_tail HM1.out.hh h8 3); have hf7 := hB7.thawed 25; have hl7 := hB7.lt; have HO7 := Lib.hid hown7; have HG7 := Lib.hid hgr7; have HF7 := Lib.hid hfr7; clear hB7 hown7 hbel7 hgr7 hfr7)
    go_ret
    have hp := MAt.tell HM1.out h8 (by repeat (with_reducible (first | assumption | exact Keeps.refl _ | refine Keeps.alloc ?_ _ | refine Keeps.drew ?_ | refine Keeps.drewN ?_ _))) HO7.out HG7.out HF7.out
    rw [show (s.told ++ [vaN]).length = s.told.length + 1 by simp] at hp
    exact ⟨vi, _, rfl, hp⟩
theorem do_in {B g : Nat} {W0 : World} {h : List Value} {s : Mach} {vd vi vt : Value} {en st at2 : Int} (w : World) (hm : MAt B W0 g h s vd vi vt en st at2 w) (ok : MachOk s) (D A R : Nat) (N : Int) (Lg : Bool) (hD : D < 8) (hA : A < 8) (hR : R < 8) (_hN : -32768 ≤ N ∧ N ≤ 32767) :
    Calls Tryd.prog 43 #[.pointer (some ⟨g, 0, none⟩), insV 16 D A R N Lg] w fun e w' => ∃ vi' vt', e = .returned (.int .i64 (doS s ⟨16, D, A, R, N, Lg⟩).1) ∧ MAt B W0 g h (doS s ⟨16, D, A, R, N, Lg⟩).2 vd vi' vt' en st at2 w' := by
  obtain ⟨aI, cI, eI, hI1, hI2, hI3, hI4⟩ := id hm.inp
  subst eI
  have HI := Lib.hid hm.inp
  cases hin : s.inp with
  | nil =>
    rw [hin] at hI4
    have e0 : doS s ⟨16, D, A, R, N, Lg⟩ = (0, Mach.put { s with inp := [] } D ⟨0, false⟩) := by unfold doS; simp [hin]
    generalize doS s ⟨16, D, A, R, N, Lg⟩ = RR0 at e0 ⊢
    subst e0
    dsimp only
    unfold insV
    have h8 := ok.regs
    have hDi : (D : Int) < 8 := by omega
    have hAi : (A : Int) < 8 := by omega
    have hRi : (R : Int) < 8 := by omega
    obtain ⟨W, hW, hkW⟩ : ∃ W : World, W = w.alloc (.cells #[.int .i64 16, .int .i64 D, .int .i64 A, .int .i64 R, .int .i64 N, .bool Lg] 24) ∧ Keeps w W := ⟨_, rfl, (Keeps.refl w).alloc _⟩
    have hBI : Blk W w.heap.size (.cells #[.int .i64 16, .int .i64 D, .int .i64 A, .int .i64 R, .int .i64 N, .bool Lg] 24) := by rw [hW]; exact Blk.top _ _
    have i0 := hBI.cell (j := 0) rfl
    have i1 := hBI.cell (j := 1) rfl
    have i2 := hBI.cell (j := 2) rfl
    have i3 := hBI.cell (j := 3) rfl
    have i4 := hBI.cell (j := 4) rfl
    have i5 := hBI.cell (j := 5) rfl
    have hM := hm.keeps hkW
    have HW := Lib.hid hW
    have HM := Lib.hid hM
    have HOK := Lib.hid ok
    have hM0 := (MAt.inp' hM (l := []) (by rw [show ([] : List Int) = s.inp from hin.symm]; exact HI.out))
    rw [hin] at hM0
    have x1 := hM0.tail h8 1 rfl
    have z0 := (MAt.reg hM0 (r := D) (by show D < s.regs.length; omega)).1
    have z1 := (MAt.reg hM0 (r := D) (by show D < s.regs.length; omega)).2
    have q0 := (MAt.blk hM0).thawed (6 + D * 2)
    have q1 := (MAt.blk hM0).thawed (6 + D * 2 + 1)
    have hgl := (MAt.blk hM0).lt
    have HM0 := Lib.hid hM0
    have HN := Lib.hid hin
    clear hM hM0 hBI hW hm ok hI4 hI1 hI2 hI3 hin
    go_enter Tryd.func43, Tryd.ntmps43
    go_upto_region 1 with fail
    rw [← HW.out]
    go_wp2_with fail
    go_region_law (fail)
    all_goals
      go_wp2_with fail
      go_ret
      refine ⟨.slice aI ([] : List Int).length cI, vt, rfl, ?_⟩
      first
        | exact (MAt.put HM0.out h8 D hD ⟨0, false⟩).keeps ((Keeps.refl _).drew)
        | exact (MAt.put HM0.out h8 D hD ⟨0, false⟩).keeps ((Keeps.refl _).drewN _)
        | exact MAt.put (MAt.keeps HM0.out (by repeat (with_reducible (first | assumption | exact Keeps.refl _ | refine Keeps.alloc ?_ _ | refine Keeps.drew ?_ | refine Keeps.drewN ?_ _)))) h8 D hD ⟨0, false⟩
  | cons x l =>
    have e0 : doS s ⟨16, D, A, R, N, Lg⟩ = (0, Mach.put { s with inp := l } D ⟨x, false⟩) := by unfold doS; simp [hin]
    generalize doS s ⟨16, D, A, R, N, Lg⟩ = RR0 at e0 ⊢
    subst e0
    dsimp only
    unfold insV
    have h8 := ok.regs
    have hDi : (D : Int) < 8 := by omega
    have hAi : (A : Int) < 8 := by omega
    have hRi : (R : Int) < 8 := by omega
    obtain ⟨W, hW, hkW⟩ : ∃ W : World, W = w.alloc (.cells #[.int .i64 16, .int .i64 D, .int .i64 A, .int .i64 R, .int .i64 N, .bool Lg] 24) ∧ Keeps w W := ⟨_, rfl, (Keeps.refl w).alloc _⟩
    have hBI : Blk W w.heap.size (.cells #[.int .i64 16, .int .i64 D, .int .i64 A, .int .i64 R, .int .i64 N, .bool Lg] 24) := by rw [hW]; exact Blk.top _ _
    have i0 := hBI.cell (j := 0) rfl
    have i1 := hBI.cell (j := 1) rfl
    have i2 := hBI.cell (j := 2) rfl
    have i3 := hBI.cell (j := 3) rfl
    have i4 := hBI.cell (j := 4) rfl
    have i5 := hBI.cell (j := 5) rfl
    have hM := hm.keeps hkW
    have HW := Lib.hid hW
    have HM := Lib.hid hM
    have HOK := Lib.hid ok
    obtain ⟨b, off, rfl, hc⟩ := hI4 (by rw [hin]; simp)
    have c0 : W.cell? ⟨b, off, none⟩ = some (.int .i64 x) := by
      have h0 := hc 0 0 (by rw [hin]; simp) (by omega)
      rw [hin] at h0
      exact (Keeps.trans' (Keeps.refl _) hM.keep hM.B0).cell (by simpa [nth] using h0)
    have x1 := hM.tail h8 1 rfl
    have u1 := hM.blk.thawed 23
    have hgl := hM.blk.lt
    have hlen : s.inp.length = l.length + 1 := by rw [hin]; rfl
    rw [hlen] at x1 hI1
    have hcI : 1 ≤ cI := by omega
    have HLEN := Lib.hid hlen
    have HN := Lib.hid hin
    have HBI := Lib.hid hBI
    have hne : w.heap.size ≠ g := fun e => by have := hm.blk.lt; omega
    clear hBI hW hm ok hI4 hI2 hI3 hM hc hin hlen
    by_cases h1 : cI = 1
    · have hl0 : l = [] := by cases l with
        | nil => rfl
        | cons y r => simp at hI1; omega
      subst hl0
      subst h1
      go_enter Tryd.func43, Tryd.ntmps43
      go_upto_region 1 with fail
      rw [← HW.out]
      go_upto_region 22 with fail
      obtain ⟨w3, hw3⟩ : ∃ w3, w3 = W.setCell ⟨g, 23, none⟩ (.slice (some ⟨b, off, none⟩) 0 0) := ⟨_, rfl⟩
      rw [← hw3]
      have hM3 : MAt B W0 g h { s with inp := [] } vd (.slice (some ⟨b, off, none⟩) 0 0) vt en st at2 w3 := by rw [hw3]; exact HM.out.read h8 (ints_zero _ _)
      have i1 : w3.cell? ⟨w.heap.size, 1, none⟩ = some (.int .i64 D) := by rw [hw3]; exact (HBI.out.grown (grown_setCell _ _ _ _) (fun e => by injection e with e; exact hne e)).cell (j := 1) rfl
      have z0 := (MAt.reg hM3 (r := D) (by show D < s.regs.length; omega)).1
      have z1 := (MAt.reg hM3 (r := D) (by show D < s.regs.length; omega)).2
      have q0 := (MAt.blk hM3).thawed (6 + D * 2)
      have q1 := (MAt.blk hM3).thawed (6 + D * 2 + 1)
      have hgl := (MAt.blk hM3).lt
      have HM3 := Lib.hid hM3
      clear hM3 hw3 c0 x1 u1 i0 i2 i3 i4 i5
      go_wp2_with fail
      go_region_law (fail)
      all_goals
        go_wp2_with fail
        go_ret
        refine ⟨.slice (some ⟨b, off, none⟩) 0 0, vt, rfl, ?_⟩
        first
          | exact (MAt.put HM3.out h8 D hD ⟨x, false⟩).keeps ((Keeps.refl _).drew)
          | exact (MAt.put HM3.out h8 D hD ⟨x, false⟩).keeps ((Keeps.refl _).drewN _)
          | exact MAt.put (MAt.keeps HM3.out (by repeat (with_reducible (first | assumption | exact Keeps.refl _ | refine Keeps.alloc ?_ _ | refine Keeps.drew ?_ | refine Keeps.drewN ?_ _)))) h8 D hD ⟨x, false⟩
    · have h2 : ¬ (cI - 1 = 0) := by omega
      have hD1 : Ints W0 (.slice (some ⟨b, off + 1, none⟩) l.length (cI - 1)) l := by
        have := HI.out
        rw [HLEN.out, HN.out] at this
        exact ints_cons this
      have HD1 := Lib.hid hD1
      clear hD1
      go_enter Tryd.func43, Tryd.ntmps43
      go_upto_region 1 with fail
      rw [← HW.out]
      go_upto_region 22 with fail
      obtain ⟨w3, hw3⟩ : ∃ w3, w3 = W.setCell ⟨g, 23, none⟩ (.slice (some ⟨b, off + 1, none⟩) l.length (cI - 1)) := ⟨_, rfl⟩
      rw [← hw3]
      have hM3 : MAt B W0 g h { s with inp := l } vd (.slice (some ⟨b, off + 1, none⟩) l.length (cI - 1)) vt en st at2 w3 := by rw [hw3]; exact HM.out.read h8 HD1.out
      have i1 : w3.cell? ⟨w.heap.size, 1, none⟩ = some (.int .i64 D) := by rw [hw3]; exact (HBI.out.grown (grown_setCell _ _ _ _) (fun e => by injection e with e; exact hne e)).cell (j := 1) rfl
      have z0 := (MAt.reg hM3 (r := D) (by show D < s.regs.length; omega)).1
      have z1 := (MAt.reg hM3 (r := D) (by show D < s.regs.length; omega)).2
      have q0 := (MAt.blk hM3).thawed (6 + D * 2)
      have q1 := (MAt.blk hM3).thawed (6 + D * 2 + 1)
      have hgl := (MAt.blk hM3).lt
      have HM3 := Lib.hid hM3
      clear hM3 hw3 c0 x1 u1 i0 i2 i3 i4 i5
      go_wp2_with fail
      go_region_law (fail)
      all_goals
        go_wp2_with fail
        go_ret
        refine ⟨.slice (some ⟨b, off + 1, none⟩) l.length (cI - 1), vt, rfl, ?_⟩
        first
          | exact (MAt.put HM3.out h8 D hD ⟨x, false⟩).keeps ((Keeps.refl _).drew)
          | exact (MAt.put HM3.out h8 D hD ⟨x, false⟩).keeps ((Keeps.refl _).drewN _)
          | exact MAt.put (MAt.keeps HM3.out (by repeat (with_reducible (first | assumption | exact Keeps.refl _ | refine Keeps.alloc ?_ _ | refine Keeps.drew ?_ | refine Keeps.drewN ?_ _)))) h8 D hD ⟨x, false⟩
end Go.Proofs.YtpgifkhgefbnfaaDoor
