/-
  step.machine's memory: what it does to the machine.
-/
import Derived.Test.YtpgifkhgefbnfaaDoorIsaAt6
import Derived.Deep.RegionLaw
import Derived.Deep.DeepCutAuto
namespace Go.Proofs.YtpgifkhgefbnfaaDoor
open Go.RowKit BH
set_option maxHeartbeats 4000000
set_option maxRecDepth 100000
/-- the machine lies in block g, of the call's own from B on; all below B is as it was in W0 -/
structure MAt (B : Nat) (W0 : World) (g : Nat) (h : List Value) (s : Mach) (vd vi vt : Value) (en st at2 : Int) (w : World) : Prop where
  keep : Below B W0 w
  Bg : B ≤ g
  Bw : B ≤ w.heap.size
  hh : h.length = 6
  blk : Blk w g (.cells (mCells h s vd vi vt en st at2) 104)
  dat : Own w B 100 2 cvl vd s.data
  tld : Own w B 3 1 ci vt s.told
  inp : Ints W0 vi s.inp
  B0 : W0.heap.size ≤ B
  dg : vd.ownBlock ≠ some g
  tg : vt.ownBlock ≠ some g
  dt : ∀ b, vd.ownBlock = some b → vt.ownBlock ≠ some b
section
variable {B g : Nat} {W0 : World} {h : List Value} {s : Mach} {vd vi vt : Value} {en st at2 : Int} {w : World}
theorem MAt.keeps (m : MAt B W0 g h s vd vi vt en st at2 w) {w' : World} (hk : Keeps w w') : MAt B W0 g h s vd vi vt en st at2 w' :=
  ⟨Below.trans m.keep (Below.mono hk m.Bw), m.Bg, Nat.le_trans m.Bw hk.size, m.hh, m.blk.keep hk, m.dat.keep hk, m.tld.keep hk, m.inp, m.B0, m.dg, m.tg, m.dt⟩
theorem MAt.reg (m : MAt B W0 g h s vd vi vt en st at2 w) {r : Nat} (hr : r < s.regs.length) : RegAt w g r (nth s.regs r) :=
  ⟨m.blk.cell (mCells_reg m.hh hr).1, m.blk.cell (mCells_reg m.hh hr).2⟩
theorem MAt.tail (m : MAt B W0 g h s vd vi vt en st at2 w) (h8 : s.regs.length = 8) (j : Nat) {u : Value} (hj : [vd, vi, .int .i64 s.pc, vt, .int .i64 en, .int .i64 st, .int .i64 at2][j]? = some u) : w.cell? ⟨g, 22 + j, none⟩ = some u :=
  m.blk.cell ((mCells_tail m.hh h8 j).trans hj)
theorem MAt.head (m : MAt B W0 g h s vd vi vt en st at2 w) {j : Nat} (hj : j < 6) {u : Value} (hu : h[j]? = some u) : w.cell? ⟨g, j, none⟩ = some u :=
  m.blk.cell ((mCells_head m.hh hj).trans hu)
/-- a register is stored -/
theorem MAt.put (m : MAt B W0 g h s vd vi vt en st at2 w) (h8 : s.regs.length = 8) (d : Nat) (hd : d < 8) (v : Vl) :
    MAt B W0 g h (s.put d v) vd vi vt en st at2 ((w.setCell ⟨g, 6 + d * 2, none⟩ (.int .i64 v.N)).setCell ⟨g, 6 + d * 2 + 1, none⟩ (.bool v.C)) := by
  have hg := grown_trans (grown_setCell w g (6 + d * 2) (.int .i64 v.N)) (grown_setCell (w.setCell ⟨g, 6 + d * 2, none⟩ (.int .i64 v.N)) g (6 + d * 2 + 1) (.bool v.C))
  refine ⟨Below.setCell (Below.setCell m.keep m.Bg _) m.Bg _, m.Bg, by rw [sz_setCell, sz_setCell]; exact m.Bw, m.hh, ?_, m.dat.other hg fun b hb e => m.dg (by rw [hb, e]), m.tld.other hg fun b hb e => m.tg (by rw [hb, e]), m.inp, m.B0, m.dg, m.tg, m.dt⟩
  have hb := Blk.set (Blk.set m.blk (6 + d * 2) (.int .i64 v.N)) (6 + d * 2 + 1) (.bool v.C)
  rw [mCells_put m.hh h8 d hd v] at hb
  exact hb
/-- a datum is stored -/
theorem MAt.datum (m : MAt B W0 g h s vd vi vt en st at2 w) {b c : Nat} (hv : vd = .slice (some ⟨b, 0, none⟩) s.data.length c) {k : Nat} {y : Vl} (ho : Own ((w.setCell ⟨b, k * 2, none⟩ (.int .i64 y.N)).setCell ⟨b, k * 2 + 1, none⟩ (.bool y.C)) B 100 2 cvl vd (s.data.set k y)) (hB : B ≤ b) :
    MAt B W0 g h { s with data := s.data.set k y } vd vi vt en st at2 ((w.setCell ⟨b, k * 2, none⟩ (.int .i64 y.N)).setCell ⟨b, k * 2 + 1, none⟩ (.bool y.C)) := by
  have hg := grown_trans (grown_setCell w b (k * 2) (.int .i64 y.N)) (grown_setCell (w.setCell ⟨b, k * 2, none⟩ (.int .i64 y.N)) b (k * 2 + 1) (.bool y.C))
  have hob : vd.ownBlock = some b := by rw [hv]; rfl
  exact ⟨Below.setCell (Below.setCell m.keep hB _) hB _, m.Bg, by rw [sz_setCell, sz_setCell]; exact m.Bw, m.hh, m.blk.grown hg (fun e => m.dg (by rw [hob, e])), ho, m.tld.other hg fun q hq e => m.dt b hob (by rw [hq, e]), m.inp, m.B0, m.dg, m.tg, m.dt⟩
theorem MAt.store (m : MAt B W0 g h s vd vi vt en st at2 w) {q c : Nat} (hv : vd = .slice (some ⟨q, 0, none⟩) s.data.length c) {k : Nat} (hk : k < s.data.length) (y : Vl) :
    MAt B W0 g h { s with data := s.data.set k y } vd vi vt en st at2 ((w.setCell ⟨q, k * 2, none⟩ (.int .i64 y.N)).setCell ⟨q, k * 2 + 1, none⟩ (.bool y.C)) := by
  obtain ⟨b, c', ev, hB, _, _, _, hst⟩ := Own.store m.dat hk y
  have : b = q := by rw [hv] at ev; injection ev with e1 e2 e3; injection e1 with e1; injection e1 with e1; exact e1.symm
  subst this
  exact m.datum hv hst hB
/-- a number is told -/
theorem MAt.tell (m : MAt B W0 g h s vd vi vt en st at2 w) (h8 : s.regs.length = 8) {wa w7 : World} {v7 : Value} {l7 : List Int} (ka : Keeps w wa) (o7 : Own w7 B 3 1 ci v7 l7) (g7 : wa.grownBy w7 vt.ownBlock) (f7 : ∀ b, v7.ownBlock = some b → vt.ownBlock = some b ∨ wa.heap.size ≤ b) :
    MAt B W0 g h { s with told := l7 } vd vi v7 en st at2 (w7.setCell ⟨g, 25, none⟩ v7) := by
  have s1 := ka.size
  have s2 := g7.size
  have hset := grown_setCell w7 g 25 v7
  have hgl := m.blk.lt
  have tg7 : v7.ownBlock ≠ some g := fun e => by
    rcases f7 g e with e | e
    · exact m.tg e
    · omega
  refine ⟨?_, m.Bg, by rw [sz_setCell]; have := m.Bw; omega, m.hh, ?_, ?_, o7.other hset fun b hb e => tg7 (by rw [hb, e]), m.inp, m.B0, m.dg, tg7, fun b hb e => ?_⟩
  · have h1 : Below B W0 wa := Below.trans m.keep (Below.mono ka m.Bw)
    have h2 : Below B W0 w7 := Below.trans h1 (below_grown g7 (by have := m.Bw; omega) m.tld.row)
    exact Below.setCell h2 m.Bg _
  · have hb := Blk.set ((m.blk.keep ka).grown g7 fun e => m.tg e.symm) 25 v7
    rw [mCells_told m.hh h8 v7 l7] at hb
    exact hb
  · exact ((m.dat.keep ka).other g7 fun b hb e => m.dt b hb e.symm).other hset fun b hb e => m.dg (by rw [hb, e])
  · rcases f7 b e with e | e
    · exact m.dt b hb e
    · have := own_lt' m.dat hb
      omega
/-- an input is read -/
theorem MAt.read (m : MAt B W0 g h s vd vi vt en st at2 w) (h8 : s.regs.length = 8) {v : Value} {l : List Int} (hv : Ints W0 v l) : MAt B W0 g h { s with inp := l } vd v vt en st at2 (w.setCell ⟨g, 23, none⟩ v) := by
  have hg := grown_setCell w g 23 v
  refine ⟨Below.setCell m.keep m.Bg _, m.Bg, by rw [sz_setCell]; exact m.Bw, m.hh, ?_, m.dat.other hg fun b hb e => m.dg (by rw [hb, e]), m.tld.other hg fun b hb e => m.tg (by rw [hb, e]), hv, m.B0, m.dg, m.tg, m.dt⟩
  have hb := Blk.set m.blk 23 v
  rw [mCells_in m.hh h8 v l] at hb
  exact hb
theorem MAt.inp' (m : MAt B W0 g h s vd vi vt en st at2 w) {l : List Int} (hv : Ints W0 vi l) : MAt B W0 g h { s with inp := l } vd vi vt en st at2 w :=
  ⟨m.keep, m.Bg, m.Bw, m.hh, m.blk, m.dat, m.tld, hv, m.B0, m.dg, m.tg, m.dt⟩
/-- the place, how it ends, steps, where -/
theorem MAt.setPc (m : MAt B W0 g h s vd vi vt en st at2 w) (h8 : s.regs.length = 8) (p : Int) : MAt B W0 g h { s with pc := p } vd vi vt en st at2 (w.setCell ⟨g, 24, none⟩ (.int .i64 p)) := by
  have hg := grown_setCell w g 24 (.int .i64 p)
  refine ⟨Below.setCell m.keep m.Bg _, m.Bg, by rw [sz_setCell]; exact m.Bw, m.hh, ?_, m.dat.other hg fun b hb e => m.dg (by rw [hb, e]), m.tld.other hg fun b hb e => m.tg (by rw [hb, e]), m.inp, m.B0, m.dg, m.tg, m.dt⟩
  have hb := Blk.set m.blk 24 (.int .i64 p)
  rw [mCells_pc m.hh h8 p] at hb
  exact hb
theorem MAt.setEnd (m : MAt B W0 g h s vd vi vt en st at2 w) (h8 : s.regs.length = 8) (p : Int) : MAt B W0 g h s vd vi vt p st at2 (w.setCell ⟨g, 26, none⟩ (.int .i64 p)) := by
  have hg := grown_setCell w g 26 (.int .i64 p)
  refine ⟨Below.setCell m.keep m.Bg _, m.Bg, by rw [sz_setCell]; exact m.Bw, m.hh, ?_, m.dat.other hg fun b hb e => m.dg (by rw [hb, e]), m.tld.other hg fun b hb e => m.tg (by rw [hb, e]), m.inp, m.B0, m.dg, m.tg, m.dt⟩
  have hb := Blk.set m.blk 26 (.int .i64 p)
  rw [mCells_end m.hh h8 p] at hb
  exact hb
theorem MAt.setSteps (m : MAt B W0 g h s vd vi vt en st at2 w) (h8 : s.regs.length = 8) (p : Int) : MAt B W0 g h s vd vi vt en p at2 (w.setCell ⟨g, 27, none⟩ (.int .i64 p)) := by
  have hg := grown_setCell w g 27 (.int .i64 p)
  refine ⟨Below.setCell m.keep m.Bg _, m.Bg, by rw [sz_setCell]; exact m.Bw, m.hh, ?_, m.dat.other hg fun b hb e => m.dg (by rw [hb, e]), m.tld.other hg fun b hb e => m.tg (by rw [hb, e]), m.inp, m.B0, m.dg, m.tg, m.dt⟩
  have hb := Blk.set m.blk 27 (.int .i64 p)
  rw [mCells_steps m.hh h8 p] at hb
  exact hb
theorem MAt.setAt (m : MAt B W0 g h s vd vi vt en st at2 w) (h8 : s.regs.length = 8) (p : Int) : MAt B W0 g h s vd vi vt en st p (w.setCell ⟨g, 28, none⟩ (.int .i64 p)) := by
  have hg := grown_setCell w g 28 (.int .i64 p)
  refine ⟨Below.setCell m.keep m.Bg _, m.Bg, by rw [sz_setCell]; exact m.Bw, m.hh, ?_, m.dat.other hg fun b hb e => m.dg (by rw [hb, e]), m.tld.other hg fun b hb e => m.tg (by rw [hb, e]), m.inp, m.B0, m.dg, m.tg, m.dt⟩
  have hb := Blk.set m.blk 28 (.int .i64 p)
  rw [mCells_at m.hh h8 p] at hb
  exact hb
end
theorem ints_cons {W : World} {b off L c : Nat} {x : Int} {l : List Int} (h : Ints W (.slice (some ⟨b, off, none⟩) L c) (x :: l)) : Ints W (.slice (some ⟨b, off + 1, none⟩) l.length (c - 1)) l := by
  obtain ⟨a', c', ev, q1, q2, q3, q4⟩ := h
  cases ev
  refine ⟨_, c - 1, rfl, by simp at q1; omega, by omega, (fun e => by cases e), fun hn => ?_⟩
  obtain ⟨b', off', hp, hc⟩ := q4 (by simp)
  cases hp
  refine ⟨b, off + 1, rfl, fun i j hi hj => ?_⟩
  have h2 := hc (i + 1) j (by simp; omega) hj
  rw [show off + 1 + i * 1 + j = off + (i + 1) * 1 + j by omega]
  exact h2
theorem ints_zero (W : World) (p : Option Addr) : Ints W (.slice p 0 0) [] := ⟨p, 0, rfl, Nat.le_refl _, by unfold maxLen; omega, fun _ => rfl, fun h => absurd h (Nat.lt_irrefl _)⟩
theorem memory_mc {B g : Nat} {W0 : World} {h : List Value} {s : Mach} {vd vi vt : Value} {en st at2 : Int} (w : World) (hm : MAt B W0 g h s vd vi vt en st at2 w) (ok : MachOk s) (K : Int) (D A R : Nat) (N : Int) (Lg : Bool) (hD : D < 8) (hA : A < 8) (hR : R < 8) (hN : -32768 ≤ N ∧ N ≤ 32767) (hK : K = 14 ∨ K = 15) :
    Calls Tryd.prog 70 #[.pointer (some ⟨g, 0, none⟩), insV K D A R N Lg] w fun e w' => e = .returned (.int .i64 (memS s ⟨K, D, A, R, N, Lg⟩).1) ∧ MAt B W0 g h (memS s ⟨K, D, A, R, N, Lg⟩).2 vd vi vt en st at2 w' := by
  unfold insV
  have h8 := ok.regs
  have hDi : (D : Int) < 8 := by omega
  have hAi : (A : Int) < 8 := by omega
  have hRi : (R : Int) < 8 := by omega
  have rA := hm.reg (r := A) (by omega)
  have rR := hm.reg (r := R) (by omega)
  have hva := r_in ok (a := (A : Int)) (by omega) (by omega)
  have e0 : memS s ⟨K, D, A, R, N, Lg⟩ = (if (nth s.regs A).C then (4, s) else if (nth s.regs A).N + N < 0 ∨ (s.data.length : Int) ≤ (nth s.regs A).N + N then (2, s) else if K = 14 then (0, s.put D (nth s.data ((nth s.regs A).N + N).toNat)) else (0, { s with data := s.data.set ((nth s.regs A).N + N).toNat (nth s.regs R) })) := by
    unfold memS Mach.r
    simp only [Int.toNat_natCast]
  unfold Mach.r at hva
  rw [Int.toNat_natCast] at hva
  generalize memS s ⟨K, D, A, R, N, Lg⟩ = RR0 at e0 ⊢
  obtain ⟨re, rs⟩ := RR0
  dsimp only
  obtain ⟨va, hva1⟩ : ∃ v, v = nth s.regs A := ⟨_, rfl⟩
  obtain ⟨vr, hvr1⟩ : ∃ v, v = nth s.regs R := ⟨_, rfl⟩
  rw [← hva1] at rA hva e0
  rw [← hvr1] at rR e0
  obtain ⟨ad, cd, ed⟩ := own_form' hm.dat
  subst ed
  have dd := hm.tail h8 0 rfl
  clear hva1 hvr1
  obtain ⟨vaN, vaC⟩ := va
  obtain ⟨vrN, vrC⟩ := vr
  have HE := Lib.hid e0
  clear e0
  obtain ⟨W, hW, hkW⟩ : ∃ W : World, W = w.alloc (.cells #[.int .i64 K, .int .i64 D, .int .i64 A, .int .i64 R, .int .i64 N, .bool Lg] 24) ∧ Keeps w W := ⟨_, rfl, (Keeps.refl w).alloc _⟩
  have hBI : Blk W w.heap.size (.cells #[.int .i64 K, .int .i64 D, .int .i64 A, .int .i64 R, .int .i64 N, .bool Lg] 24) := by rw [hW]; exact Blk.top _ _
  have i0 := hBI.cell (j := 0) rfl
  have i1 := hBI.cell (j := 1) rfl
  have i2 := hBI.cell (j := 2) rfl
  have i3 := hBI.cell (j := 3) rfl
  have i4 := hBI.cell (j := 4) rfl
  have HM := Lib.hid (hm.keeps hkW)
  have HW := Lib.hid hW
  have RA := Lib.hid (rA.keep hkW)
  have RR := Lib.hid (rR.keep hkW)
  have DD := Lib.hid (hkW.cell dd)
  obtain ⟨a0, a1⟩ := rA.keep hkW
  clear hBI hW rA rR dd hm
  go_enter Tryd.func70, Tryd.ntmps70
  go_upto_region 1 with fail
  rw [← HW.out]
  go_wp2_with fail
  go_quiet (fail)
  have hvL := Lib.hid ok.datN
  cases vaC with
  | true =>
    have e := HE.out
    rw [if_pos rfl] at e
    injection e with e1 e2
    subst e1 e2
    go_wp2_with fail
    go_ret
    exact ⟨rfl, HM.out.keeps ((Keeps.refl W).drewN nq)⟩
  | false =>
    obtain ⟨W1, hW1⟩ : ∃ W1 : World, W1 = W.drewN nq := ⟨_, rfl⟩
    have hk1 : Keeps W W1 := by rw [hW1]; exact (Keeps.refl W).drewN nq
    have i0 := hk1.cell i0
    have i1 := hk1.cell i1
    have i2 := hk1.cell i2
    have i3 := hk1.cell i3
    have i4 := hk1.cell i4
    have HM1 := Lib.hid (HM.out.keeps hk1)
    have HR1 := Lib.hid (RR.out.keep hk1)
    have HA1 := Lib.hid (address_mc g A N ⟨vaN, false⟩ W1 (RA.out.keep hk1) (hk1.cell DD.out) hA hva hN)
    have HW1 := Lib.hid hW1
    clear a0 a1 hW1 hk1
    go_upto_region 3 with fail
    rw [← HW1.out]
    unfold InM at hva
    by_cases hin : 0 ≤ vaN + N ∧ vaN + N < (s.data.length : Int)
    · obtain ⟨k, hk⟩ : ∃ k : Nat, vaN + N = k := ⟨(vaN + N).toNat, by omega⟩
      have hkl : k < s.data.length := by omega
      have hkl2 : (k : Int) < (s.data.length : Int) := by omega
      have ha := HA1.out
      rw [show decide (0 ≤ vaN + N ∧ vaN + N < (s.data.length : Int)) = true by simpa using hin] at ha
      rw [hk] at ha
      have e := HE.out
      rw [if_neg (by simp)] at e
      (try dsimp only at e)
      rw [if_neg (by omega), hk, Int.toNat_natCast] at e
      have HE2 := Lib.hid e
      have HA := Lib.hid ha
      clear ha HA1 hin hk hva e
      go_wp2_with fail
      refine HA.out.mono ?_
      rintro e w2 ⟨rfl, hk2⟩
      have i0 := hk2.cell i0
      have i1 := hk2.cell i1
      have i3 := hk2.cell i3
      have hM2 := HM1.out.keeps hk2
      obtain ⟨b0, b1⟩ := HR1.out.keep hk2
      obtain ⟨q, cq, ev, hBq, hql, hcq, ⟨cur, hcur, hc0, hc1⟩, hst⟩ := Own.store hM2.dat hkl ⟨vrN, vrC⟩
      cases ev
      have d0 := hcur.cell hc0
      have d1 := hcur.cell hc1
      have z0 := (MAt.reg hM2 (r := D) (by omega)).1
      have z1 := (MAt.reg hM2 (r := D) (by omega)).2
      have gd := hM2.tail h8 0 rfl
      have u0 := hcur.thawed (k * 2)
      have u1 := hcur.thawed (k * 2 + 1)
      have q0 := hM2.blk.thawed (6 + D * 2)
      have q1 := hM2.blk.thawed (6 + D * 2 + 1)
      have hgl := hM2.blk.lt
      have HM2 := Lib.hid hM2
      have HST := Lib.hid hst
      obtain ⟨y, hy⟩ : ∃ y, y = nth s.data k := ⟨_, rfl⟩
      have he2 := HE2.out
      rw [← hy] at d0 d1 he2
      obtain ⟨yN, yC⟩ := y
      clear hM2 hst hy hc0 hc1
      rcases hK with rfl | rfl
      · rw [if_pos rfl] at he2
        injection he2 with e1 e2
        subst e1 e2
        go_wp2_with fail
        clear hcur i2 i4
        go_region_law (fail)
        all_goals
          go_wp2_with fail
          go_ret
          refine ⟨rfl, ?_⟩
          first
            | exact (HM2.out.put h8 D hD ⟨yN, yC⟩).keeps ((Keeps.refl _).drew)
            | exact (HM2.out.keeps (by repeat (with_reducible (first | assumption | exact Keeps.refl _ | refine Keeps.alloc ?_ _ | refine Keeps.drew ?_ | refine Keeps.drewN ?_ _)))).put h8 D hD ⟨yN, yC⟩
      · rw [if_neg (by decide)] at he2
        injection he2 with e1 e2
        subst e1 e2
        go_wp2_with fail
        go_region_law (fail)
        all_goals
          go_wp2_with fail
          go_ret
          refine ⟨rfl, ?_⟩
          first
            | exact (HM2.out.store rfl hkl ⟨vrN, vrC⟩).keeps ((Keeps.refl _).drew)
            | exact (HM2.out.keeps (by repeat (with_reducible (first | assumption | exact Keeps.refl _ | refine Keeps.alloc ?_ _ | refine Keeps.drew ?_ | refine Keeps.drewN ?_ _)))).store rfl hkl ⟨vrN, vrC⟩
    · have e := HE.out
      rw [if_neg (by simp)] at e
      (try dsimp only at e)
      rw [if_pos (by omega)] at e
      have ha := HA1.out
      rw [show decide (0 ≤ vaN + N ∧ vaN + N < (s.data.length : Int)) = false by simpa using hin] at ha
      injection e with e1 e2
      subst e1 e2
      have HA := Lib.hid ha
      clear ha HA1 hin hva
      go_wp2_with fail
      refine HA.out.mono ?_
      rintro e w2 ⟨rfl, hk2⟩
      go_wp2_with fail
      go_ret
      exact ⟨rfl, HM1.out.keeps hk2⟩
end Go.Proofs.YtpgifkhgefbnfaaDoor
