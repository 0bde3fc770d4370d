/-
  The document's machine in memory: registers, data, what is told.
  What one instruction does, kind by kind, in plain Lean.
-/
import Derived.Test.YtpgifkhgefbnfaaDoorSameRun
import Derived.Test.YtpgifkhgefbnfaaDoorImgFault
import Derived.Test.YtpgifkhgefbnfaaDoorIsaAt6
import Derived.Test.YtpgifkhgefbnfaaDoorLift
section
namespace Go.Proofs.YtpgifkhgefbnfaaDoor
open Go.RowKit BH
set_option maxHeartbeats 1000000
set_option maxRecDepth 100000
def rCells (s : Mach) : Array Value := (s.regs.flatMap cvl).toArray
theorem rCells_at {s : Mach} {r : Nat} (hr : r < s.regs.length) : (rCells s)[r * 2]? = some (.int .i64 (nth s.regs r).N) ∧ (rCells s)[r * 2 + 1]? = some (.bool (nth s.regs r).C) := by
  have key : ∀ j, j < 2 → (rCells s)[r * 2 + j]? = (cvl (nth s.regs r))[j]? := by
    intro j hj
    unfold rCells
    rw [List.getElem?_toArray]
    exact flatMap_at cvl_len _ _ _ hr hj
  exact ⟨key 0 (by decide), key 1 (by decide)⟩
theorem rCells_put {s : Mach} (h8 : s.regs.length = 8) (d : Nat) (hd : d < 8) (v : Vl) : ((rCells s).setIfInBounds (d * 2) (.int .i64 v.N)).setIfInBounds (d * 2 + 1) (.bool v.C) = rCells (s.put d v) := by
  obtain ⟨regs, data, inp, pc, told⟩ := s
  obtain ⟨r0, r1, r2, r3, r4, r5, r6, r7, rfl⟩ := list8 h8
  rcases (show d = 0 ∨ d = 1 ∨ d = 2 ∨ d = 3 ∨ d = 4 ∨ d = 5 ∨ d = 6 ∨ d = 7 by omega) with rfl | rfl | rfl | rfl | rfl | rfl | rfl | rfl <;> rfl
/-- registers in block rb, what is answered in block ob, data and what is told in slices, all of the call's own from B on; all below B is as it was in W0 -/
structure RAt (B : Nat) (W0 : World) (rb ob : Nat) (s : Mach) (vd vt : Value) (en st at2 : Int) (w : World) : Prop where
  keep : Below B W0 w
  Bw : B ≤ w.heap.size
  Br : B ≤ rb
  Bo : B ≤ ob
  reg : Blk w rb (.cells (rCells s) 100)
  out : Blk w ob (.cells #[vt, .int .i64 en, .int .i64 st, .int .i64 at2] 46)
  dat : Own w B 100 2 cvl vd s.data
  tld : Own w B 3 1 ci vt s.told
  ro : rb ≠ ob
  dr : vd.ownBlock ≠ some rb
  dO : vd.ownBlock ≠ some ob
  tr : vt.ownBlock ≠ some rb
  tO : vt.ownBlock ≠ some ob
  dt : ∀ b, vd.ownBlock = some b → vt.ownBlock ≠ some b
section
variable {B rb ob : Nat} {W0 : World} {s : Mach} {vd vt : Value} {en st at2 : Int} {w : World}
theorem RAt.keeps (m : RAt B W0 rb ob s vd vt en st at2 w) {w' : World} (hk : Keeps w w') : RAt B W0 rb ob s vd vt en st at2 w' :=
  ⟨Below.trans m.keep (Below.mono hk m.Bw), Nat.le_trans m.Bw hk.size, m.Br, m.Bo, m.reg.keep hk, m.out.keep hk, m.dat.keep hk, m.tld.keep hk, m.ro, m.dr, m.dO, m.tr, m.tO, m.dt⟩
theorem RAt.regc (m : RAt B W0 rb ob s vd vt en st at2 w) {r : Nat} (hr : r < s.regs.length) : w.cell? ⟨rb, r * 2, none⟩ = some (.int .i64 (nth s.regs r).N) ∧ w.cell? ⟨rb, r * 2 + 1, none⟩ = some (.bool (nth s.regs r).C) :=
  ⟨m.reg.cell (rCells_at hr).1, m.reg.cell (rCells_at hr).2⟩
theorem RAt.put (m : RAt B W0 rb ob s vd vt en st at2 w) (h8 : s.regs.length = 8) (d : Nat) (hd : d < 8) (v : Vl) :
    RAt B W0 rb ob (s.put d v) vd vt en st at2 ((w.setCell ⟨rb, d * 2, none⟩ (.int .i64 v.N)).setCell ⟨rb, d * 2 + 1, none⟩ (.bool v.C)) := by
  have hg := grown_trans (grown_setCell w rb (d * 2) (.int .i64 v.N)) (grown_setCell (w.setCell ⟨rb, d * 2, none⟩ (.int .i64 v.N)) rb (d * 2 + 1) (.bool v.C))
  refine ⟨Below.setCell (Below.setCell m.keep m.Br _) m.Br _, by rw [sz_setCell, sz_setCell]; exact m.Bw, m.Br, m.Bo, ?_, m.out.grown hg (fun e => m.ro (by injection e with e; exact e.symm)), m.dat.other hg fun b hb e => m.dr (by rw [hb, e]), m.tld.other hg fun b hb e => m.tr (by rw [hb, e]), m.ro, m.dr, m.dO, m.tr, m.tO, m.dt⟩
  have hb := Blk.set (Blk.set m.reg (d * 2) (.int .i64 v.N)) (d * 2 + 1) (.bool v.C)
  rw [rCells_put h8 d hd v] at hb
  exact hb
theorem RAt.store (m : RAt B W0 rb ob s vd vt en st at2 w) {q c : Nat} (hv : vd = .slice (some ⟨q, 0, none⟩) s.data.length c) {k : Nat} (hk : k < s.data.length) (y : Vl) :
    RAt B W0 rb ob { s with data := s.data.set k y } vd vt en st at2 ((w.setCell ⟨q, k * 2, none⟩ (.int .i64 y.N)).setCell ⟨q, k * 2 + 1, none⟩ (.bool y.C)) := by
  obtain ⟨b, c', ev, hB, _, _, _, hst⟩ := Own.store m.dat hk y
  have : b = q := by rw [hv] at ev; injection ev with e1 e2 e3; injection e1 with e1; injection e1 with e1; exact e1.symm
  subst this
  have hg := grown_trans (grown_setCell w b (k * 2) (.int .i64 y.N)) (grown_setCell (w.setCell ⟨b, k * 2, none⟩ (.int .i64 y.N)) b (k * 2 + 1) (.bool y.C))
  have hob : vd.ownBlock = some b := by rw [hv]; rfl
  exact ⟨Below.setCell (Below.setCell m.keep hB _) hB _, by rw [sz_setCell, sz_setCell]; exact m.Bw, m.Br, m.Bo, m.reg.grown hg (fun e => m.dr (by rw [hob, e])), m.out.grown hg (fun e => m.dO (by rw [hob, e])), hst, m.tld.other hg fun q hq e => m.dt b hob (by rw [hq, e]), m.ro, m.dr, m.dO, m.tr, m.tO, m.dt⟩
theorem RAt.tell (m : RAt B W0 rb ob s vd vt en st at2 w) {wa w7 : World} {v7 : Value} {l7 : List Int} (ka : Keeps w wa) (o7 : Own w7 B 3 1 ci v7 l7) (g7 : wa.grownBy w7 vt.ownBlock) (f7 : ∀ b, v7.ownBlock = some b → vt.ownBlock = some b ∨ wa.heap.size ≤ b) :
    RAt B W0 rb ob { s with told := l7 } vd v7 en st at2 (w7.setCell ⟨ob, 0, none⟩ v7) := by
  have s1 := ka.size
  have s2 := g7.size
  have hset := grown_setCell w7 ob 0 v7
  have hol := m.out.lt
  have hrl := m.reg.lt
  have tO7 : v7.ownBlock ≠ some ob := fun e => by
    rcases f7 ob e with e | e
    · exact m.tO e
    · omega
  have tr7 : v7.ownBlock ≠ some rb := fun e => by
    rcases f7 rb e with e | e
    · exact m.tr e
    · omega
  refine ⟨?_, by rw [sz_setCell]; have := m.Bw; omega, m.Br, m.Bo, ?_, ?_, ?_, o7.other hset fun b hb e => tO7 (by rw [hb, e]), m.ro, m.dr, m.dO, tr7, tO7, fun b hb e => ?_⟩
  · have h1 : Below B W0 wa := Below.trans m.keep (Below.mono ka m.Bw)
    have h2 : Below B W0 w7 := Below.trans h1 (below_grown g7 (by have := m.Bw; omega) m.tld.row)
    exact Below.setCell h2 m.Bo _
  · exact ((m.reg.keep ka).grown g7 fun e => m.tr e.symm).grown hset (fun e => m.ro (by injection e))
  · exact Blk.set ((m.out.keep ka).grown g7 fun e => m.tO e.symm) 0 v7
  · exact ((m.dat.keep ka).other g7 fun b hb e => m.dt b hb e.symm).other hset fun b hb e => m.dO (by rw [hb, e])
  · rcases f7 b e with e | e
    · exact m.dt b hb e
    · have := own_lt' m.dat hb
      omega
theorem RAt.setO (m : RAt B W0 rb ob s vd vt en st at2 w) (j : Nat) (u : Value) {en' st' at3 : Int} (hc : (#[vt, .int .i64 en, .int .i64 st, .int .i64 at2] : Array Value).setIfInBounds j u = #[vt, .int .i64 en', .int .i64 st', .int .i64 at3]) : RAt B W0 rb ob s vd vt en' st' at3 (w.setCell ⟨ob, j, none⟩ u) := by
  have hg := grown_setCell w ob j u
  refine ⟨Below.setCell m.keep m.Bo _, by rw [sz_setCell]; exact m.Bw, m.Br, m.Bo, m.reg.grown hg (fun e => m.ro (by injection e)), ?_, m.dat.other hg fun b hb e => m.dO (by rw [hb, e]), m.tld.other hg fun b hb e => m.tO (by rw [hb, e]), m.ro, m.dr, m.dO, m.tr, m.tO, m.dt⟩
  have hb := Blk.set m.out j u
  rw [hc] at hb
  exact hb
theorem RAt.setEnd (m : RAt B W0 rb ob s vd vt en st at2 w) (p : Int) : RAt B W0 rb ob s vd vt p st at2 (w.setCell ⟨ob, 1, none⟩ (.int .i64 p)) := m.setO 1 _ rfl
theorem RAt.setSteps (m : RAt B W0 rb ob s vd vt en st at2 w) (p : Int) : RAt B W0 rb ob s vd vt en p at2 (w.setCell ⟨ob, 2, none⟩ (.int .i64 p)) := m.setO 2 _ rfl
theorem RAt.setAt (m : RAt B W0 rb ob s vd vt en st at2 w) (p : Int) : RAt B W0 rb ob s vd vt en st p (w.setCell ⟨ob, 3, none⟩ (.int .i64 p)) := m.setO 3 _ rfl
theorem RAt.inp' (m : RAt B W0 rb ob s vd vt en st at2 w) (l : List Int) : RAt B W0 rb ob { s with inp := l } vd vt en st at2 w :=
  ⟨m.keep, m.Bw, m.Br, m.Bo, m.reg, m.out, m.dat, m.tld, m.ro, m.dr, m.dO, m.tr, m.tO, m.dt⟩
theorem RAt.pc' (m : RAt B W0 rb ob s vd vt en st at2 w) (p : Int) : RAt B W0 rb ob { s with pc := p } vd vt en st at2 w :=
  ⟨m.keep, m.Bw, m.Br, m.Bo, m.reg, m.out, m.dat, m.tld, m.ro, m.dr, m.dO, m.tr, m.tO, m.dt⟩
end
/-- how far the loop is from its end -/
def meas2 (ob : Nat) (w : World) : Nat := 100001 - (intOf ((w.cell? ⟨ob, 2, none⟩).getD (.int .i64 0))).toNat
theorem meas2_eq {B rb ob : Nat} {W0 : World} {s : Mach} {vd vt : Value} {en st at2 : Int} {w : World} (m : RAt B W0 rb ob s vd vt en st at2 w) : meas2 ob w = 100001 - st.toNat := by
  have e : w.cell? ⟨ob, 2, none⟩ = some (.int .i64 st) := m.out.cell (j := 2) rfl
  unfold meas2
  rw [e]
  rfl
end Go.Proofs.YtpgifkhgefbnfaaDoor
end
section
namespace Go.Proofs.YtpgifkhgefbnfaaDoor
open Go.RowKit BH
set_option maxRecDepth 100000
section
variable {m : Img} {s : Mach} {D A Q : Nat} {N n aN bN : Int} {aC bC Lg : Bool}
theorem st3_go (h : (nth s.regs 7).C = true) : stepS m s ⟨3, D, A, Q, N, Lg⟩ n = (0, { s with pc := (nth s.regs 7).N }) := by
  have h' : (s.r 7).C = true := h
  simp [stepS, flowsN, flowS, h']
  rfl
theorem st3_end (h : (nth s.regs 7).C = false) : stepS m s ⟨3, D, A, Q, N, Lg⟩ n = (4, s) := by
  have h' : (s.r 7).C = false := h
  simp [stepS, flowsN, flowS, h']
theorem st6_go (ha : ⟨aN, false⟩ = nth s.regs A) : stepS m s ⟨6, D, A, Q, N, Lg⟩ n = (0, { s.put D ⟨foldN (aN + N), false⟩ with pc := s.pc + n }) := by
  simp [stepS, flowsN, doS, Mach.r, ← ha]
theorem st6_end (ha : ⟨aN, true⟩ = nth s.regs A) : stepS m s ⟨6, D, A, Q, N, Lg⟩ n = (4, s) := by
  simp [stepS, flowsN, doS, Mach.r, ← ha]
theorem star_go {K : Int} (h0 : 7 ≤ K) (h1 : K ≤ 13) (ha : ⟨aN, false⟩ = nth s.regs A) (hb : ⟨bN, false⟩ = nth s.regs Q) : stepS m s ⟨K, D, A, Q, N, Lg⟩ n = (0, { s.put D ⟨arithN K aN bN, false⟩ with pc := s.pc + n }) := by
  rcases (show K = 7 ∨ K = 8 ∨ K = 9 ∨ K = 10 ∨ K = 11 ∨ K = 12 ∨ K = 13 by omega) with rfl | rfl | rfl | rfl | rfl | rfl | rfl <;> simp [stepS, flowsN, doS, Mach.r, ← ha, ← hb]
theorem star_end {K : Int} (h0 : 7 ≤ K) (h1 : K ≤ 13) (ha : ⟨aN, aC⟩ = nth s.regs A) (hb : ⟨bN, bC⟩ = nth s.regs Q) (h : aC = true ∨ bC = true) : stepS m s ⟨K, D, A, Q, N, Lg⟩ n = (4, s) := by
  rcases (show K = 7 ∨ K = 8 ∨ K = 9 ∨ K = 10 ∨ K = 11 ∨ K = 12 ∨ K = 13 by omega) with rfl | rfl | rfl | rfl | rfl | rfl | rfl <;> simp [stepS, flowsN, doS, Mach.r, ← ha, ← hb, h]
theorem st14_go (ha : ⟨aN, false⟩ = nth s.regs A) (h0 : 0 ≤ aN + N) (h1 : aN + N < (s.data.length : Int)) : stepS m s ⟨14, D, A, Q, N, Lg⟩ n = (0, { s.put D (nth s.data (aN + N).toNat) with pc := s.pc + n }) := by
  have h : ¬ (aN + N < 0 ∨ (s.data.length : Int) ≤ aN + N) := by omega
  simp [stepS, flowsN, doS, memS, Mach.r, ← ha, h]
theorem st15_go (ha : ⟨aN, false⟩ = nth s.regs A) (hb : ⟨bN, bC⟩ = nth s.regs Q) (h0 : 0 ≤ aN + N) (h1 : aN + N < (s.data.length : Int)) : stepS m s ⟨15, D, A, Q, N, Lg⟩ n = (0, { s with data := s.data.set (aN + N).toNat ⟨bN, bC⟩, pc := s.pc + n }) := by
  have h : ¬ (aN + N < 0 ∨ (s.data.length : Int) ≤ aN + N) := by omega
  simp [stepS, flowsN, doS, memS, Mach.r, ← ha, ← hb, h]
theorem smem_end {K : Int} (hK : K = 14 ∨ K = 15) (ha : ⟨aN, true⟩ = nth s.regs A) : stepS m s ⟨K, D, A, Q, N, Lg⟩ n = (4, s) := by
  rcases hK with rfl | rfl <;> simp [stepS, flowsN, doS, memS, Mach.r, ← ha]
theorem smem_trap {K : Int} (hK : K = 14 ∨ K = 15) (ha : ⟨aN, false⟩ = nth s.regs A) (h : aN + N < 0 ∨ (s.data.length : Int) ≤ aN + N) : stepS m s ⟨K, D, A, Q, N, Lg⟩ n = (2, s) := by
  rcases hK with rfl | rfl <;> simp [stepS, flowsN, doS, memS, Mach.r, ← ha, h]
theorem st16_go : stepS m s ⟨16, D, A, Q, N, Lg⟩ n = (0, { Mach.put { s with inp := s.inp.tail } D ⟨s.inp.headD 0, false⟩ with pc := s.pc + n }) := by
  simp [stepS, flowsN, doS]
theorem st17_go (ha : ⟨aN, false⟩ = nth s.regs A) : stepS m s ⟨17, D, A, Q, N, Lg⟩ n = (0, { s with told := s.told ++ [aN], pc := s.pc + n }) := by
  simp [stepS, flowsN, doS, Mach.r, ← ha]
theorem st17_end (ha : ⟨aN, true⟩ = nth s.regs A) : stepS m s ⟨17, D, A, Q, N, Lg⟩ n = (4, s) := by
  simp [stepS, flowsN, doS, Mach.r, ← ha]
theorem sbr_end {K : Int} (h0 : 18 ≤ K) (h1 : K ≤ 21) (ha : ⟨aN, aC⟩ = nth s.regs A) (hb : ⟨bN, bC⟩ = nth s.regs Q) (h : aC = true ∨ bC = true) : stepS m s ⟨K, D, A, Q, N, Lg⟩ n = (4, s) := by
  rcases (show K = 18 ∨ K = 19 ∨ K = 20 ∨ K = 21 by omega) with rfl | rfl | rfl | rfl <;> simp [stepS, flowsN, flowS, Mach.r, ← ha, ← hb, h]
theorem sbr_go {K : Int} (h0 : 18 ≤ K) (h1 : K ≤ 21) (ha : ⟨aN, false⟩ = nth s.regs A) (hb : ⟨bN, false⟩ = nth s.regs Q) (h : takenN K aN bN = true) : stepS m s ⟨K, D, A, Q, N, Lg⟩ n = (0, { s with pc := s.pc + N }) := by
  rcases (show K = 18 ∨ K = 19 ∨ K = 20 ∨ K = 21 by omega) with rfl | rfl | rfl | rfl <;> simp [stepS, flowsN, flowS, Mach.r, ← ha, ← hb, h]
theorem sbr_no {K : Int} (h0 : 18 ≤ K) (h1 : K ≤ 21) (ha : ⟨aN, false⟩ = nth s.regs A) (hb : ⟨bN, false⟩ = nth s.regs Q) (h : takenN K aN bN = false) : stepS m s ⟨K, D, A, Q, N, Lg⟩ n = (0, { s with pc := s.pc + n }) := by
  rcases (show K = 18 ∨ K = 19 ∨ K = 20 ∨ K = 21 by omega) with rfl | rfl | rfl | rfl <;> simp [stepS, flowsN, flowS, Mach.r, ← ha, ← hb, h]
theorem st23_go : stepS m s ⟨23, D, A, Q, N, Lg⟩ n = (0, { s.put 7 ⟨s.pc + n, true⟩ with pc := s.pc + N }) := by
  simp [stepS, flowsN, flowS]
theorem st24_end (ha : ⟨aN, true⟩ = nth s.regs A) : stepS m s ⟨24, D, A, Q, N, Lg⟩ n = (4, s) := by
  simp [stepS, flowsN, flowS, Mach.r, ← ha]
theorem st24_trap (ha : ⟨aN, false⟩ = nth s.regs A) (h : (m.Tables.length : Int) ≤ N ∨ aN < 0 ∨ ((nth m.Tables N.toNat).length : Int) ≤ aN) : stepS m s ⟨24, D, A, Q, N, Lg⟩ n = (2, s) := by
  simp [stepS, flowsN, flowS, Mach.r, ← ha, h]
theorem st24_go (ha : ⟨aN, false⟩ = nth s.regs A) (h : ¬ ((m.Tables.length : Int) ≤ N ∨ aN < 0 ∨ ((nth m.Tables N.toNat).length : Int) ≤ aN)) : stepS m s ⟨24, D, A, Q, N, Lg⟩ n = (0, { s with pc := nth (nth m.Tables N.toNat) aN.toNat }) := by
  simp only [stepS, flowsN, flowS, Mach.r]
  simp [h, ← ha]
end
theorem RAt.twice {B rb ob : Nat} {W0 : World} {s : Mach} {vd vt : Value} {en st at2 : Int} {w : World} {d : Int} {x y : Vl} (m : RAt B W0 rb ob ((s.put d x).put d y) vd vt en st at2 w) : RAt B W0 rb ob (s.put d y) vd vt en st at2 w := by
  have e : (s.put d x).put d y = s.put d y := by simp [Mach.put]
  rw [← e]
  exact m
theorem RAt.len {B rb ob : Nat} {W0 : World} {s : Mach} {a : Option Addr} {n c : Nat} {vt : Value} {en st at2 : Int} {w : World} (m : RAt B W0 rb ob s (.slice a n c) vt en st at2 w) : n = s.data.length := by
  obtain ⟨a9, c9, e9⟩ := own_form' m.dat
  injection e9
theorem run_end {m : Img} {s : Mach} {i : Ins} {n e : Int} {k : Nat} (hd : decAns m.Text s.pc = (i, n, 0)) (hs : stepS m s i n = (e, s)) (he : e ≠ 0) : runS m (k + 1) s = (e, k + 1, s) := by
  rw [run_step hd, hs]
  exact if_neg he
theorem run_on {m : Img} {s s' : Mach} {i : Ins} {n : Int} {k : Nat} (hd : decAns m.Text s.pc = (i, n, 0)) (hs : stepS m s i n = (0, s')) : runS m (k + 1) s = runS m k s' := by
  rw [run_step hd, hs]
  exact if_pos rfl
theorem meas2_lt {B rb ob : Nat} {W0 : World} {s s' : Mach} {vd vt vd' vt' : Value} {en st at2 en' at2' : Int} {w w' : World} (m' : RAt B W0 rb ob s' vd' vt' en' (st + 1) at2' w') (m : RAt B W0 rb ob s vd vt en st at2 w) (h : 0 ≤ st ∧ st ≤ 100000) : meas2 ob w' < meas2 ob w := by
  rw [meas2_eq m', meas2_eq m]
  omega
theorem drop_head (l : List Int) (k : Nat) (h : k < l.length) : l.drop k = nth l k :: l.drop (k + 1) := by
  rw [nth_eq l k h]
  exact List.drop_eq_getElem_cons h
theorem put8 {s : Mach} (h8 : s.regs.length = 8) (d : Int) (v : Vl) : (s.put d v).regs.length = 8 := by simp [Mach.put, h8]
end Go.Proofs.YtpgifkhgefbnfaaDoor
end
