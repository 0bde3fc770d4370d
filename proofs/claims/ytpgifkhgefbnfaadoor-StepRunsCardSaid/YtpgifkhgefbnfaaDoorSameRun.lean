/-
  The machine's do and flow at every instruction; what step.Run answers, in plain Lean.
  Lemmas for the walk of step.Run.
  The law's own functions for runs: ints, sameRun.
-/
import Derived.Test.YtpgifkhgefbnfaaDoorStepDo2
import Derived.Test.YtpgifkhgefbnfaaDoorStepFlow
import Derived.Test.YtpgifkhgefbnfaaDoorIsaDec7
import Derived.Test.YtpgifkhgefbnfaaDoorIsaLaid2
import Derived.Test.YtpgifkhgefbnfaaDoorLift
import Derived.Test.YtpgifkhgefbnfaaDoorNumsCopy
import Derived.Test.YtpgifkhgefbnfaaDoorImgOpen
section
namespace Go.Proofs.YtpgifkhgefbnfaaDoor
open Go.RowKit BH
set_option maxHeartbeats 4000000
set_option maxRecDepth 100000
theorem do_any {B g : Nat} {W0 : World} {h : List Value} {s : Mach} {vd vi vt : Value} {en st at2 : Int} (w : World) (hm : MAt B W0 g h s vd vi vt en st at2 w) (ok : MachOk s) (i : Ins) (hi : InsOk i) (hN : -32768 ≤ i.N ∧ i.N ≤ 32767) (hK : flowsN i.K = false) (htl : s.told.length ≤ 100000) :
    Calls Tryd.prog 43 #[.pointer (some ⟨g, 0, none⟩), i.v] w fun e w' => ∃ vi' vt', e = .returned (.int .i64 (doS s i).1) ∧ MAt B W0 g h (doS s i).2 vd vi' vt' en st at2 w' := by
  obtain ⟨K, D, A, R, N, Lg⟩ := i
  obtain ⟨d0, d1, a0, a1, b0, b1, -, k0, k1, -⟩ := hi
  dsimp only at d0 d1 a0 a1 b0 b1 k0 k1 hN hK
  obtain ⟨D, rfl⟩ : ∃ d : Nat, D = d := ⟨D.toNat, by omega⟩
  obtain ⟨A, rfl⟩ : ∃ d : Nat, A = d := ⟨A.toNat, by omega⟩
  obtain ⟨R, rfl⟩ : ∃ d : Nat, R = d := ⟨R.toNat, by omega⟩
  have hK2 : ¬ K ≤ 3 ∧ ¬ 18 ≤ K := by simpa [flowsN] using hK
  show Calls Tryd.prog 43 #[.pointer (some ⟨g, 0, none⟩), insV K D A R N Lg] w _
  by_cases c4 : K = 4
  · subst c4; exact do_nop w hm ok D A R N Lg (by omega) (by omega) (by omega) hN
  by_cases c5 : K = 5
  · subst c5; exact do_li w hm ok D A R N Lg (by omega) (by omega) (by omega) hN
  by_cases c6 : K = 6
  · subst c6; exact do_addi w hm ok D A R N Lg (by omega) (by omega) (by omega) hN
  by_cases c14 : K = 14
  · subst c14; exact do_mem14 w hm ok D A R N Lg (by omega) (by omega) (by omega) hN
  by_cases c15 : K = 15
  · subst c15; exact do_mem15 w hm ok D A R N Lg (by omega) (by omega) (by omega) hN
  by_cases c16 : K = 16
  · subst c16; exact do_in w hm ok D A R N Lg (by omega) (by omega) (by omega) hN
  by_cases c17 : K = 17
  · subst c17; exact do_out w hm ok htl D A R N Lg (by omega) (by omega) (by omega) hN
  exact do_arith w hm ok K (by omega) D A R N Lg (by omega) (by omega) (by omega) hN
theorem flow_any {B g : Nat} {W0 : World} {h : List Value} {s : Mach} {vd vi vt : Value} {en st at2 : Int} (w : World) (hm : MAt B W0 g h s vd vi vt en st at2 w) (ok : MachOk s) (m : Img) (v2 : Value) (hv2 : h[2]? = some v2) (hT : Tabs W0 v2 m.Tables) (i : Ins) (hi : InsOk i) (hN : -32768 ≤ i.N ∧ i.N ≤ 32767) (hK : flowsN i.K = true) (nx : Int) :
    Calls Tryd.prog 42 #[.pointer (some ⟨g, 0, none⟩), i.v, .int .i64 nx] w fun e w' => e = .returned (.tuple #[.int .i64 (flowS m s i nx).1, .int .i64 (flowS m s i nx).2.1]) ∧ MAt B W0 g h (flowS m s i nx).2.2 vd vi vt en st at2 w' := by
  obtain ⟨K, D, A, R, N, Lg⟩ := i
  obtain ⟨d0, d1, a0, a1, b0, b1, -, k0, k1, h24⟩ := hi
  dsimp only at d0 d1 a0 a1 b0 b1 k0 k1 hN hK h24
  obtain ⟨D, rfl⟩ : ∃ d : Nat, D = d := ⟨D.toNat, by omega⟩
  obtain ⟨A, rfl⟩ : ∃ d : Nat, A = d := ⟨A.toNat, by omega⟩
  obtain ⟨R, rfl⟩ : ∃ d : Nat, R = d := ⟨R.toNat, by omega⟩
  have hK2 : K ≤ 3 ∨ 18 ≤ K := by simpa [flowsN] using hK
  show Calls Tryd.prog 42 #[.pointer (some ⟨g, 0, none⟩), insV K D A R N Lg, .int .i64 nx] w _
  by_cases c1 : K = 1
  · subst c1; exact flow_1 w hm ok m D A R N Lg (by omega) (by omega) (by omega) hN nx
  by_cases c2 : K = 2
  · subst c2; exact flow_2 w hm ok m D A R N Lg (by omega) (by omega) (by omega) hN nx
  by_cases c3 : K = 3
  · subst c3; exact flow_ret w hm ok m D A R N Lg (by omega) (by omega) (by omega) hN nx
  by_cases c22 : K = 22
  · subst c22; exact flow_jump w hm ok m D A R N Lg (by omega) (by omega) (by omega) hN nx
  by_cases c23 : K = 23
  · subst c23; exact flow_call w hm ok m D A R N Lg (by omega) (by omega) (by omega) hN nx
  by_cases c24 : K = 24
  · subst c24; exact flow_tab w hm ok m v2 hv2 hT D A R N Lg (by omega) (by omega) (by omega) hN (h24 rfl) nx
  exact flow_br w hm ok m K (by omega) D A R N Lg (by omega) (by omega) (by omega) hN nx
theorem flows_any (i : Ins) (w : World) : Calls Tryd.prog 41 #[i.v] w fun e w' => e = .returned (.bool (flowsN i.K)) ∧ Keeps w w' := by
  obtain ⟨K, D, A, R, N, Lg⟩ := i
  show Calls Tryd.prog 41 #[insV K D A R N Lg] w _
  unfold insV
  dsimp only
  by_cases h3 : K ≤ 3
  · have E := Lib.hid (show flowsN K = true by simp [flowsN, h3])
    go_enter Tryd.func41, Tryd.ntmps41
    go_wp2_with fail
    go_ret
    exact ⟨by rw [E.out]; rfl, (Keeps.refl w).alloc _⟩
  · by_cases h18 : 18 ≤ K
    · have E := Lib.hid (show flowsN K = true by simp [flowsN, h18])
      go_enter Tryd.func41, Tryd.ntmps41
      go_wp2_with fail
      go_ret
      exact ⟨by rw [E.out]; rfl, (Keeps.refl w).alloc _⟩
    · have E := Lib.hid (show flowsN K = false by simp [flowsN, h3, h18])
      go_enter Tryd.func41, Tryd.ntmps41
      go_wp2_with fail
      go_ret
      exact ⟨by rw [E.out]; rfl, (Keeps.refl w).alloc _⟩
def outM (x : Int) : Bool := decide (x < -1099511627776) || decide (1099511627776 < x)
theorem outM_any (x : Int) (w : World) : Calls Tryd.prog 40 #[.int .i64 x] w fun e w' => e = .returned (.bool (outM x)) ∧ w = w' := by
  by_cases h1 : x < -1099511627776
  · have E := Lib.hid (show outM x = true by simp [outM, h1])
    go_enter Tryd.func40, Tryd.ntmps40
    go_wp2_with fail
    go_ret
    exact ⟨by rw [E.out]; rfl, rfl⟩
  · by_cases h2 : 1099511627776 < x
    · have E := Lib.hid (show outM x = true by simp [outM, h2])
      go_enter Tryd.func40, Tryd.ntmps40
      go_wp2_with fail
      go_ret
      exact ⟨by rw [E.out]; rfl, rfl⟩
    · have E := Lib.hid (show outM x = false by simp [outM, h1, h2])
      go_enter Tryd.func40, Tryd.ntmps40
      go_wp2_with fail
      go_ret
      exact ⟨by rw [E.out]; rfl, rfl⟩
def mach0 (m : Img) (inp : List Int) : Mach := ⟨List.replicate 8 ⟨0, false⟩, m.Data.map fun n => ⟨n, false⟩, inp, (nth m.Funcs m.Entry.toNat).Start, []⟩
/-- a run as it is answered: told, end, steps, where -/
structure RunR where
  told : List Int
  en : Int
  steps : Int
  pc : Int
def zRun : RunR := ⟨[], 0, 0, 0⟩
def runR (fuel : Int) (r : Int × Nat × Mach) : RunR := ⟨r.2.2.told, r.1, fuel - r.2.1, r.2.2.pc⟩
def inpBad (inp : List Int) : Bool := anyN (fun i => outM (nth inp i)) inp.length
def ranS (m : Img) (inp : List Int) (fuel : Int) : RunR × Int :=
  if imgFault m ≠ 0 then (zRun, imgFault m) else if fuel < 0 ∨ 100000 < fuel then (zRun, 2) else if 100 < inp.length then (zRun, 1) else if inpBad inp = true then (zRun, 2)
  else (runR fuel (runS m fuel.toNat (mach0 m inp)), 0)
/-- the answer v reads as r; what is told lies in memory from B on -/
def RunAt (B : Nat) (w : World) (v : Value) (r : RunR) : Prop := ∃ vt, v = .agg #[vt, .int .i64 r.en, .int .i64 r.steps, .int .i64 r.pc] ∧ Ints w vt r.told ∧ NewAt B vt
theorem zrun_at (B : Nat) (w : World) : RunAt B w (.agg #[.slice none 0 0, .int .i64 0, .int .i64 0, .int .i64 0]) zRun := ⟨_, rfl, ints_zero w none, fun _ e => by cases e⟩
theorem flowS_ok {m : Img} (_hg : ImgGood m) {s : Mach} {i : Ins} {nx : Int} (h : MachOk s) (_hi : InsOk i) (hnx : InM nx) : MachOk (flowS m s i nx).2.2 := by
  unfold flowS
  repeat' split
  all_goals first | exact h | exact put_ok h _ hnx
theorem flowS_pc {m : Img} (hg : ImgGood m) {s : Mach} {i : Ins} {nx : Int} (h : MachOk s) (hi : InsOk i) (hN : -32768 ≤ i.N ∧ i.N ≤ 32767) (hpc : 0 ≤ s.pc ∧ s.pc < 8000) (hnx : InM nx) : InM (flowS m s i nx).2.1 := by
  obtain ⟨d0, d1, a0, a1, b0, b1, -, k0, k1, h24⟩ := hi
  have ht := hg.text
  unfold flowS
  repeat' split
  all_goals first
    | exact hnx
    | (dsimp only; unfold InM; omega)
    | exact r_in h (by decide) (by decide)
    | skip
  rename_i h1 h2
  dsimp only
  have hn : i.N.toNat < m.Tables.length := by omega
  have := (hg.tab _ hn).2 (s.r i.A).N.toNat (by omega)
  unfold InM
  omega
theorem stepS_ok {m : Img} (hg : ImgGood m) {s : Mach} {i : Ins} {n : Int} (h : MachOk s) (hi : InsOk i) (hN : -32768 ≤ i.N ∧ i.N ≤ 32767) (hpc : 0 ≤ s.pc ∧ s.pc < 8000) (hn : 0 ≤ n ∧ n ≤ 5) : MachOk (stepS m s i n).2 := by
  have hnx : InM (s.pc + n) := by unfold InM; omega
  unfold stepS
  repeat' split
  · have h1 := flowS_ok hg (i := i) h hi hnx
    exact ⟨h1.regs, h1.regN, h1.datN, h1.inpN, flowS_pc hg h hi hN hpc hnx⟩
  · exact h
  · have h1 := doS_ok h hi
    exact ⟨h1.regs, h1.regN, h1.datN, h1.inpN, hnx⟩
  · exact h
theorem mach0_ok {m : Img} (hg : ImgGood m) {inp : List Int} (hin : inpBad inp = false) : MachOk (mach0 m inp) ∧ 0 ≤ (mach0 m inp).pc ∧ (mach0 m inp).pc < 8000 := by
  have he := hg.entry
  have hs := (hg.func m.Entry.toNat (by omega))
  have ht := hg.text
  have hsum : ∀ k, k ≤ m.Funcs.length → 0 ≤ sumF m k := by
    intro k
    induction k with
    | zero => intro _; exact Int.le_refl _
    | succ k ih => intro hk; have h1 := ih (by omega); have h2 := (hg.func k (by omega)).2.2.2.1; show 0 ≤ sumF m k + (nth m.Funcs k).Size; omega
  have h0 := hsum m.Entry.toNat (by omega)
  have e1 : (nth m.Funcs m.Entry.toNat).Start = sumF m m.Entry.toNat := hs.2.2.1
  have h2 := hs.2.2.2.1
  have h3 := hs.2.2.2.2
  have hp : 0 ≤ (mach0 m inp).pc ∧ (mach0 m inp).pc < 8000 := by
    show 0 ≤ (nth m.Funcs m.Entry.toNat).Start ∧ (nth m.Funcs m.Entry.toNat).Start < 8000
    omega
  refine ⟨⟨rfl, fun v hv => ?_, fun v hv => ?_, fun x hx => ?_, ?_⟩, hp⟩
  · have := List.eq_of_mem_replicate hv
    subst this
    unfold InM; decide
  · obtain ⟨n, hn, rfl⟩ := List.mem_map.1 hv
    obtain ⟨j, hj, e⟩ := List.getElem_of_mem hn
    have := hg.dat j hj
    rw [nth_eq _ _ hj, e] at this
    exact this
  · obtain ⟨j, hj, e⟩ := List.getElem_of_mem hx
    have hj' : j < inp.length := hj
    have := anyN_false hin j hj'
    unfold outM at this
    rw [nth_eq _ _ hj'] at this
    have e' : inp[j] = x := e
    rw [e'] at this
    unfold InM
    simp at this
    exact this
  · unfold InM; omega
end Go.Proofs.YtpgifkhgefbnfaaDoor
end
section
namespace Go.Proofs.YtpgifkhgefbnfaaDoor
open Go.RowKit BH
set_option maxHeartbeats 1000000
set_option maxRecDepth 100000
theorem mCells_data {h : List Value} {s : Mach} {vd vi vt : Value} {en st at2 : Int} (hh : h.length = 6) (h8 : s.regs.length = 8) (v : Value) (l : List Vl) : (mCells h s vd vi vt en st at2).setIfInBounds 22 v = mCells h { s with data := l } v vi vt en st at2 := by
  obtain ⟨a, b, c, x, e, f, rfl⟩ := list6 hh
  obtain ⟨regs, data, inp, pc, told⟩ := s
  obtain ⟨r0, r1, r2, r3, r4, r5, r6, r7, rfl⟩ := list8 h8
  rfl
/-- a datum is appended -/
theorem MAt.grow {B g : Nat} {W0 : World} {h : List Value} {s : Mach} {vd vi vt : Value} {en st at2 : Int} {w : World} (m : MAt B W0 g h s vd vi vt en st at2 w) (h8 : s.regs.length = 8) {wa w7 : World} {v7 : Value} {l7 : List Vl} (ka : Keeps w wa) (o7 : Own w7 B 100 2 cvl v7 l7) (g7 : wa.grownBy w7 vd.ownBlock) (f7 : ∀ b, v7.ownBlock = some b → vd.ownBlock = some b ∨ wa.heap.size ≤ b) :
    MAt B W0 g h { s with data := l7 } v7 vi vt en st at2 (w7.setCell ⟨g, 22, none⟩ v7) := by
  have s1 := ka.size
  have s2 := g7.size
  have hset := grown_setCell w7 g 22 v7
  have hgl := m.blk.lt
  have tg7 : v7.ownBlock ≠ some g := fun e => by
    rcases f7 g e with e | e
    · exact m.dg e
    · omega
  refine ⟨?_, m.Bg, by rw [sz_setCell]; have := m.Bw; omega, m.hh, ?_, o7.other hset fun b hb e => tg7 (by rw [hb, e]), ?_, m.inp, m.B0, tg7, m.tg, fun b hb e => ?_⟩
  · have h1 : Below B W0 wa := Below.trans m.keep (Below.mono ka m.Bw)
    have h2 : Below B W0 w7 := Below.trans h1 (below_grown g7 (by have := m.Bw; omega) m.dat.row)
    exact Below.setCell h2 m.Bg _
  · have hb := Blk.set ((m.blk.keep ka).grown g7 fun e => m.dg e.symm) 22 v7
    rw [mCells_data m.hh h8 v7 l7] at hb
    exact hb
  · exact ((m.tld.keep ka).other g7 fun b hb e => m.dt b e.symm hb).other hset fun b hb e => m.tg (by rw [hb, e])
  · rcases f7 b hb with h1 | h1
    · exact m.dt b h1 e
    · have := own_lt' m.tld e
      omega
theorem flowS_end {m : Img} {s : Mach} {i : Ins} {nx : Int} (h : (flowS m s i nx).1 ≠ 0) : (flowS m s i nx).2.2 = s := by
  revert h
  unfold flowS
  repeat' split
  all_goals (intro h; first | rfl | exact absurd rfl h)
theorem doS_end {s : Mach} {i : Ins} (h : (doS s i).1 ≠ 0) : (doS s i).2 = s := by
  revert h
  unfold doS memS
  repeat' split
  all_goals (intro h; first | rfl | exact absurd rfl h)
theorem doS_pc (s : Mach) (i : Ins) : (doS s i).2.pc = s.pc := by
  unfold doS memS Mach.put
  repeat' split
  all_goals rfl
theorem stepS_told (m : Img) (s : Mach) (i : Ins) (n : Int) : (stepS m s i n).2.told.length ≤ s.told.length + 1 := by
  have hd : (doS s i).2.told.length ≤ s.told.length + 1 := by
    unfold doS memS Mach.put
    repeat' split
    all_goals simp
  have hf : (flowS m s i (s.pc + n)).2.2.told = s.told := by
    unfold flowS Mach.put
    repeat' split
    all_goals rfl
  unfold stepS
  repeat' split
  · show (flowS m s i (s.pc + n)).2.2.told.length ≤ _
    rw [hf]; omega
  · exact Nat.le_succ _
  · exact hd
  · exact Nat.le_succ _
section
variable {m : Img} {k : Nat} {s : Mach} {i : Ins} {n er : Int}
theorem run_bad (hd : decAns m.Text s.pc = (i, n, er)) (he : er ≠ 0) : runS m (k + 1) s = (2, k + 1, s) := by
  show (if (decAns m.Text s.pc).2.2 ≠ 0 then _ else _) = _
  rw [hd]
  exact if_pos he
theorem run_step (hd : decAns m.Text s.pc = (i, n, 0)) : runS m (k + 1) s = if (stepS m s i n).1 = 0 then runS m k (stepS m s i n).2 else ((stepS m s i n).1, k + 1, s) := by
  show (if (decAns m.Text s.pc).2.2 ≠ 0 then _ else _) = _
  rw [hd]
  exact if_neg (by simp)
theorem run_flow_go (hd : decAns m.Text s.pc = (i, n, 0)) (hK : flowsN i.K = true) (h0 : (flowS m s i (s.pc + n)).1 = 0) : runS m (k + 1) s = runS m k { (flowS m s i (s.pc + n)).2.2 with pc := (flowS m s i (s.pc + n)).2.1 } := by
  have e : stepS m s i n = (0, { (flowS m s i (s.pc + n)).2.2 with pc := (flowS m s i (s.pc + n)).2.1 }) := by unfold stepS; rw [if_pos hK, if_pos h0]
  rw [run_step hd, e]; exact if_pos rfl
theorem run_flow_end (hd : decAns m.Text s.pc = (i, n, 0)) (hK : flowsN i.K = true) (h0 : (flowS m s i (s.pc + n)).1 ≠ 0) : runS m (k + 1) s = ((flowS m s i (s.pc + n)).1, k + 1, s) := by
  have e : stepS m s i n = ((flowS m s i (s.pc + n)).1, s) := by unfold stepS; rw [if_pos hK, if_neg h0]
  rw [run_step hd, e]; exact if_neg h0
theorem run_do_go (hd : decAns m.Text s.pc = (i, n, 0)) (hK : flowsN i.K = false) (h0 : (doS s i).1 = 0) : runS m (k + 1) s = runS m k { (doS s i).2 with pc := s.pc + n } := by
  have e : stepS m s i n = (0, { (doS s i).2 with pc := s.pc + n }) := by unfold stepS; rw [if_neg (by rw [hK]; simp), if_pos h0]
  rw [run_step hd, e]; exact if_pos rfl
theorem run_do_end (hd : decAns m.Text s.pc = (i, n, 0)) (hK : flowsN i.K = false) (h0 : (doS s i).1 ≠ 0) : runS m (k + 1) s = ((doS s i).1, k + 1, s) := by
  have e : stepS m s i n = ((doS s i).1, s) := by unfold stepS; rw [if_neg (by rw [hK]; simp), if_neg h0]
  rw [run_step hd, e]; exact if_neg h0
theorem flow_ok (hg : ImgGood m) (h : MachOk s) (hd : decAns m.Text s.pc = (i, n, 0)) (hK : flowsN i.K = true) (h0 : (flowS m s i (s.pc + n)).1 = 0) : MachOk { (flowS m s i (s.pc + n)).2.2 with pc := (flowS m s i (s.pc + n)).2.1 } ∧ (flowS m s i (s.pc + n)).2.2.told.length ≤ s.told.length + 1 := by
  have hz := decAns_ok (l := m.Text) (x := s.pc) (by rw [hd])
  rw [hd] at hz
  have ht := hg.text
  have e : stepS m s i n = (0, { (flowS m s i (s.pc + n)).2.2 with pc := (flowS m s i (s.pc + n)).2.1 }) := by unfold stepS; rw [if_pos hK, if_pos h0]
  have h1 := stepS_ok hg h hz.2.2.1 ⟨hz.2.2.2.1, hz.2.2.2.2.1⟩ (n := n) ⟨hz.1, by omega⟩ hz.2.2.2.2.2
  have h2 := stepS_told m s i n
  rw [e] at h1 h2
  exact ⟨h1, h2⟩
theorem do_ok (hg : ImgGood m) (h : MachOk s) (hd : decAns m.Text s.pc = (i, n, 0)) (hK : flowsN i.K = false) (h0 : (doS s i).1 = 0) : MachOk { (doS s i).2 with pc := s.pc + n } ∧ (doS s i).2.told.length ≤ s.told.length + 1 := by
  have hz := decAns_ok (l := m.Text) (x := s.pc) (by rw [hd])
  rw [hd] at hz
  have ht := hg.text
  have e : stepS m s i n = (0, { (doS s i).2 with pc := s.pc + n }) := by unfold stepS; rw [if_neg (by rw [hK]; simp), if_pos h0]
  have h1 := stepS_ok hg h hz.2.2.1 ⟨hz.2.2.2.1, hz.2.2.2.2.1⟩ (n := n) ⟨hz.1, by omega⟩ hz.2.2.2.2.2
  have h2 := stepS_told m s i n
  rw [e] at h1 h2
  exact ⟨h1, h2⟩
end
theorem put4 {w : World} {z : Nat} {T : TypeId} {c0 c1 c2 c3 : Value} (h : Blk w z (.cells #[c0, c1, c2, c3] T)) (v0 v1 v2 v3 : Value) {wf : World} (hf : wf = (((w.setCell ⟨z, 0, none⟩ v0).setCell ⟨z, 1, none⟩ v1).setCell ⟨z, 2, none⟩ v2).setCell ⟨z, 3, none⟩ v3) :
    Blk wf z (.cells #[v0, v1, v2, v3] T) ∧ w.grownBy wf (some z) := by
  subst hf
  exact ⟨(((h.set 0 _).set 1 _).set 2 _).set 3 _, grown_trans (grown_trans (grown_trans (grown_setCell _ _ _ _) (grown_setCell _ _ _ _)) (grown_setCell _ _ _ _)) (grown_setCell _ _ _ _)⟩
theorem keeps_put {w wr wf : World} {z : Nat} (hk : Keeps w wr) (hz : w.heap.size ≤ z) (hg : wr.grownBy wf (some z)) : Keeps w wf := Below.grown hk hg hk.size (by intro q e; cases e; exact hz)
/-- how far the loop is from its end -/
def meas (g : Nat) (w : World) : Nat := 2 * (100001 - (intOf ((w.cell? ⟨g, 27, none⟩).getD (.int .i64 0))).toNat) + (if intOf ((w.cell? ⟨g, 26, none⟩).getD (.int .i64 0)) = 0 then 1 else 0)
theorem meas_eq {B g : Nat} {W0 : World} {h : List Value} {s : Mach} {vd vi vt : Value} {en st at2 : Int} {w : World} (m : MAt B W0 g h s vd vi vt en st at2 w) (h8 : s.regs.length = 8) : meas g w = 2 * (100001 - st.toNat) + (if en = 0 then 1 else 0) := by
  have e1 : w.cell? ⟨g, 27, none⟩ = some (.int .i64 st) := m.tail h8 5 rfl
  have e2 : w.cell? ⟨g, 26, none⟩ = some (.int .i64 en) := m.tail h8 4 rfl
  unfold meas
  rw [e1, e2]
  rfl
theorem info_val : (Tryd.prog.info? 100).map (fun i => (i.zero, i.size, i.bytes)) = some (some (.agg #[.int .i64 0, .bool false]), 2, 16) := by kernel_rfl
/-- the machine as it is made -/
theorem mat0 {W3 : World} {h : List Value} {vin : Value} {inp : List Int} {p : Int} {c : Array Value} (hh : h.length = 6) (hi : Ints W3 vin inp) (hc : c = mCells h ⟨List.replicate 8 ⟨0, false⟩, [], inp, p, []⟩ (.slice none 0 0) vin (.slice none 0 0) 0 0 0) :
    MAt W3.heap.size W3 W3.heap.size h ⟨List.replicate 8 ⟨0, false⟩, [], inp, p, []⟩ (.slice none 0 0) vin (.slice none 0 0) 0 0 0 (W3.alloc (.cells c 104)) := by
  subst hc
  exact ⟨(Keeps.refl W3).alloc _, Nat.le_refl _, by rw [sz_alloc]; omega, hh, Blk.top _ _, Own.nil _ _ _ _ _, Own.nil _ _ _ _ _, hi, Nat.le_refl _, (fun e => by cases e), (fun e => by cases e), (fun _ e => by cases e)⟩
theorem blk_up_drew {W W' : World} {o : Obj} (h : Keeps ((W.alloc o).drew) W') : Blk W' W.heap.size o := ((Blk.top W o).keep ((Keeps.refl _).drew)).keep h
def mkV (n : Int) : Vl := ⟨n, false⟩
theorem take_map (l : List Int) (k : Nat) (h : k < l.length) : (l.take (k + 1)).map mkV = (l.take k).map mkV ++ [⟨nth l k, false⟩] := by
  rw [List.take_succ_eq_append_getElem h, List.map_append, nth_eq _ _ h]
  rfl
end Go.Proofs.YtpgifkhgefbnfaaDoor
end
section
namespace Go.Proofs.YtpgifkhgefbnfaaDoor
open Go.RowKit BH
set_option maxHeartbeats 1000000
set_option maxRecDepth 100000
theorem ints_any (v : Value) (l : List Int) (w : World) (hv : Ints w v l) (hl : l.length * 8 ≤ 140737488355328) :
    Calls Tryd.prog 15 #[v] w (Gives (fun v' w' => Ints w' v' l) w) := by
  have HV := Lib.hid hv
  obtain ⟨ao, cap, rfl, -⟩ := hv
  go_enter Tryd.func15, Tryd.ntmps15
  go_wp2_with (at_builtin; refine wpList_copy_nil rfl (.tmp 3) 32 rfl Tryd.underlying32 info_int rfl (by decide) rfl HV.out ?c1 (by omega) ?_)
  case c1 =>
    intro i j hi hj
    match j, hj with
    | 0, _ => rfl
  intro v' w1 harr _ hk1
  go_wp2
  go_ret
  exact ⟨_, rfl, harr, hk1⟩
theorem sameRun_yes (va vb : Value) (r : RunR) (w : World) {B1 B2 : Nat} (ha : RunAt B1 w va r) (hb : RunAt B2 w vb r) :
    Calls Tryd.prog 17 #[va, vb] w fun e w' => e = .returned (.bool true) ∧ Keeps w w' := by
  obtain ⟨v1, rfl, h1, -⟩ := ha
  obtain ⟨v2, rfl, h2, -⟩ := hb
  obtain ⟨a1, c1, rfl⟩ := Arr.form h1
  obtain ⟨a2, c2, rfl⟩ := Arr.form h2
  have H1 : Hid (Ints w _ r.told) := Lib.hid h1
  have H2 : Hid (Ints w _ r.told) := Lib.hid h2
  obtain ⟨told, en, st, pc⟩ := r
  clear h1 h2
  dsimp only at H1 H2 ⊢
  go_enter Tryd.func17, Tryd.ntmps17
  go_wp2_with (go_at_call 38; refine (sameInts_yes _ _ told _ (Arr.keep H1.out (((Keeps.refl w).alloc _).alloc _)) (Arr.keep H2.out (((Keeps.refl w).alloc _).alloc _))).mono ?_; rintro e w1 ⟨rfl, hk1⟩)
  go_ret
  exact ⟨by simp, (((Keeps.refl w).alloc _).alloc _).trans (by first | exact hk1 | exact hk1 ▸ Keeps.refl _)⟩
end Go.Proofs.YtpgifkhgefbnfaaDoor
end
