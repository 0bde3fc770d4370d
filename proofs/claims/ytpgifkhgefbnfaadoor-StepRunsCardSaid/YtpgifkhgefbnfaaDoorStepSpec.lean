/-
  What a machine does, in plain Lean: one instruction, and a run.
-/
import Derived.Test.YtpgifkhgefbnfaaDoorIsaDec0
import Derived.Test.YtpgifkhgefbnfaaDoorIsaLaid
import Derived.Test.YtpgifkhgefbnfaaDoorIsaAt1
namespace Go.Proofs.YtpgifkhgefbnfaaDoor
open Go.RowKit BH
set_option maxRecDepth 100000
/-- a value of a register or of data: a number, or an address of code -/
structure Vl where
  N : Int
  C : Bool
  deriving Inhabited
def cvl (x : Vl) : List Value := [.int .i64 x.N, .bool x.C]
theorem cvl_len (x : Vl) : (cvl x).length = 2 := rfl
theorem cvl_one (x : Vl) : ∀ u ∈ cvl x, u.oneCell' = true := by intro u hu; simp [cvl] at hu; rcases hu with rfl | rfl <;> rfl
structure Mach where
  regs : List Vl
  data : List Vl
  inp : List Int
  pc : Int
  told : List Int
def Mach.r (s : Mach) (i : Int) : Vl := nth s.regs i.toNat
def Mach.put (s : Mach) (d : Int) (v : Vl) : Mach := { s with regs := s.regs.set d.toNat v }
def memS (s : Mach) (i : Ins) : Int × Mach :=
  if (s.r i.A).C then (4, s) else
  if (s.r i.A).N + i.N < 0 ∨ (s.data.length : Int) ≤ (s.r i.A).N + i.N then (2, s) else
  if i.K = 14 then (0, s.put i.D (nth s.data ((s.r i.A).N + i.N).toNat)) else (0, { s with data := s.data.set ((s.r i.A).N + i.N).toNat (s.r i.B) })
def doS (s : Mach) (i : Ins) : Int × Mach :=
  if i.K = 4 then (0, s) else
  if i.K = 5 then (0, s.put i.D ⟨i.N, false⟩) else
  if i.K = 6 then (if (s.r i.A).C then (4, s) else (0, s.put i.D ⟨foldN ((s.r i.A).N + i.N), false⟩)) else
  if i.K = 14 ∨ i.K = 15 then memS s i else
  if i.K = 16 then (0, Mach.put { s with inp := s.inp.tail } i.D ⟨s.inp.headD 0, false⟩) else
  if i.K = 17 then (if (s.r i.A).C then (4, s) else (0, { s with told := s.told ++ [(s.r i.A).N] })) else
  if (s.r i.A).C = true ∨ (s.r i.B).C = true then (4, s) else (0, s.put i.D ⟨arithN i.K (s.r i.A).N (s.r i.B).N, false⟩)
def flowS (m : Img) (s : Mach) (i : Ins) (next : Int) : Int × Int × Mach :=
  if i.K = 1 then (1, next, s) else
  if i.K = 2 then (2, next, s) else
  if i.K = 3 then (if (s.r 7).C then (0, (s.r 7).N, s) else (4, next, s)) else
  if i.K = 22 then (0, s.pc + i.N, s) else
  if i.K = 23 then (0, s.pc + i.N, s.put 7 ⟨next, true⟩) else
  if i.K = 24 then (if (s.r i.A).C then (4, next, s) else if (m.Tables.length : Int) ≤ i.N ∨ (s.r i.A).N < 0 ∨ ((nth m.Tables i.N.toNat).length : Int) ≤ (s.r i.A).N then (2, next, s) else (0, nth (nth m.Tables i.N.toNat) (s.r i.A).N.toNat, s)) else
  if (s.r i.A).C = true ∨ (s.r i.B).C = true then (4, next, s) else
  if takenN i.K (s.r i.A).N (s.r i.B).N then (0, s.pc + i.N, s) else (0, next, s)
def flowsN (K : Int) : Bool := decide (K ≤ 3) || decide (18 ≤ K)
/-- one instruction of n bytes: how it ends the run (0: it does not), and the machine -/
def stepS (m : Img) (s : Mach) (i : Ins) (n : Int) : Int × Mach :=
  if flowsN i.K then (if (flowS m s i (s.pc + n)).1 = 0 then (0, { (flowS m s i (s.pc + n)).2.2 with pc := (flowS m s i (s.pc + n)).2.1 }) else ((flowS m s i (s.pc + n)).1, s))
  else (if (doS s i).1 = 0 then (0, { (doS s i).2 with pc := s.pc + n }) else ((doS s i).1, s))
/-- a run of k steps at most: how it ends, how many steps are left, the machine -/
def runS (m : Img) : Nat → Mach → Int × Nat × Mach
  | 0, s => (3, 0, s)
  | k + 1, s =>
    if (decAns m.Text s.pc).2.2 ≠ 0 then (2, k + 1, s) else
    if (stepS m s (decAns m.Text s.pc).1 (decAns m.Text s.pc).2.1).1 = 0 then runS m k (stepS m s (decAns m.Text s.pc).1 (decAns m.Text s.pc).2.1).2
    else ((stepS m s (decAns m.Text s.pc).1 (decAns m.Text s.pc).2.1).1, k + 1, s)
/-- an instruction's parts are what they may be -/
def InsOk (i : Ins) : Prop := 0 ≤ i.D ∧ i.D < 8 ∧ 0 ≤ i.A ∧ i.A < 8 ∧ 0 ≤ i.B ∧ i.B < 8 ∧ InM i.N ∧ 1 ≤ i.K ∧ i.K ≤ 24 ∧ (i.K = 24 → 0 ≤ i.N)
/-- a machine's parts are what they may be -/
structure MachOk (s : Mach) : Prop where
  regs : s.regs.length = 8
  regN : ∀ v, v ∈ s.regs → InM v.N
  datN : ∀ v, v ∈ s.data → InM v.N
  inpN : ∀ x, x ∈ s.inp → InM x
  pc : InM s.pc
theorem r_in {s : Mach} (h : MachOk s) {a : Int} (h0 : 0 ≤ a) (h1 : a < 8) : InM (s.r a).N := by
  unfold Mach.r
  have hl : a.toNat < s.regs.length := by rw [h.regs]; omega
  rw [nth_eq _ _ hl]
  exact h.regN _ (List.getElem_mem hl)
theorem mem_set {α : Type} {l : List α} {k : Nat} {x y : α} (h : y ∈ l.set k x) : y = x ∨ y ∈ l := by
  rcases List.mem_or_eq_of_mem_set h with h | h
  · exact Or.inr h
  · exact Or.inl h
theorem put_ok {s : Mach} (h : MachOk s) (d : Int) {v : Vl} (hv : InM v.N) : MachOk (s.put d v) :=
  ⟨by simp [Mach.put, h.regs], fun x hx => by rcases mem_set hx with rfl | hx; exact hv; exact h.regN _ hx, h.datN, h.inpN, h.pc⟩
theorem doS_ok {s : Mach} {i : Ins} (h : MachOk s) (hi : InsOk i) : MachOk (doS s i).2 := by
  obtain ⟨d0, d1, a0, a1, b0, b1, hN, k0, k1, -⟩ := hi
  unfold doS memS
  repeat' split
  all_goals first
    | exact h
    | exact put_ok h _ hN
    | exact put_ok h _ (foldN_in _)
    | exact put_ok h _ (arithN_in _ _ _)
    | skip
  · rename_i hx _
    refine put_ok h _ ?_
    rw [nth_eq _ _ (by omega)]
    exact h.datN _ (List.getElem_mem _)
  · exact ⟨h.regs, h.regN, fun x hx => by rcases mem_set hx with rfl | hx; exact r_in h b0 b1; exact h.datN _ hx, h.inpN, h.pc⟩
  · refine put_ok (s := { s with inp := s.inp.tail }) ⟨h.regs, h.regN, h.datN, fun x hx => h.inpN _ (List.mem_of_mem_tail hx), h.pc⟩ _ ?_
    cases hin : s.inp with
    | nil => unfold InM; simp
    | cons x l => exact h.inpN _ (by rw [hin]; simp)
  · exact ⟨h.regs, h.regN, h.datN, h.inpN, h.pc⟩
theorem range_bd {r : Nat} {N : Int} {Lg : Bool} (h : rangeOk r N Lg) : -32768 ≤ N ∧ N ≤ 32767 := by
  unfold rangeOk at h
  split at h
  · exact h
  · split at h <;> omega
theorem fault_nil {d a b n lz : Bool} {r : Nat} {D A B N : Int} {Lg : Bool} (h : fault d a b n lz r D A B N Lg = 0) : regsOk D A B ∧ rangeOk r N Lg ∧ ¬ (Lg = true ∧ lz = true) := by
  unfold fault at h
  split at h
  · exact absurd h (by decide)
  · rename_i h1
    split at h
    · exact absurd h (by decide)
    · rename_i h2
      split at h
      · exact absurd h (by decide)
      · rename_i h3
        exact ⟨Decidable.not_not.mp h2, Decidable.not_not.mp h3, fun e => h1 (Or.inr (Or.inr (Or.inr (Or.inr e))))⟩
theorem ins_ok {i : Ins} (h : insFault i.K i.D i.A i.B i.N i.Lg = 0) : InsOk i ∧ -32768 ≤ i.N ∧ i.N ≤ 32767 := by
  unfold insFault at h
  have key : ∀ {d a b n lz : Bool} {r : Nat}, 1 ≤ i.K → i.K ≤ 24 → fault d a b n lz r i.D i.A i.B i.N i.Lg = 0 → (i.K = 24 → r = 1 ∧ lz = true) → InsOk i ∧ -32768 ≤ i.N ∧ i.N ≤ 32767 := by
    intro d a b n lz r h1 h2 h3 h4
    obtain ⟨g1, g2, g3⟩ := fault_nil h3
    have g4 := range_bd g2
    unfold regsOk at g1
    refine ⟨⟨g1.1, g1.2.1, g1.2.2.1, g1.2.2.2.1, g1.2.2.2.2.1, g1.2.2.2.2.2, ?_, h1, h2, fun e => ?_⟩, g4⟩
    · unfold InM; omega
    · obtain ⟨e1, e2⟩ := h4 e
      subst e1
      unfold rangeOk at g2
      rw [if_neg (by rintro (h | h); cases h; exact g3 ⟨h, e2⟩), if_pos rfl] at g2
      exact g2.1
  by_cases h0 : i.K < 1 ∨ 24 < i.K
  · rw [if_pos h0] at h
    exact absurd h (by decide)
  · rw [if_neg h0] at h
    have h1 : 1 ≤ i.K := by omega
    have h2 : i.K ≤ 24 := by omega
    by_cases c4 : i.K ≤ 4
    · rw [if_pos c4] at h
      exact key h1 h2 h (fun e => absurd e (by omega))
    rw [if_neg c4] at h
    by_cases c5 : i.K ≤ 5
    · rw [if_pos c5] at h
      exact key h1 h2 h (fun e => absurd e (by omega))
    rw [if_neg c5] at h
    by_cases c6 : i.K ≤ 6
    · rw [if_pos c6] at h
      exact key h1 h2 h (fun e => absurd e (by omega))
    rw [if_neg c6] at h
    by_cases c13 : i.K ≤ 13
    · rw [if_pos c13] at h
      exact key h1 h2 h (fun e => absurd e (by omega))
    rw [if_neg c13] at h
    by_cases c14 : i.K ≤ 14
    · rw [if_pos c14] at h
      exact key h1 h2 h (fun e => absurd e (by omega))
    rw [if_neg c14] at h
    by_cases c15 : i.K ≤ 15
    · rw [if_pos c15] at h
      exact key h1 h2 h (fun e => absurd e (by omega))
    rw [if_neg c15] at h
    by_cases c16 : i.K ≤ 16
    · rw [if_pos c16] at h
      exact key h1 h2 h (fun e => absurd e (by omega))
    rw [if_neg c16] at h
    by_cases c17 : i.K ≤ 17
    · rw [if_pos c17] at h
      exact key h1 h2 h (fun e => absurd e (by omega))
    rw [if_neg c17] at h
    by_cases c21 : i.K ≤ 21
    · rw [if_pos c21] at h
      exact key h1 h2 h (fun e => absurd e (by omega))
    rw [if_neg c21] at h
    by_cases c22 : i.K ≤ 22
    · rw [if_pos c22] at h
      exact key h1 h2 h (fun e => absurd e (by omega))
    rw [if_neg c22] at h
    by_cases c23 : i.K ≤ 23
    · rw [if_pos c23] at h
      exact key h1 h2 h (fun e => absurd e (by omega))
    rw [if_neg c23] at h
    by_cases c24 : i.K ≤ 24
    · rw [if_pos c24] at h
      exact key h1 h2 h (fun e => ⟨rfl, rfl⟩)
    rw [if_neg c24] at h
    omega
theorem sizeT_five (s : Nat) : 0 ≤ sizeT s ∧ sizeT s ≤ 4 := by
  unfold sizeT
  by_cases h : s < 12
  · rcases (show s = 0 ∨ s = 1 ∨ s = 2 ∨ s = 3 ∨ s = 4 ∨ s = 5 ∨ s = 6 ∨ s = 7 ∨ s = 8 ∨ s = 9 ∨ s = 10 ∨ s = 11 by omega) with rfl | rfl | rfl | rfl | rfl | rfl | rfl | rfl | rfl | rfl | rfl | rfl <;> decide
  · rw [List.getD_eq_getElem?_getD, List.getElem?_eq_none (by simp; omega)]
    simp
theorem decAns_ok {l : List UInt8} {x : Int} (h : (decAns l x).2.2 = 0) : 0 ≤ x ∧ x < (l.length : Int) ∧ InsOk (decAns l x).1 ∧ -32768 ≤ (decAns l x).1.N ∧ (decAns l x).1.N ≤ 32767 ∧ 0 ≤ (decAns l x).2.1 ∧ (decAns l x).2.1 ≤ 5 := by
  unfold decAns at h ⊢
  split at h
  · exact absurd h (by decide)
  · rename_i hx
    rw [if_neg hx]
    dsimp only at h ⊢
    split at h
    · exact absurd h (by decide)
    · rename_i hq
      rw [if_neg hq]
      split at h
      · exact absurd h (by decide)
      · rename_i hl
        rw [if_neg hl]
        split at h
        · rename_i hf
          rw [if_pos hf]
          have hi := ins_ok hf
          have hs : 0 ≤ insSize (kindOf (byteAt l x.toNat)).1 (kindOf (byteAt l x.toNat)).2 ∧ insSize (kindOf (byteAt l x.toNat)).1 (kindOf (byteAt l x.toNat)).2 ≤ 5 := by
            unfold insSize
            have := sizeT_five (shapeN (kindOf (byteAt l x.toNat)).1)
            split <;> omega
          exact ⟨by omega, by omega, hi.1, hi.2.1, hi.2.2, hs.1, hs.2⟩
        · exact absurd h (by decide)
end Go.Proofs.YtpgifkhgefbnfaaDoor
