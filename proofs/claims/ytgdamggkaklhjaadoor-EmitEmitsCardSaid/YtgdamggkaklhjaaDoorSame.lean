/-
What isa.Check and the document's InstrFault answer; and the
-/
import Derived.Test.YtgdamggkaklhjaaDoorRegHead
import Derived.Test.YtgdamggkaklhjaaDoorOwn
import Derived.BigQuiet
import Derived.Deep.RegionHeld3
import Derived.Lib.BufferRead
set_option linter.all false
section
namespace Go.Proofs.YtgdamggkaklhjaaDoor
open Go.RowKit BH

def opT (k : Nat) : Int := [0, 0, 1, 2, 3, 16, 17, 32, 33, 34, 35, 36, 37, 38, 48, 49, 64, 65, 80, 81, 82, 83, 96, 98, 99].getD k 0
def longT (k : Nat) : Int := [0, 0, 0, 0, 0, 0, 0, 0, 0, 0, 0, 0, 0, 0, 0, 0, 0, 0, 84, 85, 86, 87, 97, 0, 0].getD k 0
def shapeT (k : Nat) : Int := [0, 1, 1, 1, 1, 2, 3, 4, 4, 4, 4, 4, 4, 4, 3, 5, 6, 7, 8, 8, 8, 8, 9, 10, 11].getD k 0
def sizeT (s : Nat) : Int := [0, 1, 4, 3, 3, 3, 2, 2, 3, 2, 3, 3].getD s 0
def Tab (w : World) : Prop := ∀ k, k < 25 → w.cell? ⟨1, k * 3, none⟩ = some (.int .u8 (opT k)) ∧ w.cell? ⟨1, k * 3 + 1, none⟩ = some (.int .u8 (longT k)) ∧ w.cell? ⟨1, k * 3 + 2, none⟩ = some (.int .i64 (shapeT k))
theorem Tab.keep {w w' : World} (h : Tab w) (hk : Keeps w w') : Tab w' := fun k hk' => ⟨hk.cell (h k hk').1, hk.cell (h k hk').2.1, hk.cell (h k hk').2.2⟩

def rangeOk (r : Nat) (N : Int) (Lg : Bool) : Prop :=
 if r = 0 ∨ Lg = true then -32768 ≤ N ∧ N ≤ 32767 else if r = 1 then 0 ≤ N ∧ N ≤ 19 else -128 ≤ N ∧ N ≤ 127
instance (r : Nat) (N : Int) (Lg : Bool) : Decidable (rangeOk r N Lg) := by unfold rangeOk; exact inferInstance
def regsOk (D A B : Int) : Prop := 0 ≤ D ∧ D < 8 ∧ 0 ≤ A ∧ A < 8 ∧ 0 ≤ B ∧ B < 8
instance (D A B : Int) : Decidable (regsOk D A B) := by unfold regsOk; exact inferInstance
def fault (d a b n lz : Bool) (r : Nat) (D A B N : Int) (Lg : Bool) : Int :=
 if (d = false ∧ D ≠ 0) ∨ (a = false ∧ A ≠ 0) ∨ (b = false ∧ B ≠ 0) ∨ (n = false ∧ N ≠ 0) ∨ (Lg = true ∧ lz = true) then 4
 else if ¬ regsOk D A B then 2
 else if ¬ rangeOk r N Lg then 2 else 0
def insFault (K D A B N : Int) (Lg : Bool) : Int :=
 if K < 1 ∨ 24 < K then 3
 else if K ≤ 4 then fault false false false false true 2 D A B N Lg
 else if K ≤ 5 then fault true false false true true 0 D A B N Lg
 else if K ≤ 6 then fault true true false true true 2 D A B N Lg
 else if K ≤ 13 then fault true true true false true 2 D A B N Lg
 else if K ≤ 14 then fault true true false true true 2 D A B N Lg
 else if K ≤ 15 then fault false true true true true 2 D A B N Lg
 else if K ≤ 16 then fault true false false false true 2 D A B N Lg
 else if K ≤ 17 then fault false true false false true 2 D A B N Lg
 else if K ≤ 21 then fault false true true true false 2 D A B N Lg
 else if K ≤ 22 then fault false false false true false 2 D A B N Lg
 else if K ≤ 23 then fault false false false true true 0 D A B N Lg
 else if K ≤ 24 then fault false true false true true 1 D A B N Lg
 else 0
theorem insFault_bad {K D A B N : Int} {Lg : Bool} (h : K < 1 ∨ 24 < K) : insFault K D A B N Lg = 3 := by unfold insFault; rw [if_pos h]
def kindsL : List (Nat × Nat × Int × Bool × Bool × Bool × Bool × Bool × Nat) :=
 [(1, 4, 1, false, false, false, false, true, 2),
  (5, 5, 2, true, false, false, true, true, 0),
  (6, 6, 3, true, true, false, true, true, 2),
  (7, 13, 4, true, true, true, false, true, 2),
  (14, 14, 3, true, true, false, true, true, 2),
  (15, 15, 5, false, true, true, true, true, 2),
  (16, 16, 6, true, false, false, false, true, 2),
  (17, 17, 7, false, true, false, false, true, 2),
  (18, 21, 8, false, true, true, true, false, 2),
  (22, 22, 9, false, false, false, true, false, 2),
  (23, 23, 10, false, false, false, true, true, 0),
  (24, 24, 11, false, true, false, true, true, 1)]
theorem kinds (k : Nat) (h1 : 1 ≤ k) (h2 : k ≤ 24) : ∃ lo hi s d a b n lz r, (lo, hi, s, d, a, b, n, lz, r) ∈ kindsL ∧ lo ≤ k ∧ k ≤ hi ∧ shapeT k = s ∧ (longT k == 0) = lz := by
 have h : ∀ k, k < 25 → 1 ≤ k → ∃ x ∈ kindsL, x.1 ≤ k ∧ k ≤ x.2.1 ∧ shapeT k = x.2.2.1 ∧ (longT k == 0) = x.2.2.2.2.2.2.2.1 := by decide
 obtain ⟨⟨_, _, _, _, _, _, _, _, _⟩, q⟩ := h k jo h1
 exact ⟨_, _, _, _, _, _, _, _, _, q⟩
theorem rows {lo hi : Nat} {s : Int} {d a b n lz : Bool} {r : Nat} (hm : (lo, hi, s, d, a, b, n, lz, r) ∈ kindsL) : (lo = 1 ∧ hi = 4 ∧ s = 1 ∧ d = false ∧ a = false ∧ b = false ∧ n = false ∧ lz = true ∧ r = 2) ∨ (lo = 5 ∧ hi = 5 ∧ s = 2 ∧ d = true ∧ a = false ∧ b = false ∧ n = true ∧ lz = true ∧ r = 0) ∨ (lo = 6 ∧ hi = 6 ∧ s = 3 ∧ d = true ∧ a = true ∧ b = false ∧ n = true ∧ lz = true ∧ r = 2) ∨ (lo = 7 ∧ hi = 13 ∧ s = 4 ∧ d = true ∧ a = true ∧ b = true ∧ n = false ∧ lz = true ∧ r = 2) ∨ (lo = 14 ∧ hi = 14 ∧ s = 3 ∧ d = true ∧ a = true ∧ b = false ∧ n = true ∧ lz = true ∧ r = 2) ∨ (lo = 15 ∧ hi = 15 ∧ s = 5 ∧ d = false ∧ a = true ∧ b = true ∧ n = true ∧ lz = true ∧ r = 2) ∨ (lo = 16 ∧ hi = 16 ∧ s = 6 ∧ d = true ∧ a = false ∧ b = false ∧ n = false ∧ lz = true ∧ r = 2) ∨ (lo = 17 ∧ hi = 17 ∧ s = 7 ∧ d = false ∧ a = true ∧ b = false ∧ n = false ∧ lz = true ∧ r = 2) ∨ (lo = 18 ∧ hi = 21 ∧ s = 8 ∧ d = false ∧ a = true ∧ b = true ∧ n = true ∧ lz = false ∧ r = 2) ∨ (lo = 22 ∧ hi = 22 ∧ s = 9 ∧ d = false ∧ a = false ∧ b = false ∧ n = true ∧ lz = false ∧ r = 2) ∨ (lo = 23 ∧ hi = 23 ∧ s = 10 ∧ d = false ∧ a = false ∧ b = false ∧ n = true ∧ lz = true ∧ r = 0) ∨ (lo = 24 ∧ hi = 24 ∧ s = 11 ∧ d = false ∧ a = true ∧ b = false ∧ n = true ∧ lz = true ∧ r = 1) := by
 simpa [kindsL] using hm
section
variable {lo hi : Nat} {s : Int} {d a b n lz : Bool} {r : Nat} (hm : (lo, hi, s, d, a, b, n, lz, r) ∈ kindsL)
include hm
theorem insFault_row {k : Nat} (h1 : lo ≤ k) (h2 : k ≤ hi) (D A B N : Int) (Lg : Bool) : insFault k D A B N Lg = fault d a b n lz r D A B N Lg := by
 unfold insFault
 rcases rows hm with h | h | h | h | h | h | h | h | h | h | h | h
 all_goals
  obtain ⟨rfl, rfl, -, rfl, rfl, rfl, rfl, rfl, rfl⟩ := h
  repeat first | rw [if_pos jo] | rw [if_neg jo]
set_option maxHeartbeats 1000000
set_option maxRecDepth 100000
omit hm in
theorem reg_any (n : Int) (w : World) : Calls Tryd.prog 77 #[.int .i64 n] w fun e w' => e = .returned (.bool (decide (0 ≤ n ∧ n < 8))) ∧ w = w' := by
 go_enter Tryd.func77, Tryd.ntmps77
 go_wp2
 all_goals
  go_ret
  exact ⟨by simp <;> omega, rfl⟩
omit hm in
theorem within_any (n lo hi : Int) (w : World) : Calls Tryd.prog 79 #[.int .i64 n, .int .i64 lo, .int .i64 hi] w fun e w' => e = .returned (.bool (decide (lo ≤ n ∧ n ≤ hi))) ∧ w = w' := by
 go_enter Tryd.func79, Tryd.ntmps79
 go_wp2
 all_goals
  go_ret
  exact ⟨by simp <;> omega, rfl⟩
omit hm in
theorem near_any (n : Int) (w : World) : Calls Tryd.prog 80 #[.int .i64 n] w fun e w' => e = .returned (.bool (decide (-128 ≤ n ∧ n ≤ 127))) ∧ w = w' := by
 go_enter Tryd.func80, Tryd.ntmps80
 go_wp2_with (go_at_call 79; refine (within_any _ _ _ _).mono ?_; rintro e w' ⟨rfl, rfl⟩)
 go_ret
 exact ⟨by simp, rfl⟩
omit hm in
theorem far_any (n : Int) (w : World) : Calls Tryd.prog 78 #[.int .i64 n] w fun e w' => e = .returned (.bool (decide (-32768 ≤ n ∧ n ≤ 32767))) ∧ w = w' := by
 go_enter Tryd.func78, Tryd.ntmps78
 go_wp2_with (go_at_call 79; refine (within_any _ _ _ _).mono ?_; rintro e w' ⟨rfl, rfl⟩)
 go_ret
 exact ⟨by simp, rfl⟩
omit hm in
theorem inR_any (n lo hi : Int) (w : World) : Calls Tryd.prog 20 #[.int .i64 n, .int .i64 lo, .int .i64 hi] w fun e w' => e = .returned (.bool (decide (lo ≤ n ∧ n ≤ hi))) ∧ w = w' := by
 go_enter Tryd.func20, Tryd.ntmps20
 go_wp2
 all_goals
  go_ret
  exact ⟨by simp <;> omega, rfl⟩
def insV (K D A B N : Int) (Lg : Bool) : Value := .agg #[.int .i64 K, .int .i64 D, .int .i64 A, .int .i64 B, .int .i64 N, .bool Lg]
theorem operands_any (K D A B N : Int) (Lg : Bool) (w : World) :
  Calls Tryd.prog 76 #[insV K D A B N Lg, .int .i64 s] w fun e w' => e = .returned (.tuple #[.bool d, .bool a, .bool b, .bool n]) ∧ w.alloc (.cells #[.int .i64 K, .int .i64 D, .int .i64 A, .int .i64 B, .int .i64 N, .bool Lg] 64) = w' := by
 unfold insV
 rcases rows hm with h | h | h | h | h | h | h | h | h | h | h | h
 all_goals
  obtain ⟨-, -, rfl, rfl, rfl, rfl, rfl, -, -⟩ := h
  go_enter Tryd.func76, Tryd.ntmps76
  go_wp2
  exact bodyPost_ret (v := .tuple #[.bool _, .bool _, .bool _, .bool _]) (by simp [results, Tryd.results76, go_sem]) rfl ⟨rfl, rfl⟩
theorem has_any {k : Nat} (h1 : lo ≤ k) (h2 : k ≤ hi) (w : World) :
  Calls Tryd.prog 68 #[.int .i64 k] w fun e w' => e = .returned (.tuple #[.bool d, .bool a, .bool b, .bool n]) ∧ w = w' := by
 rcases rows hm with h | h | h | h | h | h | h | h | h | h | h | h
 all_goals
  obtain ⟨rfl, rfl, -, rfl, rfl, rfl, rfl, -, -⟩ := h
  go_enter Tryd.func68, Tryd.ntmps68
  go_wp2
  all_goals exact bodyPost_ret (v := .tuple #[.bool _, .bool _, .bool _, .bool _]) (by simp [results, Tryd.results68, go_sem]) rfl ⟨rfl, rfl⟩
end
theorem opOf_any (k : Nat) (h1 : 1 ≤ k) (h2 : k ≤ 24) (w : World) :
  Calls Tryd.prog 45 #[.int .i64 k] w fun e w' => e = .returned (.tuple #[.int .i64 (opT k), .int .i64 (longT k)]) ∧ w = w' := by
 have h : ∀ k : Nat, k < 25 → 1 ≤ k → opT k = (if k ≤ 4 then k - 1 else if k ≤ 6 then 11 + k else if k ≤ 13 then 25 + k else if k ≤ 15 then 34 + k else if k ≤ 17 then 48 + k else if k ≤ 21 then 62 + k else if k ≤ 22 then 96 else 75 + k : Int) ∧ longT k = (if k ≤ 17 then 0 else if k ≤ 21 then 66 + k else if k ≤ 22 then 97 else 0 : Int) := by decide
 have H := jH (h k jo h1)
 clear h
 go_enter Tryd.func45, Tryd.ntmps45
 go_wp2
 all_goals
  go_ret2
  have g := H.out
  clear H
  refine ⟨?_, rfl⟩
  simp at *
  rw [g.1, g.2]
  repeat first | rw [if_pos jo] | rw [if_neg jo]
  try omega
set_option maxHeartbeats 1000000
set_option maxRecDepth 100000

theorem run_string_of {P : Program} {w : World} {v : Value} {l : List UInt8} (h : Bytes w v l) {src dst e : TypeId} (hs : P.underlying src = some (.slice e)) (he : P.underlying e = some (.int .u8)) (hd : P.underlying dst = some .string) :
  (convert src dst v).run P w = .ok (.string ⟨l.toArray⟩) w := by
 obtain ⟨ao, H2, rfl, -, -, -, hc⟩ := h
 cases ao with
 | none =>
  have hl : l = [] := by
   cases l with
   | nil => rfl
   | cons x r => obtain ⟨b, H3, H1, _⟩ := hc (by simp); cases H1
  subst hl
  exact Lib.run_convert_nil_bytes w src dst e H2 hs he hd
 | some a =>
  refine run_convert_bytes_back w src dst e a H2 l hs he hd fun j hj => ?_
  obtain ⟨b, H3, H1, H0⟩ := hc jo
  cases H1
  have : w.cell? ⟨b, H3 + j * 1 + 0, none⟩ = some (.int .u8 ((nth l j).toNat : Int)) := H0 j 0 hj jo
  rw [nth_eq l j hj] at this
  rw [← this]
  unfold Addr.add
  split
  ·rename_i h0; subst h0; simp
  simp

theorem sameInts_yes (va vb : Value) (l : List Int) (w : World) (ha : Ints w va l) (hb : Ints w vb l) :
  Calls Tryd.prog 22 #[va, vb] w fun e w' => e = .returned (.bool true) ∧ Keeps w w' := by
 obtain ⟨ao, ca, rfl, a1, a2, -, a3⟩ := ha
 obtain ⟨bo, cb, rfl, b1, b2, -, b3⟩ := hb
 unfold maxLen at a2 b2
 go_enter Tryd.func22, Tryd.ntmps22
 go_wp2
 go_loopw [5] (fun i wr => ∃ k : Nat, k ≤ l.length ∧ i = .int .i64 k ∧ Keeps w wr) (fun i _ => l.length - (intOf i).toNat)
 case atStart => exact ⟨0, Nat.zero_le _, rfl, Keeps.refl _⟩
 case round =>
 obtain ⟨k, hk, rfl, H0⟩ := hrel
 by_cases hlt : k < l.length
 ·obtain ⟨ab, af, rfl, ac⟩ := a3 jo
  obtain ⟨bb, bf, rfl, bc⟩ := b3 jo
  have c1 := H0.cell (ac k 0 hlt jo)
  have c2 := H0.cell (bc k 0 hlt jo)
  simp only [Nat.mul_one, Nat.add_zero] at c1 c2
  clear a3 b3 ac bc
  go_wp2
  go_quiet (fail)
  go_wp2
  go_roundw
  case rel => exact ⟨k + 1, by omega, by go_num, H0.drewN _⟩
  case measure => exact jm
 clear a3 b3
 go_wp2
 go_ret
 exact ⟨rfl, H0⟩

theorem sameLists_yes (va vb : Value) (l : List (List Int)) (w : World) (ha : Tabs w va l) (hb : Tabs w vb l) :
  Calls Tryd.prog 23 #[va, vb] w fun e w' => e = .returned (.bool true) ∧ Keeps w w' := by
 obtain ⟨ta, ⟨ao, ca, rfl, a1, a2, -, a3⟩, ia⟩ := ha
 obtain ⟨tb, ⟨bo, cb, rfl, b1, b2, -, b3⟩, ib⟩ := hb
 unfold maxLen at a2 b2
 go_enter Tryd.func23, Tryd.ntmps23
 go_wp2
 go_loopw [5] (fun i wr => ∃ k : Nat, k ≤ l.length ∧ i = .int .i64 k ∧ Keeps w wr) (fun i _ => l.length - (intOf i).toNat)
 case atStart => exact ⟨0, Nat.zero_le _, rfl, Keeps.refl _⟩
 case round =>
 obtain ⟨k, hk, rfl, H0⟩ := hrel
 by_cases hlt : k < l.length
 ·obtain ⟨ab, af, rfl, ac⟩ := a3 jo
  obtain ⟨bb, bf, rfl, bc⟩ := b3 jo
  have c1 := H0.cell (ac k 0 hlt jo)
  have c2 := H0.cell (bc k 0 hlt jo)
  simp only [Nat.mul_one, Nat.add_zero] at c1 c2
  have hA := (ia k hlt).keep H0
  have hB := (ib k hlt).keep H0
  clear a3 b3 ac bc ia ib
  go_wp2
  go_region_held3 (fun w' => w'.cell? ⟨ab, af + k, none⟩ = some (ta k) ∧ w'.cell? ⟨bb, bf + k, none⟩ = some (tb k)) (first | go_keep | exact ⟨H1.cell (by assumption), H1.cell (by assumption)⟩) ((go_at_call 22; refine (sameInts_yes _ _ _ _ (hA.keep (Keeps.drewN (Keeps.refl _) _)) (hB.keep (Keeps.drewN (Keeps.refl _) _))).mono ?_; rintro e w' ⟨rfl, H1⟩))
  go_wp2
  go_roundw
  case rel => exact ⟨k + 1, by omega, by go_num, (H0.drewN _).trans H1⟩
  case measure => exact jm
 clear a3 b3
 go_wp2
 go_ret
 exact ⟨rfl, H0⟩

theorem sameImage_yes (va vb : Value) (m : Img) (w : World) (ha : ImgAt w va m) (hb : ImgAt w vb m) :
  Calls Tryd.prog 7 #[va, vb] w fun e w' => e = .returned (.bool true) ∧ Keeps w w' := by
 obtain ⟨a0, a1, a2, a3, a4, rfl, ab, af, Hi, ad, al⟩ := ha
 obtain ⟨b0, b1, b2, b3, b4, rfl, bb, bf, bt, bd, bl⟩ := hb
 go_enter Tryd.func7, Tryd.ntmps7
 go_wp2_with fail
 rw [run_string_of (Arr.keep ab (((Keeps.refl w).alloc _).alloc _)) Tryd.underlying22 Tryd.underlying5 Tryd.underlying9]
 go_wp2_with fail
 rw [run_string_of (Arr.keep bb (((Keeps.refl w).alloc _).alloc _)) Tryd.underlying22 Tryd.underlying5 Tryd.underlying9]
 obtain ⟨ao, ac, rfl, af1, Hm, -, He⟩ := af
 obtain ⟨bo, bc, rfl, bf1, bf2, -, Hf⟩ := bf
 obtain ⟨co, cc, rfl, al1, Hn, -, Hb⟩ := al
 obtain ⟨Hj, dc, rfl, bl1, bl2, -, Hc⟩ := bl
 unfold maxLen at Hm Hn
 go_wp2_with fail
 refine (sameInts_yes _ _ m.Data _ (Arr.keep ad (((Keeps.refl w).alloc _).alloc _)) (Arr.keep bd (((Keeps.refl w).alloc _).alloc _))).mono ?_
 rintro e w1 ⟨rfl, H3⟩
 have p1 := jv w1 w.heap.size 1 (.slice ao m.Funcs.length ac) (H3.cell (by simp))
 have p2 : w1.cell? ⟨w.heap.size, 2, none⟩ = some a2 := H3.cell (by simp)
 have p4 := jv w1 w.heap.size 4 (.slice co m.Lines.length cc) (H3.cell (by simp))
 have q1 := jv w1 (w.heap.size + 1) 1 (.slice bo m.Funcs.length bc) (H3.cell (by simp))
 have q2 : w1.cell? ⟨w.heap.size + 1, 2, none⟩ = some b2 := H3.cell (by simp)
 have q4 := jv w1 (w.heap.size + 1) 4 (.slice Hj m.Lines.length dc) (H3.cell (by simp))
 have H1 : Keeps w w1 := (((Keeps.refl w).alloc _).alloc _).trans H3
 go_wp2_with fail
 refine (sameLists_yes _ _ m.Tables _ (Hi.keep H1) (bt.keep H1)).mono ?_
 rintro e w2 ⟨rfl, H6⟩
 have r1 := jv w2 w.heap.size 1 (.slice ao m.Funcs.length ac) (H6.cell p1)
 have r4 := jv w2 w.heap.size 4 (.slice co m.Lines.length cc) (H6.cell p4)
 have s1 := jv w2 (w.heap.size + 1) 1 (.slice bo m.Funcs.length bc) (H6.cell q1)
 have s4 := jv w2 (w.heap.size + 1) 4 (.slice Hj m.Lines.length dc) (H6.cell q4)
 have H9 : Keeps w w2 := H1.trans H6
 clear p1 p2 p4 q1 q2 q4 H3 H6 H1 ab ad Hi bb bd bt
 go_wp2_with fail
 go_loopw [5] (fun i wr => ∃ k : Nat, k ≤ m.Funcs.length ∧ i = .int .i64 k ∧ Keeps w2 wr) (fun i _ => m.Funcs.length - (intOf i).toNat)
 case atStart => exact ⟨0, Nat.zero_le _, rfl, Keeps.refl _⟩
 case round =>
 obtain ⟨k, hk, rfl, H0⟩ := hrel
 have Hk := H0.cell r1
 have Hg := H0.cell r4
 have Hl := H0.cell s1
 have Hh := H0.cell s4
 by_cases hlt : k < m.Funcs.length
 ·obtain ⟨ab, H7, rfl, H4⟩ := He jo
  obtain ⟨bb, H8, rfl, H5⟩ := Hf jo
  have H2 := H9.trans H0
  have c0 := jv wr ab (H7 + k * 3) (.string (nth m.Funcs k).Name) (H2.cell (H4 k 0 hlt jo))
  have c1 := jc wr ab (H7 + k * 3 + 1) ((nth m.Funcs k).Start) (H2.cell (H4 k 1 hlt jo))
  have c2 := jc wr ab (H7 + k * 3 + 2) ((nth m.Funcs k).Size) (H2.cell (H4 k 2 hlt jo))
  have d0 := jv wr bb (H8 + k * 3) (.string (nth m.Funcs k).Name) (H2.cell (H5 k 0 hlt jo))
  have d1 := jc wr bb (H8 + k * 3 + 1) ((nth m.Funcs k).Start) (H2.cell (H5 k 1 hlt jo))
  have d2 := jc wr bb (H8 + k * 3 + 2) ((nth m.Funcs k).Size) (H2.cell (H5 k 2 hlt jo))
  clear He Hf Hb Hc H4 H5 r1 r4 s1 s4
  go_wp2
  go_quiet (fail)
  go_wp2
  go_roundw
  case rel => exact ⟨k + 1, by omega, by go_num, H0.drewN _⟩
  case measure => exact jm
 clear He Hf r1 r4 s1 s4
 have H2 := H9.trans H0
 obtain ⟨wo, rfl⟩ := jE wr
 go_wp2
 go_loopw [6] (fun i wx => ∃ j : Nat, j ≤ m.Lines.length ∧ i = .int .i64 j ∧ Keeps wo wx) (fun i _ => m.Lines.length - (intOf i).toNat)
 case atStart => exact ⟨0, Nat.zero_le _, rfl, Keeps.refl _⟩
 case round =>
 obtain ⟨j, hj, rfl, Ha⟩ := hrel
 have x4 := Ha.cell Hg
 have y4 := Ha.cell Hh
 by_cases hlt' : j < m.Lines.length
 ·obtain ⟨ab, H7, rfl, H4⟩ := Hb jo
  obtain ⟨bb, H8, rfl, H5⟩ := Hc jo
  have Hd := H2.trans Ha
  have c0 := jc wr ab (H7 + j * 2) ((nth m.Lines j).At) (Hd.cell (H4 j 0 hlt' jo))
  have c1 := jc wr ab (H7 + j * 2 + 1) ((nth m.Lines j).N) (Hd.cell (H4 j 1 hlt' jo))
  have d0 := jc wr bb (H8 + j * 2) ((nth m.Lines j).At) (Hd.cell (H5 j 0 hlt' jo))
  have d1 := jc wr bb (H8 + j * 2 + 1) ((nth m.Lines j).N) (Hd.cell (H5 j 1 hlt' jo))
  clear Hb Hc H4 H5 Hk Hg Hl Hh
  go_wp2
  go_quiet (fail)
  go_wp2
  go_roundw
  case rel => exact ⟨j + 1, by omega, by go_num, Ha.drewN _⟩
  case measure => exact jm
 clear Hb Hc Hk Hg Hl Hh
 go_wp2
 go_ret
 exact ⟨rfl, H2.trans Ha⟩
end Go.Proofs.YtgdamggkaklhjaaDoor
end
