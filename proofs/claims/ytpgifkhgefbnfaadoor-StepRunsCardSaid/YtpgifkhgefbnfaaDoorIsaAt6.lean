/-
  step.machine in memory; what its methods read: number, numbers, address.
  The machine's memory while it runs: stores.
  The document's InstrAt at every address, of whatever bytes.
-/
import Derived.Test.YtpgifkhgefbnfaaDoorStepSpec
import Derived.Test.YtpgifkhgefbnfaaDoorFoot
import Derived.Deep.QuietTactic
import Derived.BigQuiet
import Derived.OwnWalk
import Derived.Test.YtpgifkhgefbnfaaDoorIsaDec7
import Derived.Test.YtpgifkhgefbnfaaDoorIsaAt2
import Derived.Test.YtpgifkhgefbnfaaDoorIsaAt3
import Derived.Test.YtpgifkhgefbnfaaDoorIsaAt4
import Derived.Test.YtpgifkhgefbnfaaDoorIsaAt5
section
namespace Go.Proofs.YtpgifkhgefbnfaaDoor
open Go.RowKit BH
set_option maxHeartbeats 4000000
set_option maxRecDepth 100000
/-- the machine's cells: the image's (h), the registers, data, inputs, place, what it has told, how it ended, steps, where -/
def mCells (h : List Value) (s : Mach) (vd vi vt : Value) (en st at2 : Int) : Array Value := (h ++ s.regs.flatMap cvl ++ [vd, vi, .int .i64 s.pc, vt, .int .i64 en, .int .i64 st, .int .i64 at2]).toArray
theorem flat_len (l : List Vl) : (l.flatMap cvl).length = l.length * 2 := flatMap_len cvl_len l
theorem mCells_reg {h : List Value} {s : Mach} {vd vi vt : Value} {en st at2 : Int} (hh : h.length = 6) {r : Nat} (hr : r < s.regs.length) :
    (mCells h s vd vi vt en st at2)[6 + r * 2]? = some (.int .i64 (nth s.regs r).N) ∧ (mCells h s vd vi vt en st at2)[6 + r * 2 + 1]? = some (.bool (nth s.regs r).C) := by
  have key : ∀ j, j < 2 → (mCells h s vd vi vt en st at2)[6 + r * 2 + j]? = (cvl (nth s.regs r))[j]? := by
    intro j hj
    unfold mCells
    rw [List.getElem?_toArray, List.getElem?_append_left (by rw [List.length_append, flat_len, hh]; omega), List.getElem?_append_right (by omega), hh, show 6 + r * 2 + j - 6 = r * 2 + j by omega]
    exact flatMap_at cvl_len _ _ _ hr hj
  exact ⟨key 0 (by decide), key 1 (by decide)⟩
theorem mCells_tail {h : List Value} {s : Mach} {vd vi vt : Value} {en st at2 : Int} (hh : h.length = 6) (h8 : s.regs.length = 8) (j : Nat) :
    (mCells h s vd vi vt en st at2)[22 + j]? = [vd, vi, .int .i64 s.pc, vt, .int .i64 en, .int .i64 st, .int .i64 at2][j]? := by
  unfold mCells
  rw [List.getElem?_toArray, List.getElem?_append_right (by rw [List.length_append, flat_len, hh, h8]; omega), List.length_append, flat_len, hh, h8, show 22 + j - (6 + 8 * 2) = j by omega]
theorem mCells_head {h : List Value} {s : Mach} {vd vi vt : Value} {en st at2 : Int} (hh : h.length = 6) {j : Nat} (hj : j < 6) :
    (mCells h s vd vi vt en st at2)[j]? = h[j]? := by
  unfold mCells
  rw [List.getElem?_toArray, List.getElem?_append_left (by rw [List.length_append, hh]; omega), List.getElem?_append_left (by omega)]
/-- a register, as it lies -/
def RegAt (w : World) (g : Nat) (r : Nat) (v : Vl) : Prop := w.cell? ⟨g, 6 + r * 2, none⟩ = some (.int .i64 v.N) ∧ w.cell? ⟨g, 6 + r * 2 + 1, none⟩ = some (.bool v.C)
theorem RegAt.keep {w w' : World} {g r : Nat} {v : Vl} (h : RegAt w g r v) (hk : Keeps w w') : RegAt w' g r v := ⟨hk.cell h.1, hk.cell h.2⟩
theorem number_mc (g r : Nat) (v : Vl) (w : World) (h : RegAt w g r v) (hr : r < 8) :
    Calls Tryd.prog 66 #[.pointer (some ⟨g, 0, none⟩), .int .i64 r] w fun e w' => e = .returned (.tuple #[.int .i64 v.N, .bool (!v.C)]) ∧ Keeps w w' := by
  obtain ⟨c0, c1⟩ := h
  go_enter Tryd.func66, Tryd.ntmps66
  go_wp2_with fail
  go_quiet (fail)
  go_wp2_with fail
  go_ret2
  exact ⟨rfl, (Keeps.refl w).drewN _⟩
theorem numbers_mc (g a b : Nat) (x y : Vl) (w : World) (hx : RegAt w g a x) (hy : RegAt w g b y) (ha : a < 8) (hb : b < 8) :
    Calls Tryd.prog 67 #[.pointer (some ⟨g, 0, none⟩), .int .i64 a, .int .i64 b] w fun e w' => e = .returned (.tuple #[.int .i64 x.N, .int .i64 y.N, .bool (!x.C && !y.C)]) ∧ Keeps w w' := by
  have H1 := Lib.hid (number_mc g a x w hx ha)
  have H2 := Lib.hid hy
  clear hx hy
  go_enter Tryd.func67, Tryd.ntmps67
  go_wp2_with fail
  refine H1.out.mono ?_
  rintro e w1 ⟨rfl, hk1⟩
  go_wp2_with fail
  refine (number_mc g b y w1 (H2.out.keep hk1) hb).mono ?_
  rintro e w2 ⟨rfl, hk2⟩
  obtain ⟨xN, xC⟩ := x
  obtain ⟨yN, yC⟩ := y
  cases xC <;> cases yC
  all_goals
    go_wp2_with fail
    go_ret3
    exact ⟨rfl, hk1.trans hk2⟩
theorem address_mc (g r : Nat) (n : Int) (v : Vl) (w : World) {ad : Option Addr} {L c : Nat} (h : RegAt w g r v) (hd : w.cell? ⟨g, 22, none⟩ = some (.slice ad L c)) (hr : r < 8) (hv : InM v.N) (hn : -32768 ≤ n ∧ n ≤ 32767) :
    Calls Tryd.prog 76 #[.pointer (some ⟨g, 0, none⟩), .int .i64 r, .int .i64 n] w fun e w' => e = .returned (.tuple #[.int .i64 (v.N + n), .bool (decide (0 ≤ v.N + n ∧ v.N + n < L))]) ∧ Keeps w w' := by
  unfold InM at hv
  have H1 := Lib.hid (number_mc g r v w h hr)
  have H2 := Lib.hid hd
  clear h hd
  go_enter Tryd.func76, Tryd.ntmps76
  go_wp2_with fail
  refine H1.out.mono ?_
  rintro e w1 ⟨rfl, hk1⟩
  have d0 := hk1.cell H2.out
  have s1 : IntKind.i64.wrap (v.N + n) = v.N + n := IntWalk.i64_in _ (by omega)
  by_cases h0 : 0 ≤ v.N + n
  · have t0 : decide (0 ≤ v.N + n) = true := by simpa using h0
    by_cases h1 : v.N + n < L
    · have E := Lib.hid (show decide (0 ≤ v.N + n ∧ v.N + n < L) = true by simp; omega)
      have t1 : decide (v.N + n < (L : Int)) = true := by simpa using h1
      go_wp2_with fail
      go_quiet (fail)
      go_wp2_with fail
      go_ret2
      exact ⟨by rw [E.out]; rfl, hk1.drewN _⟩
    · have E := Lib.hid (show decide (0 ≤ v.N + n ∧ v.N + n < L) = false by simp; omega)
      have t1 : decide (v.N + n < (L : Int)) = false := by simpa using h1
      go_wp2_with fail
      go_quiet (fail)
      go_wp2_with fail
      go_ret2
      exact ⟨by rw [E.out]; rfl, hk1.drewN _⟩
  · have E := Lib.hid (show decide (0 ≤ v.N + n ∧ v.N + n < L) = false by simp; omega)
    have t0 : decide (0 ≤ v.N + n) = false := by simpa using h0
    go_wp2_with fail
    go_quiet (fail)
    go_wp2_with fail
    go_ret2
    exact ⟨by rw [E.out]; rfl, hk1.drewN _⟩
end Go.Proofs.YtpgifkhgefbnfaaDoor
end
section
namespace Go.Proofs.YtpgifkhgefbnfaaDoor
open Go.RowKit BH
set_option maxHeartbeats 4000000
set_option maxRecDepth 100000
theorem flat_set : ∀ (l : List Vl) (k : Nat) (y : Vl), k < l.length → (l.set k y).flatMap cvl = ((l.flatMap cvl).set (k * 2) (.int .i64 y.N)).set (k * 2 + 1) (.bool y.C)
  | [], _, _, h => absurd h (Nat.not_lt_zero _)
  | x :: l, 0, y, _ => rfl
  | x :: l, k + 1, y, h => by
    have ih := flat_set l k y (by simpa using h)
    rw [List.set_cons_succ, List.flatMap_cons, List.flatMap_cons, ih, Nat.add_mul]
    rfl
theorem list6 {α : Type} {l : List α} (h : l.length = 6) : ∃ a b c d e f, l = [a, b, c, d, e, f] := by
  match l, h with
  | [a, b, c, d, e, f], _ => exact ⟨a, b, c, d, e, f, rfl⟩
theorem list8 {α : Type} {l : List α} (h : l.length = 8) : ∃ a b c d e f g i, l = [a, b, c, d, e, f, g, i] := by
  match l, h with
  | [a, b, c, d, e, f, g, i], _ => exact ⟨a, b, c, d, e, f, g, i, rfl⟩
section
variable {h : List Value} {s : Mach} {vd vi vt : Value} {en st at2 : Int}
theorem mCells_put (hh : h.length = 6) (h8 : s.regs.length = 8) (d : Nat) (hd : d < 8) (v : Vl) :
    ((mCells h s vd vi vt en st at2).setIfInBounds (6 + d * 2) (.int .i64 v.N)).setIfInBounds (6 + d * 2 + 1) (.bool v.C) = mCells h (s.put d v) vd vi vt en st at2 := by
  obtain ⟨a, b, c, x, e, f, rfl⟩ := list6 hh
  obtain ⟨regs, data, inp, pc, told⟩ := s
  obtain ⟨r0, r1, r2, r3, r4, r5, r6, r7, rfl⟩ := list8 h8
  rcases (show d = 0 ∨ d = 1 ∨ d = 2 ∨ d = 3 ∨ d = 4 ∨ d = 5 ∨ d = 6 ∨ d = 7 by omega) with rfl | rfl | rfl | rfl | rfl | rfl | rfl | rfl <;> rfl
theorem mCells_in (hh : h.length = 6) (h8 : s.regs.length = 8) (v : Value) (l : List Int) : (mCells h s vd vi vt en st at2).setIfInBounds 23 v = mCells h { s with inp := l } vd v vt en st at2 := by
  obtain ⟨a, b, c, x, e, f, rfl⟩ := list6 hh
  obtain ⟨regs, data, inp, pc, told⟩ := s
  obtain ⟨r0, r1, r2, r3, r4, r5, r6, r7, rfl⟩ := list8 h8
  rfl
theorem mCells_pc (hh : h.length = 6) (h8 : s.regs.length = 8) (p : Int) : (mCells h s vd vi vt en st at2).setIfInBounds 24 (.int .i64 p) = mCells h { s with pc := p } vd vi vt en st at2 := by
  obtain ⟨a, b, c, x, e, f, rfl⟩ := list6 hh
  obtain ⟨regs, data, inp, pc, told⟩ := s
  obtain ⟨r0, r1, r2, r3, r4, r5, r6, r7, rfl⟩ := list8 h8
  rfl
theorem mCells_told (hh : h.length = 6) (h8 : s.regs.length = 8) (v : Value) (l : List Int) : (mCells h s vd vi vt en st at2).setIfInBounds 25 v = mCells h { s with told := l } vd vi v en st at2 := by
  obtain ⟨a, b, c, x, e, f, rfl⟩ := list6 hh
  obtain ⟨regs, data, inp, pc, told⟩ := s
  obtain ⟨r0, r1, r2, r3, r4, r5, r6, r7, rfl⟩ := list8 h8
  rfl
theorem mCells_end (hh : h.length = 6) (h8 : s.regs.length = 8) (p : Int) : (mCells h s vd vi vt en st at2).setIfInBounds 26 (.int .i64 p) = mCells h s vd vi vt p st at2 := by
  obtain ⟨a, b, c, x, e, f, rfl⟩ := list6 hh
  obtain ⟨regs, data, inp, pc, told⟩ := s
  obtain ⟨r0, r1, r2, r3, r4, r5, r6, r7, rfl⟩ := list8 h8
  rfl
theorem mCells_steps (hh : h.length = 6) (h8 : s.regs.length = 8) (p : Int) : (mCells h s vd vi vt en st at2).setIfInBounds 27 (.int .i64 p) = mCells h s vd vi vt en p at2 := by
  obtain ⟨a, b, c, x, e, f, rfl⟩ := list6 hh
  obtain ⟨regs, data, inp, pc, told⟩ := s
  obtain ⟨r0, r1, r2, r3, r4, r5, r6, r7, rfl⟩ := list8 h8
  rfl
theorem mCells_at (hh : h.length = 6) (h8 : s.regs.length = 8) (p : Int) : (mCells h s vd vi vt en st at2).setIfInBounds 28 (.int .i64 p) = mCells h s vd vi vt en st p := by
  obtain ⟨a, b, c, x, e, f, rfl⟩ := list6 hh
  obtain ⟨regs, data, inp, pc, told⟩ := s
  obtain ⟨r0, r1, r2, r3, r4, r5, r6, r7, rfl⟩ := list8 h8
  rfl
end
/-- one element of the call's own slice is stored anew -/
theorem Own.store {w : World} {base : Nat} {e : TypeId} {v : Value} {l : List Vl} (h : Own w base e 2 cvl v l) {k : Nat} (hk : k < l.length) (y : Vl) :
    ∃ b c, v = .slice (some ⟨b, 0, none⟩) l.length c ∧ base ≤ b ∧ b < w.heap.size ∧ l.length ≤ c ∧ (∃ cur, Blk w b (.cells cur e) ∧ cur[k * 2]? = some (.int .i64 (nth l k).N) ∧ cur[k * 2 + 1]? = some (.bool (nth l k).C)) ∧
      Own ((w.setCell ⟨b, k * 2, none⟩ (.int .i64 y.N)).setCell ⟨b, k * 2 + 1, none⟩ (.bool y.C)) base e 2 cvl v (l.set k y) := by
  obtain ⟨h1, h2⟩ := h
  rcases h2 with ⟨rfl, h0⟩ | ⟨b, cap, cur, rfl, hb, hg, hn, hc, hs, ht⟩
  · omega
  · have hlen : (l.flatMap cvl).length = l.length * 2 := flat_len l
    have hcell : ∀ j, j < 2 → cur[k * 2 + j]? = (cvl (nth l k))[j]? := by
      intro j hj
      have e1 := flatMap_at cvl_len l k j hk hj
      rw [← e1, ← ht, List.getElem?_take_of_lt (by omega), Array.getElem?_toList]
    have hB : Blk ((w.setCell ⟨b, k * 2, none⟩ (.int .i64 y.N)).setCell ⟨b, k * 2 + 1, none⟩ (.bool y.C)) b (.cells ((cur.setIfInBounds (k * 2) (.int .i64 y.N)).setIfInBounds (k * 2 + 1) (.bool y.C)) e) := Blk.set (Blk.set hg _ _) _ _
    refine ⟨b, cap, rfl, hb, Blk.lt hg, hn, ⟨cur, hg, hcell 0 (by decide), hcell 1 (by decide)⟩, ?_⟩
    unfold Own
    rw [List.length_set, flat_set l k y hk]
    refine ⟨by simp [hlen], Or.inr ⟨b, cap, _, rfl, hb, hB, hn, hc, by simpa using hs, ?_⟩⟩
    rw [Array.toList_setIfInBounds, Array.toList_setIfInBounds, List.take_set, List.take_set, ht]
end Go.Proofs.YtpgifkhgefbnfaaDoor
end
section
namespace Go.Proofs.YtpgifkhgefbnfaaDoor
open Go.RowKit BH
set_option maxHeartbeats 1000000
set_option maxRecDepth 100000
theorem instrAt_any (v : Value) (l : List UInt8) (x : Int) (w : World) (hb : Bytes w v l) (hl : l.length ≤ 140737488355328) :
    Calls Tryd.prog 8 #[v, .int .i64 x] w (DecAns (decAns l x) w) := by
  obtain ⟨ao, cap, rfl, h1, h2, h4, h3⟩ := hb
  by_cases hx : x < 0 ∨ (l.length : Int) ≤ x
  · have e : decAns l x = (zeroIns, 0, 2) := by unfold decAns; rw [if_pos hx]
    rw [e]
    exact at_out ao l.length cap x w hl hx
  obtain ⟨a, rfl⟩ : ∃ a : Nat, x = a := ⟨x.toNat, by omega⟩
  obtain ⟨b, off, rfl, hc⟩ := h3 (by omega)
  have c := byte_cells hc
  have hcm : cap ≤ 9223372036854775807 := by unfold maxLen at h2; omega
  obtain ⟨u0, u1⟩ := byteAt_bd l a
  obtain ⟨p0, p1⟩ := byteAt_bd l (a + 1)
  obtain ⟨q0, q1⟩ := byteAt_bd l (a + 2)
  obtain ⟨r0, r1⟩ := byteAt_bd l (a + 3)
  obtain ⟨k, lg, hk⟩ : ∃ k lg, kindOf (byteAt l a) = (k, lg) := ⟨_, _, rfl⟩
  obtain ⟨k24, klg⟩ := kindOf_bd (byteAt l a) u0 u1
  rw [hk] at k24 klg
  have hr := (refGo_kindOf (byteAt l a) u0 u1).trans hk
  by_cases k0 : k = 0
  · subst k0
    have e : decAns l a = (zeroIns, 0, 3) := by
      unfold decAns
      rw [if_neg hx]
      simp only [Int.toNat_natCast, hk]
      rw [if_pos trivial]
    rw [e]
    exact at_nokind b off cap l.length a (byteAt l a) lg w h1 hcm (by omega) (c a _ (by omega) rfl) u0 u1 hr
  by_cases ks : (l.length : Int) < a + insSize k lg
  · have e : decAns l a = (zeroIns, 0, 5) := by
      unfold decAns
      rw [if_neg hx]
      simp only [Int.toNat_natCast, hk]
      rw [if_neg k0, if_pos ks]
    rw [e]
    exact at_short b off cap l.length a k lg (by omega) (by omega) (byteAt l a) w h1 hcm hl (by omega) ks (c a _ (by omega) rfl) u0 u1 hr
  have hlg : lg = true → 18 ≤ k ∧ k ≤ 22 := klg
  by_cases h_bare : k ≤ 4
  · obtain rfl : lg = false := by cases lg with
    | false => rfl
    | true => exact absurd (hlg rfl) (by omega)
    have hz : insSize k false = 1 := by
      obtain rfl | rfl | rfl | rfl : k = 1 ∨ k = 2 ∨ k = 3 ∨ k = 4 := by omega
      all_goals rfl
    rw [hz] at ks
    have e := decAns_at hk (by omega) (by omega) hz (by omega) (i := ⟨k, 0, 0, 0, 0, false⟩) (by
      unfold rawIns
      repeat (first | rw [if_pos (by omega)] | rw [if_neg (by omega)])
      try simp only [cond_true, cond_false])
    exact (at_bare b off cap l.length a k (by omega) (by omega) (byteAt l a) w h1 hcm (by omega) (c a _ (by omega) rfl)  u0 u1  hr).mono fun e' w' h => decGives_ans h e
  by_cases h_wide : k ≤ 5
  · obtain rfl : lg = false := by cases lg with
    | false => rfl
    | true => exact absurd (hlg rfl) (by omega)
    have hz : insSize k false = 4 := by
      obtain rfl : k = 5 := by omega
      all_goals rfl
    rw [hz] at ks
    have e := decAns_at hk (by omega) (by omega) hz (by omega) (i := ⟨k, byteAt l (a + 1), 0, 0, num16 (byteAt l (a + 2)) (byteAt l (a + 3)), false⟩) (by
      unfold rawIns
      repeat (first | rw [if_pos (by omega)] | rw [if_neg (by omega)])
      try simp only [cond_true, cond_false])
    exact (at_wide b off cap l.length a k (by omega) (by omega) (byteAt l a) (byteAt l (a + 1)) (byteAt l (a + 2)) (byteAt l (a + 3)) w h1 hcm (by omega) (c a _ (by omega) rfl) (c (a + 1) _ (by omega) (by omega)) (c (a + 2) _ (by omega) (by omega)) (c (a + 3) _ (by omega) (by omega)) u0 u1 p0 p1 q0 q1 r0 r1 hr).mono fun e' w' h => decGives_ans h e
  by_cases h_pairA : k ≤ 6
  · obtain rfl : lg = false := by cases lg with
    | false => rfl
    | true => exact absurd (hlg rfl) (by omega)
    have hz : insSize k false = 3 := by
      obtain rfl : k = 6 := by omega
      all_goals rfl
    rw [hz] at ks
    have e := decAns_at hk (by omega) (by omega) hz (by omega) (i := ⟨k, byteAt l (a + 1) / 16, byteAt l (a + 1) % 16, 0, num8 (byteAt l (a + 2)), false⟩) (by
      unfold rawIns
      repeat (first | rw [if_pos (by omega)] | rw [if_neg (by omega)])
      try simp only [cond_true, cond_false])
    exact (at_pairA b off cap l.length a k (by omega) (by omega) (byteAt l a) (byteAt l (a + 1)) (byteAt l (a + 2)) w h1 hcm (by omega) (c a _ (by omega) rfl) (c (a + 1) _ (by omega) (by omega)) (c (a + 2) _ (by omega) (by omega)) u0 u1 p0 p1 q0 q1 hr).mono fun e' w' h => decGives_ans h e
  by_cases h_three : k ≤ 13
  · obtain rfl : lg = false := by cases lg with
    | false => rfl
    | true => exact absurd (hlg rfl) (by omega)
    have hz : insSize k false = 3 := by
      obtain rfl | rfl | rfl | rfl | rfl | rfl | rfl : k = 7 ∨ k = 8 ∨ k = 9 ∨ k = 10 ∨ k = 11 ∨ k = 12 ∨ k = 13 := by omega
      all_goals rfl
    rw [hz] at ks
    have e := decAns_at hk (by omega) (by omega) hz (by omega) (i := ⟨k, byteAt l (a + 1) / 16, byteAt l (a + 1) % 16, byteAt l (a + 2), 0, false⟩) (by
      unfold rawIns
      repeat (first | rw [if_pos (by omega)] | rw [if_neg (by omega)])
      try simp only [cond_true, cond_false])
    exact (at_three b off cap l.length a k (by omega) (by omega) (byteAt l a) (byteAt l (a + 1)) (byteAt l (a + 2)) w h1 hcm (by omega) (c a _ (by omega) rfl) (c (a + 1) _ (by omega) (by omega)) (c (a + 2) _ (by omega) (by omega)) u0 u1 p0 p1 q0 q1 hr).mono fun e' w' h => decGives_ans h e
  by_cases h_pairB : k ≤ 14
  · obtain rfl : lg = false := by cases lg with
    | false => rfl
    | true => exact absurd (hlg rfl) (by omega)
    have hz : insSize k false = 3 := by
      obtain rfl : k = 14 := by omega
      all_goals rfl
    rw [hz] at ks
    have e := decAns_at hk (by omega) (by omega) hz (by omega) (i := ⟨k, byteAt l (a + 1) / 16, byteAt l (a + 1) % 16, 0, num8 (byteAt l (a + 2)), false⟩) (by
      unfold rawIns
      repeat (first | rw [if_pos (by omega)] | rw [if_neg (by omega)])
      try simp only [cond_true, cond_false])
    exact (at_pairB b off cap l.length a k (by omega) (by omega) (byteAt l a) (byteAt l (a + 1)) (byteAt l (a + 2)) w h1 hcm (by omega) (c a _ (by omega) rfl) (c (a + 1) _ (by omega) (by omega)) (c (a + 2) _ (by omega) (by omega)) u0 u1 p0 p1 q0 q1 hr).mono fun e' w' h => decGives_ans h e
  by_cases h_store : k ≤ 15
  · obtain rfl : lg = false := by cases lg with
    | false => rfl
    | true => exact absurd (hlg rfl) (by omega)
    have hz : insSize k false = 3 := by
      obtain rfl : k = 15 := by omega
      all_goals rfl
    rw [hz] at ks
    have e := decAns_at hk (by omega) (by omega) hz (by omega) (i := ⟨k, 0, byteAt l (a + 1) % 16, byteAt l (a + 1) / 16, num8 (byteAt l (a + 2)), false⟩) (by
      unfold rawIns
      repeat (first | rw [if_pos (by omega)] | rw [if_neg (by omega)])
      try simp only [cond_true, cond_false])
    exact (at_store b off cap l.length a k (by omega) (by omega) (byteAt l a) (byteAt l (a + 1)) (byteAt l (a + 2)) w h1 hcm (by omega) (c a _ (by omega) rfl) (c (a + 1) _ (by omega) (by omega)) (c (a + 2) _ (by omega) (by omega)) u0 u1 p0 p1 q0 q1 hr).mono fun e' w' h => decGives_ans h e
  by_cases h_dest : k ≤ 16
  · obtain rfl : lg = false := by cases lg with
    | false => rfl
    | true => exact absurd (hlg rfl) (by omega)
    have hz : insSize k false = 2 := by
      obtain rfl : k = 16 := by omega
      all_goals rfl
    rw [hz] at ks
    have e := decAns_at hk (by omega) (by omega) hz (by omega) (i := ⟨k, byteAt l (a + 1), 0, 0, 0, false⟩) (by
      unfold rawIns
      repeat (first | rw [if_pos (by omega)] | rw [if_neg (by omega)])
      try simp only [cond_true, cond_false])
    exact (at_dest b off cap l.length a k (by omega) (by omega) (byteAt l a) (byteAt l (a + 1)) w h1 hcm (by omega) (c a _ (by omega) rfl) (c (a + 1) _ (by omega) (by omega)) u0 u1 p0 p1 hr).mono fun e' w' h => decGives_ans h e
  by_cases h_source : k ≤ 17
  · obtain rfl : lg = false := by cases lg with
    | false => rfl
    | true => exact absurd (hlg rfl) (by omega)
    have hz : insSize k false = 2 := by
      obtain rfl : k = 17 := by omega
      all_goals rfl
    rw [hz] at ks
    have e := decAns_at hk (by omega) (by omega) hz (by omega) (i := ⟨k, 0, byteAt l (a + 1), 0, 0, false⟩) (by
      unfold rawIns
      repeat (first | rw [if_pos (by omega)] | rw [if_neg (by omega)])
      try simp only [cond_true, cond_false])
    exact (at_source b off cap l.length a k (by omega) (by omega) (byteAt l a) (byteAt l (a + 1)) w h1 hcm (by omega) (c a _ (by omega) rfl) (c (a + 1) _ (by omega) (by omega)) u0 u1 p0 p1 hr).mono fun e' w' h => decGives_ans h e
  by_cases h_branch : k ≤ 21
  · cases lg with
    | false =>
      have hz : insSize k false = 3 := by
        obtain rfl | rfl | rfl | rfl : k = 18 ∨ k = 19 ∨ k = 20 ∨ k = 21 := by omega
        all_goals rfl
      rw [hz] at ks
      have e := decAns_at hk (by omega) (by omega) hz (by omega) (i := ⟨k, 0, byteAt l (a + 1) / 16, byteAt l (a + 1) % 16, num8 (byteAt l (a + 2)), false⟩) (by
        unfold rawIns
        repeat (first | rw [if_pos (by omega)] | rw [if_neg (by omega)])
        try simp only [cond_false])
      exact (at_branchS b off cap l.length a k (by omega) (by omega) (byteAt l a) (byteAt l (a + 1)) (byteAt l (a + 2)) w h1 hcm (by omega) (c a _ (by omega) rfl) (c (a + 1) _ (by omega) (by omega)) (c (a + 2) _ (by omega) (by omega)) u0 u1 p0 p1 q0 q1 hr).mono fun e' w' h => decGives_ans h e
    | true =>
      have hz : insSize k true = 4 := by
        obtain rfl | rfl | rfl | rfl : k = 18 ∨ k = 19 ∨ k = 20 ∨ k = 21 := by omega
        all_goals rfl
      rw [hz] at ks
      have e := decAns_at hk (by omega) (by omega) hz (by omega) (i := ⟨k, 0, byteAt l (a + 1) / 16, byteAt l (a + 1) % 16, num16 (byteAt l (a + 2)) (byteAt l (a + 3)), true⟩) (by
        unfold rawIns
        repeat (first | rw [if_pos (by omega)] | rw [if_neg (by omega)])
        try simp only [cond_true])
      exact (at_branchL b off cap l.length a k (by omega) (by omega) (byteAt l a) (byteAt l (a + 1)) (byteAt l (a + 2)) (byteAt l (a + 3)) w h1 hcm (by omega) (c a _ (by omega) rfl) (c (a + 1) _ (by omega) (by omega)) (c (a + 2) _ (by omega) (by omega)) (c (a + 3) _ (by omega) (by omega)) u0 u1 p0 p1 q0 q1 r0 r1 hr).mono fun e' w' h => decGives_ans h e
  by_cases h_jump : k ≤ 22
  · cases lg with
    | false =>
      have hz : insSize k false = 2 := by
        obtain rfl : k = 22 := by omega
        all_goals rfl
      rw [hz] at ks
      have e := decAns_at hk (by omega) (by omega) hz (by omega) (i := ⟨k, 0, 0, 0, num8 (byteAt l (a + 1)), false⟩) (by
        unfold rawIns
        repeat (first | rw [if_pos (by omega)] | rw [if_neg (by omega)])
        try simp only [cond_false])
      exact (at_jumpS b off cap l.length a k (by omega) (by omega) (byteAt l a) (byteAt l (a + 1)) w h1 hcm (by omega) (c a _ (by omega) rfl) (c (a + 1) _ (by omega) (by omega)) u0 u1 p0 p1 hr).mono fun e' w' h => decGives_ans h e
    | true =>
      have hz : insSize k true = 3 := by
        obtain rfl : k = 22 := by omega
        all_goals rfl
      rw [hz] at ks
      have e := decAns_at hk (by omega) (by omega) hz (by omega) (i := ⟨k, 0, 0, 0, num16 (byteAt l (a + 1)) (byteAt l (a + 2)), true⟩) (by
        unfold rawIns
        repeat (first | rw [if_pos (by omega)] | rw [if_neg (by omega)])
        try simp only [cond_true])
      exact (at_jumpL b off cap l.length a k (by omega) (by omega) (byteAt l a) (byteAt l (a + 1)) (byteAt l (a + 2)) w h1 hcm (by omega) (c a _ (by omega) rfl) (c (a + 1) _ (by omega) (by omega)) (c (a + 2) _ (by omega) (by omega)) u0 u1 p0 p1 q0 q1 hr).mono fun e' w' h => decGives_ans h e
  by_cases h_call : k ≤ 23
  · obtain rfl : lg = false := by cases lg with
    | false => rfl
    | true => exact absurd (hlg rfl) (by omega)
    have hz : insSize k false = 3 := by
      obtain rfl : k = 23 := by omega
      all_goals rfl
    rw [hz] at ks
    have e := decAns_at hk (by omega) (by omega) hz (by omega) (i := ⟨k, 0, 0, 0, num16 (byteAt l (a + 1)) (byteAt l (a + 2)), false⟩) (by
      unfold rawIns
      repeat (first | rw [if_pos (by omega)] | rw [if_neg (by omega)])
      try simp only [cond_true, cond_false])
    exact (at_call b off cap l.length a k (by omega) (by omega) (byteAt l a) (byteAt l (a + 1)) (byteAt l (a + 2)) w h1 hcm (by omega) (c a _ (by omega) rfl) (c (a + 1) _ (by omega) (by omega)) (c (a + 2) _ (by omega) (by omega)) u0 u1 p0 p1 q0 q1 hr).mono fun e' w' h => decGives_ans h e
  by_cases h_table : k ≤ 24
  · obtain rfl : lg = false := by cases lg with
    | false => rfl
    | true => exact absurd (hlg rfl) (by omega)
    have hz : insSize k false = 3 := by
      obtain rfl : k = 24 := by omega
      all_goals rfl
    rw [hz] at ks
    have e := decAns_at hk (by omega) (by omega) hz (by omega) (i := ⟨k, 0, byteAt l (a + 1), 0, byteAt l (a + 2), false⟩) (by
      unfold rawIns
      repeat (first | rw [if_pos (by omega)] | rw [if_neg (by omega)])
      try simp only [cond_true, cond_false])
    exact (at_table b off cap l.length a k (by omega) (by omega) (byteAt l a) (byteAt l (a + 1)) (byteAt l (a + 2)) w h1 hcm (by omega) (c a _ (by omega) rfl) (c (a + 1) _ (by omega) (by omega)) (c (a + 2) _ (by omega) (by omega)) u0 u1 p0 p1 q0 q1 hr).mono fun e' w' h => decGives_ans h e
  omega
end Go.Proofs.YtpgifkhgefbnfaaDoor
end
