/-
  Products of a machine: step.product and the document's times.
  image.funcs: may an image's functions be?
-/
import Derived.Test.YtpgifkhgefbnfaaDoorImgName
import Derived.Deep.QuietTactic
import Derived.BigQuiet
section
namespace Go.Proofs.YtpgifkhgefbnfaaDoor
open Go.RowKit BH
set_option maxHeartbeats 1000000
set_option maxRecDepth 100000
theorem mul_odd (o a h : Int) : foldN (foldN (o + a) + foldN (a + a) * h) = foldN (o + a * (2 * h + 1)) := by
  obtain ⟨k1, e1⟩ := foldN_eq (o + a)
  obtain ⟨k2, e2⟩ := foldN_eq (a + a)
  refine foldN_cong ⟨k1 + k2 * h, ?_⟩
  rw [e1, e2, Int.add_mul, Int.add_mul, Int.mul_add, Int.mul_add, Int.mul_assoc, ← Int.mul_assoc a 2 h, Int.mul_comm a 2, Int.mul_assoc]
  generalize a * h = p
  generalize k2 * h = q
  omega
theorem mul_even (o a h : Int) : foldN (o + foldN (a + a) * h) = foldN (o + a * (2 * h)) := by
  obtain ⟨k2, e2⟩ := foldN_eq (a + a)
  refine foldN_cong ⟨k2 * h, ?_⟩
  rw [e2, Int.add_mul, Int.add_mul, Int.mul_assoc, ← Int.mul_assoc a 2 h, Int.mul_comm a 2, Int.mul_assoc]
  generalize a * h = p
  generalize k2 * h = q
  omega
theorem tdiv_two (b : Int) : ∃ h r : Int, b.tdiv 2 = h ∧ b.tmod 2 = r ∧ (b.natAbs : Int) = 2 * h.natAbs + r.natAbs ∧ (r = 0 ∨ r = 1 ∨ r = -1) ∧ (b ≠ 0 → h.natAbs < b.natAbs) := by
  refine ⟨_, _, rfl, rfl, ?_⟩
  rcases Int.lt_or_le b 0 with hb | hb
  · obtain ⟨n, rfl⟩ : ∃ n, b = -n := ⟨-b, by omega⟩
    rw [Int.neg_tdiv, Int.neg_tmod, Int.tdiv_eq_ediv_of_nonneg (by omega), Int.tmod_eq_emod_of_nonneg (by omega)]
    omega
  · rw [Int.tdiv_eq_ediv_of_nonneg hb, Int.tmod_eq_emod_of_nonneg hb]
    omega
theorem product_any (a b : Int) (w : World) (ha : InM a) (hb : InM b) :
    Calls Tryd.prog 77 #[.int .i64 a, .int .i64 b] w fun e w' => e = .returned (.int .i64 (foldN (a * b))) ∧ w = w' := by
  have HA := Lib.hid ha
  unfold InM at ha hb
  have hneg : ∃ ng : Bool, ng = decide (b < 0) := ⟨_, rfl⟩
  obtain ⟨ng, hng⟩ := hneg
  have hng' := hng.symm
  have HNG := Lib.hid hng
  clear hng
  go_enter Tryd.func77, Tryd.ntmps77
  go_wp2_with fail
  go_loopw [0, 1, 5] (fun s0 s1 s5 wr => ∃ x y o : Int, s0 = .int .i64 x ∧ s1 = .int .i64 y ∧ s5 = .int .i64 o ∧ InM x ∧ InM y ∧ InM o ∧ Hid (foldN (o + x * (y.natAbs : Int)) = foldN (a * (b.natAbs : Int))) ∧ wr = w) (fun _ s1 _ _ => (intOf s1).natAbs)
  case atStart => exact ⟨a, b, 0, rfl, rfl, rfl, HA.out, hb, by unfold InM; omega, Lib.hid (by rw [Int.zero_add]), rfl⟩
  case round =>
    obtain ⟨x, y, o, rfl, rfl, rfl, hx, hy, ho, HM, rfl⟩ := hrel
    unfold InM at hx hy ho
    by_cases hz : y = 0
    · subst hz
      have e := HM.out
      rw [Int.natAbs_zero, Int.ofNat_zero, Int.mul_zero, Int.add_zero, foldN_same ho] at e
      have E := Lib.hid e
      clear e
      cases hb0 : ng with
      | true =>
        subst hb0
        go_wp2_with fail
        go_ret
        refine ⟨?_, rfl⟩
        have hb1 : b < 0 := by have := HNG.out; simpa using this.symm
        have : foldN (a * b) = -o := by rw [E.out, ← foldN_neg, ← Int.mul_neg]; congr 2; omega
        rw [this]
        first | rfl | (congr 2; unfold wrap64; omega)
      | false =>
        subst hb0
        go_wp2_with fail
        go_ret
        refine ⟨?_, rfl⟩
        have hb1 : ¬ b < 0 := by have := HNG.out; simpa using this.symm
        rw [show foldN (a * b) = o by rw [E.out]; congr 2; omega]
        rfl
    · obtain ⟨h, r, e1, e2, e3, e4, e5⟩ := tdiv_two y
      have he : h.natAbs < y.natAbs := e5 hz
      have hh : -1099511627776 ≤ h ∧ h ≤ 1099511627776 := by omega
      have t0 : (y == 0) = false := by simpa using hz
      by_cases hr : r = 0
      · subst hr
        have H3 := Lib.hid e3
        clear e3 e4 e5
        go_wp2_with (go_at_call 69; refine (fold_any _ _ (by omega) (by omega)).mono ?_; rintro e w' ⟨rfl, rfl⟩)
        go_roundw
        case rel =>
          refine ⟨foldN (x + x), h, o, rfl, by first | rfl | (rw [← e1]), rfl, foldN_in _, hh, ho, Lib.hid ?_, trivial⟩
          rw [mul_even, ← HM.out, H3.out]
          congr 2
        case measure => simp only [intOf]; omega
      · have hr1 : (r.natAbs : Int) = 1 := by omega
        have H3 := Lib.hid e3
        have HR := Lib.hid hr1
        have t1 : (r == 0) = false := by simpa using hr
        clear e3 e5 hr1
        go_wp2_with (go_at_call 69; refine (fold_any _ _ (by omega) (by omega)).mono ?_; rintro e w' ⟨rfl, rfl⟩)
        go_roundw
        case rel =>
          refine ⟨foldN (x + x), h, foldN (o + x), rfl, by first | rfl | (rw [← e1]), rfl, foldN_in _, hh, foldN_in _, Lib.hid ?_, trivial⟩
          rw [mul_odd, ← HM.out, H3.out, HR.out]
        case measure => simp only [intOf]; omega
theorem times_even (a h : Int) : foldN (foldN (a * h) + foldN (a * h)) = foldN (a * (2 * h)) := by
  obtain ⟨k1, e1⟩ := foldN_eq (a * h)
  refine foldN_cong ⟨k1 + k1, ?_⟩
  rw [e1, ← Int.mul_assoc a 2 h, Int.mul_comm a 2, Int.mul_assoc]
  generalize a * h = p
  omega
theorem times_odd (a h : Int) : foldN (foldN (foldN (a * h) + foldN (a * h)) + a) = foldN (a * (2 * h + 1)) := by
  obtain ⟨k1, e1⟩ := foldN_eq (a * h)
  obtain ⟨k2, e2⟩ := foldN_eq (foldN (a * h) + foldN (a * h))
  refine foldN_cong ⟨k1 + k1 + k2, ?_⟩
  rw [e2, e1, Int.mul_add, ← Int.mul_assoc a 2 h, Int.mul_comm a 2, Int.mul_assoc]
  generalize a * h = p
  omega
theorem times_pos (a b : Int) (w : World) (ha : InM a) (hb : 0 ≤ b) (hb2 : b ≤ 1099511627776) :
    Calls Tryd.prog 45 #[.int .i64 a, .int .i64 b] w fun e w' => e = .returned (.int .i64 (foldN (a * b))) ∧ w = w' := by
  have HA := Lib.hid ha
  unfold InM at ha
  go_enter Tryd.func45, Tryd.ntmps45
  go_wp2_with fail
  go_loopw [5, 6] (fun s5 s6 wr => ∃ (j : Nat) (o : Int), j ≤ 42 ∧ s6 = .int .i64 ((j : Int) - 1) ∧ s5 = .int .i64 o ∧ InM o ∧ Hid (o = foldN (a * (b / 2 ^ j))) ∧ wr = w) (fun _ s6 _ => (intOf s6 + 1).toNat)
  case atStart => exact ⟨42, 0, by omega, rfl, rfl, by unfold InM; omega, Lib.hid (by rw [show b / 2 ^ 42 = 0 by omega, Int.mul_zero]; rfl), rfl⟩
  case round =>
    obtain ⟨j, o, hj, rfl, rfl, ho, HO, rfl⟩ := hrel
    unfold InM at ho
    cases j with
    | zero =>
      go_wp2_with fail
      go_ret
      exact ⟨by rw [HO.out]; simp, rfl⟩
    | succ j =>
      have hd : b / 2 ^ (j + 1) = b / 2 ^ j / 2 := by rw [Int.pow_succ, Int.ediv_ediv_of_nonneg (Int.le_of_lt (Int.pow_pos (by decide)))]
      rw [hd] at HO
      have hp : 0 ≤ b / 2 ^ j := Int.ediv_nonneg hb (Int.le_of_lt (Int.pow_pos (by decide)))
      have hf1 := foldN_in (o + o)
      unfold InM at hf1
      clear hd
      by_cases hbit : b / 2 ^ j % 2 = 1
      · have t1 : (b / 2 ^ j).tmod 2 = 1 := by rw [Int.tmod_eq_emod_of_nonneg hp, hbit]
        have HB := Lib.hid hbit
        clear hbit
        go_wp2_with (go_at_call 44; refine (folded_any _ _ (by omega) (by omega)).mono ?_; rintro e w' ⟨rfl, rfl⟩)
        go_roundw
        case rel =>
          refine ⟨j, _, by omega, rfl, rfl, foldN_in _, Lib.hid ?_, trivial⟩
          rw [HO.out, times_odd]
          congr 2
          have := HB.out
          omega
        case measure => simp only [intOf]; omega
      · have t1 : (b / 2 ^ j).tmod 2 = 0 := by rw [Int.tmod_eq_emod_of_nonneg hp]; omega
        have HB := Lib.hid hbit
        clear hbit
        go_wp2_with (go_at_call 44; refine (folded_any _ _ (by omega) (by omega)).mono ?_; rintro e w' ⟨rfl, rfl⟩)
        go_roundw
        case rel =>
          refine ⟨j, _, by omega, rfl, rfl, foldN_in _, Lib.hid ?_, trivial⟩
          rw [HO.out, times_even]
          congr 2
          have := HB.out
          omega
        case measure => simp only [intOf]; omega
theorem times_any (a b : Int) (w : World) (ha : InM a) (hb : InM b) :
    Calls Tryd.prog 45 #[.int .i64 a, .int .i64 b] w fun e w' => e = .returned (.int .i64 (foldN (a * b))) ∧ w = w' := by
  unfold InM at hb
  by_cases hn : b < 0
  · have HC := Lib.hid (times_pos a (-b) w ha (by omega) (by omega))
    have hf := foldN_in (a * (-b))
    unfold InM at hf
    go_enter Tryd.func45, Tryd.ntmps45
    go_wp2_with (go_at_call 45; refine HC.out.mono ?_; rintro e w' ⟨rfl, rfl⟩)
    go_ret
    refine ⟨?_, rfl⟩
    rw [show foldN (a * b) = -foldN (a * (-b)) by rw [← foldN_neg]; congr 1; rw [Int.mul_neg, Int.neg_neg]]
    first | rfl | (congr 2; unfold wrap64; omega)
  · exact times_pos a b w ha (by omega) hb.2
end Go.Proofs.YtpgifkhgefbnfaaDoor
end
section
namespace Go.Proofs.YtpgifkhgefbnfaaDoor
open Go.RowKit BH
set_option maxHeartbeats 1000000
set_option maxRecDepth 100000

theorem sameName_any (f : Fu) (s : ByteArray) (b : Nat) (w : World) (hb : w.cell? ⟨b, 0, none⟩ = some (.string s)) :
    Calls Tryd.prog 73 #[.agg #[.string f.Name, .int .i64 f.Start, .int .i64 f.Size], .pointer (some ⟨b, 0, none⟩)] w fun e w' => e = .returned (.bool (f.Name.toList == s.toList)) ∧ Keeps w w' := by
  have hlt : b < w.heap.size := lt_of_cell hb
  go_enter Tryd.func73, Tryd.ntmps73
  go_wp2
  go_ret
  exact ⟨rfl, (Keeps.refl _).alloc _⟩

theorem funcs_any (v : Value) (m : Img) (w : World) (hv : ImgAt w v m) :
    Calls Tryd.prog 52 #[v] w fun e w' => e = .returned (.int .i64 (funcsFault m)) ∧ Keeps w w' := by
  obtain ⟨v0, v1, v2, v3, v4, rfl, ⟨ao0, c0, rfl, t1, t2, -, -⟩, ⟨ao, cap, rfl, h1, h2, -, h3⟩, -, -, -⟩ := hv
  unfold maxLen at h2 t2
  obtain ⟨W1, hW1, hkW, hsW, i0, i1, i2, i3, i4, i5⟩ := box6 w 35 (.slice ao0 m.Text.length c0) (.slice ao m.Funcs.length cap) v2 v3 v4 (.int .i64 m.Entry)
  have HW := Lib.hid hW1
  clear hW1 i2 i3 i4 i5
  by_cases hbig : 40 < m.Funcs.length
  · have HF := Lib.hid (show funcsFault m = 1 by unfold funcsFault; rw [if_pos hbig])
    clear h3 i0 i1
    go_enter Tryd.func52, Tryd.ntmps52
    go_wp2
    go_ret
    exact ⟨by rw [HF.out]; rfl, (Keeps.refl _).alloc _⟩
  · have HF := Lib.hid (show funcsFault m = scan (funBad m) (endFault m 0) (m.Funcs.length - 0) 0 by unfold funcsFault; rw [if_neg hbig]; rfl)
    have eg : ∀ args w, (callFunc 73 args).run Tryd.prog w = .ok (.enter 73 args) w := enters_of Tryd.func73 (by kernel_rfl) rfl
    have EG := Lib.hid eg
    clear eg
    go_enter Tryd.func52, Tryd.ntmps52
    go_wp2
    rw [← HW.out]
    go_loopw [3, 4, 5, 13] (fun s3 _ _ s13 wr => ∃ k : Nat, k ≤ m.Funcs.length ∧ s3 = .int .i64 (sumF m k) ∧ s13 = .int .i64 k ∧ 0 ≤ sumF m k ∧ sumF m k ≤ m.Text.length ∧ Keeps W1 wr ∧ Hid (scan (funBad m) (endFault m 0) (m.Funcs.length - k) k = funcsFault m)) (fun _ _ _ i _ => m.Funcs.length - (intOf i).toNat)
    case atStart => exact ⟨0, Nat.zero_le _, rfl, rfl, by simp [sumF], by simp [sumF], Keeps.refl _, HF.out.symm⟩
    case round =>
      obtain ⟨k, hk, rfl, rfl, hs0, hs1, hkeep, hscan⟩ := hrel
      have j0 := hkeep.cell i0
      have j1 := hkeep.cell i1
      have hkk := hkW.trans hkeep
      have hin : w.heap.size < wr.heap.size := Nat.lt_of_lt_of_le hsW hkeep.size
      by_cases hlt : k < m.Funcs.length
      · obtain ⟨b, off, rfl, hc⟩ := h3 (by omega)
        have hc0 : wr.cell? ⟨b, off + k * 3, none⟩ = some (.string (nth m.Funcs k).Name) := hkk.cell (hc k 0 hlt (by omega))
        have hc1 : wr.cell? ⟨b, off + k * 3 + 1, none⟩ = some (.int .i64 (nth m.Funcs k).Start) := hkk.cell (hc k 1 hlt (by omega))
        have hc2 : wr.cell? ⟨b, off + k * 3 + 2, none⟩ = some (.int .i64 (nth m.Funcs k).Size) := hkk.cell (hc k 2 hlt (by omega))
        have hA : Arr wr (.slice (some ⟨b, off, none⟩) k cap) k 3 (fun i j => (nth m.Funcs i).c j) :=
          ⟨_, _, rfl, by omega, by unfold maxLen; omega, (fun h => by cases h), fun _ => ⟨b, off, rfl, fun i j hi hj => hkk.cell (hc i j (by omega) hj)⟩⟩
        have hp : ∀ W, W.cell? ⟨wr.heap.size, 0, none⟩ = some (.string (nth m.Funcs k).Name) → PredIn Tryd.prog 73 #[.pointer (some ⟨wr.heap.size, 0, none⟩)] k (fun i => .agg #[(nth m.Funcs i).c 0, (nth m.Funcs i).c 1, (nth m.Funcs i).c 2]) (sameName m k) W :=
          fun W hW W' i hi hk' => (sameName_any (nth m.Funcs i) (nth m.Funcs k).Name wr.heap.size W' (hk'.cell hW)).mono fun e w' h => h
        have HP := Lib.hid hp
        clear hc h3 i0 i1 hp
        rcases funBad_cases m k with ⟨hn, hv⟩ | ⟨hn, hrest⟩
        · have HB := Lib.hid ((scan_stop hlt (by rw [hv]; decide) hscan.out).trans hv)
          clear hscan hA hv
          go_wp2_with fail
          refine (name_any _ _).mono ?_
          rintro e w1 ⟨rfl, hk1⟩
          unfold fname at hn
          go_wp2
          go_ret
          exact ⟨by rw [HB.out]; rfl, (hkk.alloc _).trans hk1⟩
        · unfold fname at hn
          have HR := Lib.hid hrest
          clear hrest
          go_wp2_with fail
          refine (name_any _ _).mono ?_
          rintro e w1 ⟨rfl, hk1⟩
          have f0 : w1.cell? ⟨wr.heap.size, 0, none⟩ = some (.string (nth m.Funcs k).Name) := hk1.cell (by simp)
          have f1 : w1.cell? ⟨wr.heap.size, 1, none⟩ = some (.int .i64 (nth m.Funcs k).Start) := hk1.cell (by simp)
          have f2 : w1.cell? ⟨wr.heap.size, 2, none⟩ = some (.int .i64 (nth m.Funcs k).Size) := hk1.cell (by simp)
          have hkw1 : Keeps wr w1 := ((Keeps.refl wr).alloc _).trans hk1
          have q0 := hkw1.cell j0
          have q1 := hkw1.cell j1
          clear hc0 hc1 hc2 j0 j1
          go_wp2_with fail
          refine (containsFunc_fun _ k _ (sameName m k) _ _ _ (hA.keep hkw1) EG.out (HP.out _ f0)).mono ?_
          rintro e w2 ⟨rfl, hk2⟩
          have g0 := hk2.cell f0
          have g1 := hk2.cell f1
          have g2 := hk2.cell f2
          have r0 := hk2.cell q0
          have r1 := hk2.cell q1
          have hkw2 := hkk.trans (hkw1.trans hk2)
          have hkw2' := hkeep.trans (hkw1.trans hk2)
          clear f0 f1 f2 q0 q1 hA
          rcases HR.out with ⟨ha, hv⟩ | ⟨ha, ⟨hs, hv⟩ | ⟨⟨hs2, hs3, hs4⟩, hv⟩⟩
          · have HB := Lib.hid ((scan_stop hlt (by rw [hv]; decide) hscan.out).trans hv)
            clear hscan hv
            go_wp2
            go_ret
            exact ⟨by rw [HB.out]; rfl, hkw2⟩
          · have HB := Lib.hid ((scan_stop hlt (by rw [hv]; decide) hscan.out).trans hv)
            clear hscan hv
            go_wp2
            all_goals first
              | (exfalso; omega)
              | (go_ret
                 exact ⟨by rw [HB.out]; rfl, hkw2⟩)
          · have HB := Lib.hid (scan_step hlt hv hscan.out)
            have d1 : ((nth m.Funcs k).Start == sumF m k) = true := by simpa using hs2
            have d2 : ((nth m.Funcs k).Start != sumF m k) = false := by simpa using hs2
            have HS := Lib.hid (show sumF m (k + 1) = sumF m k + (nth m.Funcs k).Size from rfl)
            clear hscan hv hs2
            go_wp2
            all_goals first
              | (exfalso; omega)
              | (go_roundw
                 case rel => exact ⟨k + 1, by omega, by rw [HS.out], by go_num, by rw [HS.out]; omega, by rw [HS.out]; omega, hkw2', HB.out⟩
                 case measure => simp [intOf]; omega)
      · obtain rfl : k = m.Funcs.length := by omega
        have HE := Lib.hid (scan_end rfl hscan.out)
        clear h3 hscan
        by_cases he : sumF m m.Funcs.length = (m.Text.length : Int)
        · have HV := Lib.hid (HE.out.trans (show endFault m 0 = 0 by unfold endFault; rw [if_neg (by simpa using he)]))
          have d1 : (sumF m m.Funcs.length != (m.Text.length : Int)) = false := by simpa using he
          clear he
          go_wp2
          go_ret
          exact ⟨by rw [HV.out]; rfl, hkk⟩
        · have HV := Lib.hid (HE.out.trans (show endFault m 0 = 8 by unfold endFault; rw [if_pos he]))
          have d1 : (sumF m m.Funcs.length != (m.Text.length : Int)) = true := by simpa using he
          clear he
          go_wp2
          go_ret
          exact ⟨by rw [HV.out]; rfl, hkk⟩
end Go.Proofs.YtpgifkhgefbnfaaDoor
end
