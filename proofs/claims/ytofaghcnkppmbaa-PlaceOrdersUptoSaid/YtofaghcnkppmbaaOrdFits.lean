/-
  The document's flowFits: the same answer as place.check.
-/
import Derived.Test.YtofaghcnkppmbaaOrdChk
namespace Go.Proofs.Ytofaghcnkppmbaa
open Go.RowKit BH
set_option maxHeartbeats 1000000000
set_option maxRecDepth 100000
theorem flowFit_f {f : Fl} (h : anyN (fitBad f) f.Blocks.length = true ∨ anyN (fstBad f) f.Firsts.length = true) : flowFit f = false := by
  unfold flowFit
  rcases h with h | h <;> simp [h]
theorem flowFit_t {f : Fl} (h : anyN (fitBad f) f.Blocks.length = false) (h2 : anyN (fstBad f) f.Firsts.length = false) : flowFit f = true := by
  unfold flowFit
  simp [h, h2]
theorem fnc_up {f : Fl} (h : anyN (fitBad f) f.Blocks.length = false) : ∀ (d a : Nat), a + d < f.Blocks.length → fnc f a ≤ fnc f (a + d)
  | 0, _, _ => Int.le_refl _
  | d + 1, a, hb => by
    have h1 := fnc_up h d a (by omega)
    have h2 := anyN_false h (a + (d + 1)) hb
    unfold fitBad at h2
    have h3 := of_decide_eq_false h2
    rw [show a + (d + 1) - 1 = a + d by omega] at h3
    omega
/-- what the scan from behind has found, down to m -/
def Scan (f : Fl) (i m : Nat) (x : Int) : Prop := (x = -1 ∧ ∀ k, m ≤ k → k < f.Blocks.length → ¬ fnc f k = i) ∨ ∃ q : Nat, x = q ∧ m ≤ q ∧ q < f.Blocks.length ∧ fnc f q = i ∧ ∀ k, m ≤ k → k < q → ¬ fnc f k = i
theorem Scan.hit {f : Fl} {i m : Nat} (hm : m < f.Blocks.length) (h : fnc f m = i) : Scan f i m m := Or.inr ⟨m, rfl, Nat.le_refl _, hm, h, fun k h1 h2 => by omega⟩
theorem Scan.miss {f : Fl} {i m : Nat} {x : Int} (hs : Scan f i (m + 1) x) (h : ¬ fnc f m = i) : Scan f i m x := by
  rcases hs with ⟨h1, h2⟩ | ⟨q, h1, h2, h3, h4, h5⟩
  · refine Or.inl ⟨h1, fun k a b => ?_⟩
    by_cases e : k = m
    · subst e; exact h
    · exact h2 k (by omega) b
  · refine Or.inr ⟨q, h1, by omega, h3, h4, fun k a b => ?_⟩
    by_cases e : k = m
    · subst e; exact h
    · exact h5 k (by omega) b
theorem Scan.bad {f : Fl} {i : Nat} {x : Int} (hs : Scan f i 0 x) (h : x < 0 ∨ ¬ nth f.Firsts i = x) (hf : anyN (fitBad f) f.Blocks.length = false) : fstBad f i = true := by
  unfold fstBad
  apply decide_eq_true
  by_cases h0 : nth f.Firsts i < 0
  · exact Or.inl h0
  · by_cases h1 : (f.Blocks.length : Int) ≤ nth f.Firsts i
    · exact Or.inr (Or.inl h1)
    · refine Or.inr (Or.inr ?_)
      obtain ⟨n, hn⟩ : ∃ n : Nat, nth f.Firsts i = n := ⟨(nth f.Firsts i).toNat, by omega⟩
      rw [hn] at h h0 h1 ⊢
      rw [Int.toNat_natCast]
      rcases hs with ⟨e1, e2⟩ | ⟨q, e1, e2, e3, e4, e5⟩
      · exact Or.inl (e2 n (Nat.zero_le _) (by omega))
      · by_cases hc : fnc f n = i
        · have hqn : ¬ n < q := fun hlt => e5 n (Nat.zero_le _) hlt hc
          have hne : q < n := by omega
          have u1 := fnc_up hf (n - 1 - q) q (by omega)
          have u2 := fnc_up hf 1 (n - 1) (by omega)
          rw [show q + (n - 1 - q) = n - 1 by omega] at u1
          rw [show n - 1 + 1 = n by omega] at u2
          exact Or.inr ⟨by omega, by omega⟩
        · exact Or.inl hc
theorem Scan.good {f : Fl} {i : Nat} {x : Int} (hs : Scan f i 0 x) (h : ¬ x < 0) (h2 : nth f.Firsts i = x) : fstBad f i = false := by
  unfold fstBad
  apply decide_eq_false
  rcases hs with ⟨e1, e2⟩ | ⟨q, e1, e2, e3, e4, e5⟩
  · omega
  · rw [h2, e1, Int.toNat_natCast]
    rintro (h | h | h | ⟨h, h'⟩)
    · omega
    · omega
    · exact h e4
    · exact e5 (q - 1) (Nat.zero_le _) (by omega) h'
theorem fits_any (v : Value) (f : Fl) (w : World) (hv : FlowAt w v f) :
    Calls Try.prog 18 #[v] w fun e w' => e = .returned (.bool (flowFit f)) ∧ Keeps w w' := by
  obtain ⟨v0, v1, v2, rfl, ⟨cv, av, lv, ⟨ao, cap, rfl, b1, b2, -, b3⟩, bi⟩, ht, ⟨fo, fcap, rfl, f1, f2, -, f3⟩⟩ := hv
  obtain ⟨tv, ⟨tao, tcap, rfl, -⟩, -⟩ := ht
  have fl2 : f.Firsts.length ≤ 9223372036854775807 := by unfold maxLen at f2; omega
  have bl2 : f.Blocks.length ≤ 9223372036854775807 := by unfold maxLen at b2; omega
  clear b1 b2 f1 f2
  obtain ⟨W, hW, hBX, hk0⟩ : ∃ W, W = w.alloc (.cells #[.slice ao f.Blocks.length cap, .slice tao f.Tables.length tcap, .slice fo f.Firsts.length fcap] 26) ∧ Blk W w.heap.size (.cells #[.slice ao f.Blocks.length cap, .slice tao f.Tables.length tcap, .slice fo f.Firsts.length fcap] 26) ∧ Keeps w W := ⟨_, rfl, Blk.top _ _, (Keeps.refl _).alloc _⟩
  have HW := Lib.hid hW
  have HK0 := Lib.hid hk0
  have x0 := hBX.cell (j := 0) rfl
  have x2 := hBX.cell (j := 2) rfl
  have hxl := hBX.lt
  have HX0 := Lib.hid x0
  have HX2 := Lib.hid x2
  clear hW hBX hk0
  go_enter Try.func18, Try.ntmps18
  go_upto_region 1 with fail
  rw [← HW.out]
  go_wp2_with fail
  go_loopw [3] (fun s3 wr => ∃ i : Nat, i ≤ f.Blocks.length ∧ s3 = .int .i64 i ∧ Hid (anyN (fitBad f) i = false) ∧ Hid (Keeps W wr)) (fun s3 _ => f.Blocks.length - (intOf s3).toNat)
  case atStart => exact ⟨0, Nat.zero_le _, rfl, Lib.hid rfl, Lib.hid (Keeps.refl _)⟩
  case round =>
    obtain ⟨i, hi, rfl, HA, HKW⟩ := hrel
    have HKR := Lib.hid (HK0.out.trans HKW.out)
    have x0 := HKW.out.cell HX0.out
    have x2 := HKW.out.cell HX2.out
    by_cases hlt : i < f.Blocks.length
    · obtain ⟨b, off, rfl, hc⟩ := b3 (by omega)
      have hltz : (i : Int) < (f.Blocks.length : Int) := by omega
      obtain ⟨x, hx⟩ : ∃ x, x = fnc f i := ⟨_, rfl⟩
      have c0 : wr.cell? ⟨b, off + i * 14, none⟩ = some (.int .i64 x) := by rw [hx]; exact HKR.out.cell (hc i 0 hlt (by omega))
      have HXV := Lib.hid hx
      have sw : IntKind.i64.wrap ((f.Firsts.length : Int) - 1) = (f.Firsts.length : Int) - 1 := by rw [IntKind.wrap_i64]; omega
      clear hx
      by_cases hA : 0 ≤ x ∧ x < (f.Firsts.length : Int)
      · have hA1 : 0 ≤ x := hA.1
        have hA2 : x < (f.Firsts.length : Int) := hA.2
        have HIQ := Lib.hid (fun n : Nat => (in_yes x 0 ((f.Firsts.length : Int) - 1) (wr.drewN n) (by omega) (by omega)).mono (fun e w' h => (⟨h.1, h.2.symm⟩ : e = .returned (.bool true) ∧ w' = wr.drewN n)))
        clear hA
        by_cases hC : 0 < i
        · have tC : decide ((0 : Int) < (i : Int)) = true := by simpa using hC
          have hCz : (0 : Int) < (i : Int) := by omega
          obtain ⟨p, hp⟩ : ∃ p : Nat, p = i - 1 := ⟨_, rfl⟩
          have sp : IntKind.i64.wrap ((i : Int) - 1) = (p : Int) := by rw [hp, IntKind.wrap_i64]; omega
          have hpl : p < f.Blocks.length := by omega
          have hpz : (p : Int) < (f.Blocks.length : Int) := by omega
          have HP := Lib.hid hp
          obtain ⟨y, hy⟩ : ∃ y, y = fnc f p := ⟨_, rfl⟩
          have e0 : wr.cell? ⟨b, off + p * 14, none⟩ = some (.int .i64 y) := by rw [hy]; exact HKR.out.cell (hc p 0 hpl (by omega))
          have HYY := Lib.hid hy
          clear hp hy
          by_cases hD : x < y
          · have tD : decide (x < y) = true := by simpa using hD
            have HF : Hid (flowFit f = false) := Lib.hid (flowFit_f (Or.inl (anyN_yes hlt (by unfold fitBad; rw [← HP.out, ← HYY.out, ← HXV.out]; exact decide_eq_true (by omega)))))
            go_wp2_with fail
            go_quiet ((go_at_call 30; exact Calls.quiet_of_same (HIQ.out _)))
            go_wp2_with fail
            go_quiet (fail)
            go_wp2_with fail
            go_ret
            exact ⟨by rw [HF.out]; rfl, HKR.out.trans (((Keeps.refl _).drewN _).drewN _)⟩
          · have tD : decide (x < y) = false := by simpa using hD
            have hok : fitBad f i = false := by unfold fitBad; rw [← HP.out, ← HYY.out, ← HXV.out]; exact decide_eq_false (by omega)
            have HOK := Lib.hid hok
            clear hok
            go_wp2_with fail
            go_quiet ((go_at_call 30; exact Calls.quiet_of_same (HIQ.out _)))
            go_wp2_with fail
            go_quiet (fail)
            go_wp2_with fail
            go_roundw
            case rel => exact ⟨i + 1, by omega, by go_num, Lib.hid (by show (anyN (fitBad f) i || fitBad f i) = false; rw [HA.out, HOK.out]; rfl), Lib.hid (HKW.out.trans ((Keeps.refl _).drewN _))⟩
            case measure => simp [intOf]; omega
        · have tC : decide ((0 : Int) < (i : Int)) = false := by simp; omega
          have hCz : ¬ (0 : Int) < (i : Int) := by omega
          have hok : fitBad f i = false := by unfold fitBad; rw [← HXV.out]; exact decide_eq_false (by omega)
          have HOK := Lib.hid hok
          clear hok
          go_wp2_with fail
          go_quiet ((go_at_call 30; exact Calls.quiet_of_same (HIQ.out _)))
          go_wp2_with fail
          go_quiet (fail)
          go_wp2_with fail
          go_roundw
          case rel => exact ⟨i + 1, by omega, by go_num, Lib.hid (by show (anyN (fitBad f) i || fitBad f i) = false; rw [HA.out, HOK.out]; rfl), Lib.hid (HKW.out.trans ((Keeps.refl _).drewN _))⟩
          case measure => simp [intOf]; omega
      · have hno : x < 0 ∨ (f.Firsts.length : Int) - 1 < x := by omega
        have HIQ := Lib.hid (fun n : Nat => (in_no x 0 ((f.Firsts.length : Int) - 1) (wr.drewN n) (by omega)).mono (fun e w' h => (⟨h.1, h.2.symm⟩ : e = .returned (.bool false) ∧ w' = wr.drewN n)))
        have HF : Hid (flowFit f = false) := Lib.hid (flowFit_f (Or.inl (anyN_yes hlt (by unfold fitBad; rw [← HXV.out]; exact decide_eq_true (by omega)))))
        clear hA
        go_wp2_with fail
        go_quiet ((go_at_call 30; exact Calls.quiet_of_same (HIQ.out _)))
        go_wp2_with fail
        go_ret
        exact ⟨by rw [HF.out]; rfl, HKR.out.trans ((Keeps.refl _).drewN _)⟩
    · obtain rfl : i = f.Blocks.length := by omega
      obtain ⟨wo, hwo⟩ : ∃ wo : World, wo = wr := ⟨_, rfl⟩
      subst hwo
      have HA1 := HA
      have HKO := HKW
      go_wp2_with fail
      go_loopw [4] (fun s4 wr => ∃ i : Nat, i ≤ f.Firsts.length ∧ s4 = .int .i64 i ∧ Hid (anyN (fstBad f) i = false) ∧ wr = wo) (fun s4 _ => f.Firsts.length - (intOf s4).toNat)
      case atStart => exact ⟨0, Nat.zero_le _, rfl, Lib.hid rfl, rfl⟩
      case round =>
        obtain ⟨i, hi, rfl, HA2, rfl⟩ := hrel
        by_cases hlt : i < f.Firsts.length
        · obtain ⟨fb, foff, rfl, hfc⟩ := f3 (by omega)
          have hltz : (i : Int) < (f.Firsts.length : Int) := by omega
          obtain ⟨n, hn⟩ : ∃ n, n = nth f.Firsts i := ⟨_, rfl⟩
          have n0 : wr.cell? ⟨fb, foff + i, none⟩ = some (.int .i64 n) := by have q := HKR.out.cell (hfc i 0 hlt (by omega)); rw [← hn] at q; simpa using q
          have HNN := Lib.hid hn
          clear hn hfc
          obtain ⟨wi, hwi⟩ : ∃ wi : World, wi = wr := ⟨_, rfl⟩
          subst hwi
          go_wp2_with fail
          go_loopw [5, 6] (fun s5 s6 wr => ∃ (m : Nat) (x : Int), m ≤ f.Blocks.length ∧ s5 = .int .i64 x ∧ s6 = .int .i64 ((m : Int) - 1) ∧ Hid (Scan f i m x) ∧ wr = wi) (fun _ s6 _ => (intOf s6 + 1).toNat)
          case atStart => exact ⟨f.Blocks.length, -1, Nat.le_refl _, rfl, rfl, Lib.hid (Or.inl ⟨rfl, fun k h1 h2 => by omega⟩), rfl⟩
          case round =>
            obtain ⟨m, x, hm, rfl, rfl, HS, rfl⟩ := hrel
            by_cases hm0 : m = 0
            · subst hm0
              by_cases hx0 : x < 0
              · have tx : decide (x < 0) = true := by simpa using hx0
                have HF : Hid (flowFit f = false) := Lib.hid (flowFit_f (Or.inr (anyN_yes hlt (HS.out.bad (Or.inl hx0) HA1.out))))
                go_wp2_with fail
                go_ret
                exact ⟨by rw [HF.out]; rfl, HKR.out⟩
              · have tx : decide (x < 0) = false := by simpa using hx0
                by_cases hnx : n = x
                · have tn : (n == x) = true := by simpa using hnx
                  have HOK := Lib.hid (HS.out.good hx0 (HNN.out.symm.trans hnx))
                  clear hnx
                  go_wp2_with fail
                  go_roundw
                  case rel => exact ⟨i + 1, by omega, by go_num, Lib.hid (by show (anyN (fstBad f) i || fstBad f i) = false; rw [HA2.out, HOK.out]; rfl), trivial⟩
                  case measure => simp [intOf]; omega
                · have tn : (n == x) = false := by simpa using hnx
                  have HF : Hid (flowFit f = false) := Lib.hid (flowFit_f (Or.inr (anyN_yes hlt (HS.out.bad (Or.inr (by rw [← HNN.out]; exact hnx)) HA1.out))))
                  clear hnx
                  go_wp2_with fail
                  go_ret
                  exact ⟨by rw [HF.out]; rfl, HKR.out⟩
            · obtain ⟨k, hk⟩ : ∃ k : Nat, k = m - 1 := ⟨_, rfl⟩
              have ek : (m : Int) - 1 = (k : Int) := by omega
              have hkm : k + 1 = m := by omega
              have HKM := Lib.hid hkm
              have hkl : k < f.Blocks.length := by omega
              have hkz : (k : Int) < (f.Blocks.length : Int) := by omega
              obtain ⟨b, off, rfl, hc⟩ := b3 (by omega)
              obtain ⟨y, hy⟩ : ∃ y, y = fnc f k := ⟨_, rfl⟩
              have e0 : wr.cell? ⟨b, off + k * 14, none⟩ = some (.int .i64 y) := by rw [hy]; exact HKR.out.cell (hc k 0 hkl (by omega))
              have HYY := Lib.hid hy
              rw [ek]
              clear hk hy hkm
              by_cases hyi : y = (i : Int)
              · have ty : (y == (i : Int)) = true := by simpa using hyi
                have HS2 : Hid (Scan f i k k) := Lib.hid (Scan.hit hkl (HYY.out.symm.trans hyi))
                clear hyi
                go_wp2_with fail
                go_roundw
                case rel => exact ⟨k, (k : Int), by omega, rfl, rfl, HS2, trivial⟩
                case measure => simp [intOf] <;> omega
              · have ty : (y == (i : Int)) = false := by simpa using hyi
                have HS2 : Hid (Scan f i k x) := Lib.hid (Scan.miss (by rw [HKM.out]; exact HS.out) (by rw [← HYY.out]; exact hyi))
                clear hyi
                go_wp2_with fail
                go_roundw
                case rel => exact ⟨k, x, by omega, rfl, rfl, HS2, trivial⟩
                case measure => simp [intOf] <;> omega
        · obtain rfl : i = f.Firsts.length := by omega
          go_wp2_with fail
          go_ret
          exact ⟨by rw [flowFit_t HA1.out HA2.out]; rfl, HKR.out⟩
end Go.Proofs.Ytofaghcnkppmbaa
