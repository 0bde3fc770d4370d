/-
  place.check: do functions and blocks of a flow fit one another?
-/
import Derived.Test.YtofaghcnkppmbaaFlowCore
import Derived.Test.YtofaghcnkppmbaaAny
import Derived.Test.YtofaghcnkppmbaaIn
import Derived.Test.YtofaghcnkppmbaaChecked
import Derived.Lib.Hide
import Derived.Deep.QuietTactic
import Derived.BigQuiet
import Derived.Deep.CutBlock
namespace Go.Proofs.Ytofaghcnkppmbaa
open Go.RowKit BH
set_option maxHeartbeats 1000000000
set_option maxRecDepth 100000
def fnc (f : Fl) (i : Nat) : Int := (nth f.Blocks i).Func
/-- the block does not fit -/
def fitBad (f : Fl) (i : Nat) : Bool := decide (fnc f i < 0 ∨ (f.Firsts.length : Int) ≤ fnc f i ∨ (0 < i ∧ fnc f i < fnc f (i - 1)))
/-- the function's first block does not fit -/
def fstBad (f : Fl) (i : Nat) : Bool := decide (nth f.Firsts i < 0 ∨ (f.Blocks.length : Int) ≤ nth f.Firsts i ∨ ¬ fnc f (nth f.Firsts i).toNat = i ∨ (0 < nth f.Firsts i ∧ fnc f ((nth f.Firsts i).toNat - 1) = i))
def flowFit (f : Fl) : Bool := !(anyN (fitBad f) f.Blocks.length || anyN (fstBad f) f.Firsts.length)
/-- what place.check answers -/
def fitErr (f : Fl) : Int := if flowFit f then 0 else 8
theorem flowFit_no {f : Fl} (h : anyN (fitBad f) f.Blocks.length = true ∨ anyN (fstBad f) f.Firsts.length = true) : fitErr f = 8 := by
  unfold fitErr flowFit
  rcases h with h | h <;> simp [h]
theorem flowFit_yes {f : Fl} (h : anyN (fitBad f) f.Blocks.length = false) (h2 : anyN (fstBad f) f.Firsts.length = false) : fitErr f = 0 := by
  unfold fitErr flowFit
  simp [h, h2]
theorem check_any (v : Value) (f : Fl) (w : World) (hv : FlowAt w v f) :
    Calls Try.prog 11 #[v] w fun e w' => e = .returned (.int .i64 (fitErr f)) ∧ Keeps w w' := by
  obtain ⟨v0, v1, v2, rfl, ⟨cv, av, lv, ⟨ao, cap, rfl, b1, b2, -, b3⟩, bi⟩, ht, ⟨fo, fcap, rfl, f1, f2, -, f3⟩⟩ := hv
  obtain ⟨tv, ⟨tao, tcap, rfl, -⟩, -⟩ := ht
  unfold maxLen at b2 f2
  obtain ⟨W, hW, hBX, hk0⟩ : ∃ W, W = w.alloc (.cells #[.slice ao f.Blocks.length cap, .slice tao f.Tables.length tcap, .slice fo f.Firsts.length fcap] 26) ∧ Blk W w.heap.size (.cells #[.slice ao f.Blocks.length cap, .slice tao f.Tables.length tcap, .slice fo f.Firsts.length fcap] 26) ∧ Keeps w W := ⟨_, rfl, Blk.top _ _, (Keeps.refl _).alloc _⟩
  have HW := Lib.hid hW
  have HBX := Lib.hid hBX
  have HK0 := Lib.hid hk0
  have x0 := hBX.cell (j := 0) rfl
  have x2 := hBX.cell (j := 2) rfl
  have hxl := hBX.lt
  have HX0 := Lib.hid x0
  have HX2 := Lib.hid x2
  clear hW hBX hk0
  go_enter Try.func11, Try.ntmps11
  go_upto_region 1 with fail
  rw [← HW.out]
  go_wp2_with fail
  go_loopw [10] (fun s10 wr => ∃ i : Nat, i ≤ f.Blocks.length ∧ s10 = .int .i64 i ∧ Hid (anyN (fitBad f) i = false) ∧ Hid (Keeps W wr)) (fun s10 _ => f.Blocks.length - (intOf s10).toNat)
  case atStart => exact ⟨0, Nat.zero_le _, rfl, Lib.hid rfl, Lib.hid (Keeps.refl _)⟩
  case round =>
    obtain ⟨i, hi, rfl, HA, HKW⟩ := hrel
    have HKR := Lib.hid (HK0.out.trans HKW.out)
    by_cases hlt : i < f.Blocks.length
    · obtain ⟨b, off, rfl, hc⟩ := b3 (by omega)
      have hltz : (i : Int) < (f.Blocks.length : Int) := by omega
      obtain ⟨X, hX⟩ : ∃ X, X = nth f.Blocks i := ⟨_, rfl⟩
      obtain ⟨hCode, hAt, hLn⟩ := bi i hlt
      obtain ⟨co, cl, ccap, hcv⟩ : ∃ a n c, Value.slice a n c = cv i := by obtain ⟨a, c, e⟩ := Arr.form hCode; exact ⟨a, _, c, e.symm⟩
      obtain ⟨ka, al, acap, hav⟩ : ∃ a n c, Value.slice a n c = av i := by obtain ⟨a, c, e⟩ := Arr.form hAt; exact ⟨a, _, c, e.symm⟩
      obtain ⟨lo, ll, lcap, hlv⟩ : ∃ a n c, Value.slice a n c = lv i := by obtain ⟨a, c, e⟩ := Arr.form hLn; exact ⟨a, _, c, e.symm⟩
      clear hCode hAt hLn
      have c0 : wr.cell? ⟨b, off + i * 14, none⟩ = some (.int .i64 X.Func) := by have q := HKR.out.cell (hc i 0 hlt (by omega)); rw [← hX] at q; exact q
      have c1 : wr.cell? ⟨b, off + i * 14 + 1, none⟩ = some (.int .i64 X.Start) := by have q := HKR.out.cell (hc i 1 hlt (by omega)); rw [← hX] at q; exact q
      have c2 : wr.cell? ⟨b, off + i * 14 + 2, none⟩ = some (.slice co cl ccap) := by have q := HKR.out.cell (hc i 2 hlt (by omega)); rw [← hX] at q; rw [← hcv] at q; exact q
      have c3 : wr.cell? ⟨b, off + i * 14 + 3, none⟩ = some (.slice ka al acap) := by have q := HKR.out.cell (hc i 3 hlt (by omega)); rw [← hX] at q; rw [← hav] at q; exact q
      have c4 : wr.cell? ⟨b, off + i * 14 + 4, none⟩ = some (.int .i64 X.Last.K) := by have q := HKR.out.cell (hc i 4 hlt (by omega)); rw [← hX] at q; exact q
      have c5 : wr.cell? ⟨b, off + i * 14 + 5, none⟩ = some (.int .i64 X.Last.D) := by have q := HKR.out.cell (hc i 5 hlt (by omega)); rw [← hX] at q; exact q
      have c6 : wr.cell? ⟨b, off + i * 14 + 6, none⟩ = some (.int .i64 X.Last.A) := by have q := HKR.out.cell (hc i 6 hlt (by omega)); rw [← hX] at q; exact q
      have c7 : wr.cell? ⟨b, off + i * 14 + 7, none⟩ = some (.int .i64 X.Last.B) := by have q := HKR.out.cell (hc i 7 hlt (by omega)); rw [← hX] at q; exact q
      have c8 : wr.cell? ⟨b, off + i * 14 + 8, none⟩ = some (.int .i64 X.Last.N) := by have q := HKR.out.cell (hc i 8 hlt (by omega)); rw [← hX] at q; exact q
      have c9 : wr.cell? ⟨b, off + i * 14 + 9, none⟩ = some (.bool X.Last.Lg) := by have q := HKR.out.cell (hc i 9 hlt (by omega)); rw [← hX] at q; exact q
      have c10 : wr.cell? ⟨b, off + i * 14 + 10, none⟩ = some (.int .i64 X.Ends) := by have q := HKR.out.cell (hc i 10 hlt (by omega)); rw [← hX] at q; exact q
      have c11 : wr.cell? ⟨b, off + i * 14 + 11, none⟩ = some (.int .i64 X.To) := by have q := HKR.out.cell (hc i 11 hlt (by omega)); rw [← hX] at q; exact q
      have c12 : wr.cell? ⟨b, off + i * 14 + 12, none⟩ = some (.int .i64 X.Else) := by have q := HKR.out.cell (hc i 12 hlt (by omega)); rw [← hX] at q; exact q
      have c13 : wr.cell? ⟨b, off + i * 14 + 13, none⟩ = some (.slice lo ll lcap) := by have q := HKR.out.cell (hc i 13 hlt (by omega)); rw [← hX] at q; rw [← hlv] at q; exact q
      have HX := Lib.hid hX
      have x0 := HKW.out.cell x0
      have x2 := HKW.out.cell x2
      clear hX hcv hav hlv
      go_upto_region 4 with fail
      obtain ⟨w2, hw2, hB2, hk2⟩ : ∃ w2, w2 = wr.alloc (.cells #[.int .i64 X.Func, .int .i64 X.Start, .slice co cl ccap, .slice ka al acap, .int .i64 X.Last.K, .int .i64 X.Last.D, .int .i64 X.Last.A, .int .i64 X.Last.B, .int .i64 X.Last.N, .bool X.Last.Lg, .int .i64 X.Ends, .int .i64 X.To, .int .i64 X.Else, .slice lo ll lcap] 51) ∧ Blk w2 wr.heap.size (.cells #[.int .i64 X.Func, .int .i64 X.Start, .slice co cl ccap, .slice ka al acap, .int .i64 X.Last.K, .int .i64 X.Last.D, .int .i64 X.Last.A, .int .i64 X.Last.B, .int .i64 X.Last.N, .bool X.Last.Lg, .int .i64 X.Ends, .int .i64 X.To, .int .i64 X.Else, .slice lo ll lcap] 51) ∧ Keeps wr w2 := ⟨_, rfl, Blk.top _ _, (Keeps.refl _).alloc _⟩
      rw [← hw2]
      have i0 := hB2.cell (j := 0) rfl
      have x0 := hk2.cell x0
      have x2 := hk2.cell x2
      have HK2 := Lib.hid (HKW.out.trans hk2)
      have HW2K := Lib.hid hk2
      clear hw2 hB2 hk2 c0 c1 c2 c3 c4 c5 c6 c7 c8 c9 c10 c11 c12 c13
      by_cases hA : X.Func < 0
      · have tA : decide (X.Func < 0) = true := by simpa using hA
        have HF : Hid (fitErr f = 8) := Lib.hid (flowFit_no (Or.inl (anyN_yes hlt (by unfold fitBad fnc; rw [← HX.out]; exact decide_eq_true (by omega)))))
        go_wp2_with fail
        go_quiet (fail)
        go_wp2_with fail
        go_ret
        exact ⟨by rw [HF.out]; rfl, HK0.out.trans (HK2.out.drewN _)⟩
      · have tA : decide (X.Func < 0) = false := by simpa using hA
        by_cases hB : (f.Firsts.length : Int) ≤ X.Func
        · have tB : decide ((f.Firsts.length : Int) ≤ X.Func) = true := by simpa using hB
          have HF : Hid (fitErr f = 8) := Lib.hid (flowFit_no (Or.inl (anyN_yes hlt (by unfold fitBad fnc; rw [← HX.out]; exact decide_eq_true (by omega)))))
          go_wp2_with fail
          go_quiet (fail)
          go_wp2_with fail
          go_ret
          exact ⟨by rw [HF.out]; rfl, HK0.out.trans (HK2.out.drewN _)⟩
        · have tB : decide ((f.Firsts.length : Int) ≤ X.Func) = false := by simpa using hB
          by_cases hC : 0 < i
          · have tC : decide ((0 : Int) < (i : Int)) = true := by simpa using hC
            have hCz : (0 : Int) < (i : Int) := by omega
            obtain ⟨p, hp⟩ : ∃ p : Nat, p = i - 1 := ⟨_, rfl⟩
            have sp : IntKind.i64.wrap ((i : Int) - 1) = (p : Int) := by rw [hp, IntKind.wrap_i64]; omega
            have hpi : p + 1 ≤ i := by omega
            have hpl : p < f.Blocks.length := by omega
            have hpz : (p : Int) < (f.Blocks.length : Int) := by omega
            have HP := Lib.hid hp
            obtain ⟨y, hy⟩ : ∃ y, y = fnc f p := ⟨_, rfl⟩
            have e0 : w2.cell? ⟨b, off + p * 14, none⟩ = some (.int .i64 y) := by rw [hy]; exact (HKR.out.trans HW2K.out).cell (hc p 0 hpl (by omega))
            have HYY := Lib.hid hy
            clear hp hy
            by_cases hD : X.Func < y
            · have tD : decide (X.Func < y) = true := by simpa using hD
              have HF : Hid (fitErr f = 8) := Lib.hid (flowFit_no (Or.inl (anyN_yes hlt (by unfold fitBad; rw [← HP.out, ← HYY.out]; unfold fnc; rw [← HX.out]; exact decide_eq_true (by omega)))))
              go_wp2_with fail
              go_quiet (fail)
              go_wp2_with fail
              go_ret
              exact ⟨by rw [HF.out]; rfl, HK0.out.trans (HK2.out.drewN _)⟩
            · have tD : decide (X.Func < y) = false := by simpa using hD
              have hok : fitBad f i = false := by unfold fitBad; rw [← HP.out, ← HYY.out]; unfold fnc; rw [← HX.out]; exact decide_eq_false (by omega)
              have HOK := Lib.hid hok
              clear hok
              go_wp2_with fail
              go_quiet (fail)
              go_wp2_with fail
              go_roundw
              case rel => exact ⟨i + 1, by omega, by go_num, Lib.hid (by show (anyN (fitBad f) i || fitBad f i) = false; rw [HA.out, HOK.out]; rfl), Lib.hid (HK2.out.drewN _)⟩
              case measure => simp [intOf]; omega
          · have tC : decide ((0 : Int) < (i : Int)) = false := by simp; omega
            have hCz : ¬ (0 : Int) < (i : Int) := by omega
            have hok : fitBad f i = false := by unfold fitBad fnc; rw [← HX.out]; exact decide_eq_false (by omega)
            have HOK := Lib.hid hok
            clear hok
            go_wp2_with fail
            go_quiet (fail)
            go_wp2_with fail
            go_roundw
            case rel => exact ⟨i + 1, by omega, by go_num, Lib.hid (by show (anyN (fitBad f) i || fitBad f i) = false; rw [HA.out, HOK.out]; rfl), Lib.hid (HK2.out.drewN _)⟩
            case measure => simp [intOf]; omega
    · obtain rfl : i = f.Blocks.length := by omega
      obtain ⟨wo, hwo⟩ : ∃ wo : World, wo = wr := ⟨_, rfl⟩
      subst hwo
      have HA1 := HA
      have x0 := HKW.out.cell x0
      have x2 := HKW.out.cell x2
      have HKO := HKW
      go_wp2_with fail
      go_loopw [46] (fun s46 wr => ∃ i : Nat, i ≤ f.Firsts.length ∧ s46 = .int .i64 i ∧ Hid (anyN (fstBad f) i = false) ∧ Hid (Keeps W wr)) (fun s46 _ => f.Firsts.length - (intOf s46).toNat)
      case atStart => exact ⟨0, Nat.zero_le _, rfl, Lib.hid rfl, HKO⟩
      case round =>
        obtain ⟨i, hi, rfl, HA2, HKW⟩ := hrel
        have HKR := Lib.hid (HK0.out.trans HKW.out)
        by_cases hlt : i < f.Firsts.length
        · obtain ⟨fb, foff, rfl, hfc⟩ := f3 (by omega)
          have hltz : (i : Int) < (f.Firsts.length : Int) := by omega
          obtain ⟨n, hn⟩ : ∃ n, n = nth f.Firsts i := ⟨_, rfl⟩
          have n0 : wr.cell? ⟨fb, foff + i, none⟩ = some (.int .i64 n) := by have q := HKR.out.cell (hfc i 0 hlt (by omega)); rw [← hn] at q; simpa using q
          have HNN := Lib.hid hn
          have x0 := HKW.out.cell HX0.out
          have x2 := HKW.out.cell HX2.out
          clear hn hfc
          by_cases hA : n < 0
          · have tA : decide (n < 0) = true := by simpa using hA
            have HF : Hid (fitErr f = 8) := Lib.hid (flowFit_no (Or.inr (anyN_yes hlt (by unfold fstBad; rw [← HNN.out]; exact decide_eq_true (Or.inl hA)))))
            go_wp2_with fail
            go_ret
            exact ⟨by rw [HF.out]; rfl, HKR.out⟩
          · have tA : decide (n < 0) = false := by simpa using hA
            by_cases hB : (f.Blocks.length : Int) ≤ n
            · have tB : decide ((f.Blocks.length : Int) ≤ n) = true := by simpa using hB
              have HF : Hid (fitErr f = 8) := Lib.hid (flowFit_no (Or.inr (anyN_yes hlt (by unfold fstBad; rw [← HNN.out]; exact decide_eq_true (Or.inr (Or.inl hB))))))
              go_wp2_with fail
              go_ret
              exact ⟨by rw [HF.out]; rfl, HKR.out⟩
            · obtain ⟨q, rfl⟩ : ∃ q : Nat, n = q := ⟨n.toNat, by omega⟩
              have hql : q < f.Blocks.length := by omega
              have hqz : (q : Int) < (f.Blocks.length : Int) := by omega
              have tB : decide ((f.Blocks.length : Int) ≤ (q : Int)) = false := by simpa using hB
              have tB2 : decide (f.Blocks.length ≤ q) = false := by simpa using hql
              clear tA hA hB
              obtain ⟨b, off, rfl, hc⟩ := b3 (by omega)
              obtain ⟨y, hy⟩ : ∃ y, y = fnc f q := ⟨_, rfl⟩
              have c0 : wr.cell? ⟨b, off + q * 14, none⟩ = some (.int .i64 y) := by rw [hy]; exact HKR.out.cell (hc q 0 hql (by omega))
              have HYV := Lib.hid hy
              clear hy
              by_cases hC : y = (i : Int)
              · have tC : (y == (i : Int)) = true := by simpa using hC
                have HYI := Lib.hid hC
                clear hC
                by_cases hD : 0 < q
                · have hDz : (0 : Int) < (q : Int) := by omega
                  have tD : decide ((0 : Int) < (q : Int)) = true := by simpa using hD
                  obtain ⟨p, hp⟩ : ∃ p : Nat, p = q - 1 := ⟨_, rfl⟩
                  have sp : (q : Int) - 1 = (p : Int) := by omega
                  have hpl : p < f.Blocks.length := by omega
                  have hpz : (p : Int) < (f.Blocks.length : Int) := by omega
                  have HP := Lib.hid hp
                  obtain ⟨z, hz⟩ : ∃ z, z = fnc f p := ⟨_, rfl⟩
                  have e0 : wr.cell? ⟨b, off + p * 14, none⟩ = some (.int .i64 z) := by rw [hz]; exact HKR.out.cell (hc p 0 hpl (by omega))
                  have HZV := Lib.hid hz
                  clear hp hz
                  by_cases hE : z = (i : Int)
                  · have tE : (z == (i : Int)) = true := by simpa using hE
                    have HZI := Lib.hid hE
                    clear hE
                    have HF : Hid (fitErr f = 8) := Lib.hid (flowFit_no (Or.inr (anyN_yes hlt (by unfold fstBad; rw [← HNN.out, Int.toNat_natCast, ← HYV.out, ← HP.out, ← HZV.out]; exact decide_eq_true (Or.inr (Or.inr (Or.inr ⟨by omega, HZI.out⟩)))))))
                    go_wp2_with fail
                    go_ret
                    exact ⟨by rw [HF.out]; rfl, HKR.out⟩
                  · have tE : (z == (i : Int)) = false := by simpa using hE
                    have HZI := Lib.hid hE
                    clear hE
                    have hok : fstBad f i = false := by unfold fstBad; rw [← HNN.out, Int.toNat_natCast, ← HYV.out, ← HP.out, ← HZV.out]; have h1 := HYI.out; have h2 := HZI.out; exact decide_eq_false (by omega)
                    have HOK := Lib.hid hok
                    clear hok
                    go_wp2_with fail
                    go_roundw
                    case rel => exact ⟨i + 1, by omega, by go_num, Lib.hid (by show (anyN (fstBad f) i || fstBad f i) = false; rw [HA2.out, HOK.out]; rfl), HKW⟩
                    case measure => simp [intOf]; omega
                · have hDz : ¬ (0 : Int) < (q : Int) := by omega
                  have tD : decide ((0 : Int) < (q : Int)) = false := by simpa using hDz
                  have hok : fstBad f i = false := by unfold fstBad; rw [← HNN.out, Int.toNat_natCast, ← HYV.out]; have h1 := HYI.out; exact decide_eq_false (by omega)
                  have HOK := Lib.hid hok
                  clear hok
                  go_wp2_with fail
                  go_roundw
                  case rel => exact ⟨i + 1, by omega, by go_num, Lib.hid (by show (anyN (fstBad f) i || fstBad f i) = false; rw [HA2.out, HOK.out]; rfl), HKW⟩
                  case measure => simp [intOf]; omega
              · have tC : (y == (i : Int)) = false := by simpa using hC
                have HYI := Lib.hid hC
                clear hC
                have HF : Hid (fitErr f = 8) := Lib.hid (flowFit_no (Or.inr (anyN_yes hlt (by unfold fstBad; rw [← HNN.out, Int.toNat_natCast, ← HYV.out]; have h1 := HYI.out; exact decide_eq_true (by omega)))))
                go_wp2_with fail
                go_ret
                exact ⟨by rw [HF.out]; rfl, HKR.out⟩
        · obtain rfl : i = f.Firsts.length := by omega
          go_wp2_with fail
          go_ret
          exact ⟨by rw [flowFit_yes HA1.out HA2.out]; rfl, HKR.out⟩
end Go.Proofs.Ytofaghcnkppmbaa
