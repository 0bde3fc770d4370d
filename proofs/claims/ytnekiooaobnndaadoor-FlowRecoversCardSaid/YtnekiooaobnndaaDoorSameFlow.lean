/-
 The law's sameFlow: true of two flows that read alike.
-/
import Derived.Test.YtnekiooaobnndaaDoorSame
import Derived.Test.YtnekiooaobnndaaDoorRegHead
import Derived.Test.YtnekiooaobnndaaDoorImgFuncs
import Derived.Deep.Cut
set_option linter.all false
namespace Go.Proofs.YtnekiooaobnndaaDoor
open Go.RowKit BH
set_option maxHeartbeats 10000000
set_option maxRecDepth 100000
theorem sameFlow_yes (va vb : Value) (f : Fl) (w : World) (ha : FlowAt w va f) (hb : FlowAt w vb f) :
  Calls Tryd.prog 8 #[va, vb] w fun e w' => e = .returned (.bool true) ∧ Keeps w w' := by
 obtain ⟨a0, a1, a2, rfl, aB, aT, aF⟩ := ha
 obtain ⟨b0, b1, b2, rfl, bB, bT, bF⟩ := hb
 obtain ⟨cva, ava, lva, aA, aR⟩ := aB
 obtain ⟨cvb, avb, lvb, bA, bR⟩ := bB
 obtain ⟨ao, ac, rfl, aA1, aA2, -, aA3⟩ := aA
 obtain ⟨bo, bc, rfl, bA1, bA2, -, bA3⟩ := bA
 unfold maxLen at aA2
 obtain ⟨n, hn⟩ : ∃ n, n = f.Blocks.length := ⟨_, rfl⟩
 rw [← hn] at aA1 aA3 aR bA1 bA3 bR ⊢
 have AA3 := Lib.hid aA3
 have BA3 := Lib.hid bA3
 have AR := Lib.hid aR
 have BR := Lib.hid bR
 have AT := Lib.hid aT
 have BT := Lib.hid bT
 have AF := Lib.hid aF
 have BF := Lib.hid bF
 obtain ⟨a1a, a1c, e1⟩ : ∃ a c, a1 = .slice a f.Tables.length c := by obtain ⟨_, c1, _⟩ := aT; exact Arr.form c1
 obtain ⟨b1a, b1c, e2⟩ : ∃ a c, b1 = .slice a f.Tables.length c := by obtain ⟨_, c1, _⟩ := bT; exact Arr.form c1
 obtain ⟨a2a, a2c, e3⟩ := Arr.form aF
 obtain ⟨b2a, b2c, e4⟩ := Arr.form bF
 subst e1 e2 e3 e4
 clear hn aA3 bA3 aR bR aT bT aF bF
 go_enter Tryd.func8, Tryd.ntmps8
 go_upto_region 1 with fail
 obtain ⟨w0, c0, hw0, hk0, -, hA, hB⟩ := two_paint w (fun _ => 0) (.cells #[.slice ao n ac, .slice a1a f.Tables.length a1c, .slice a2a f.Firsts.length a2c] 32) (.cells #[.slice bo n bc, .slice b1a f.Tables.length b1c, .slice b2a f.Firsts.length b2c] 32) 1
 rw [← hw0]
 obtain ⟨ga, hga⟩ : ∃ g, g = w.heap.size := ⟨_, rfl⟩
 rw [← hga] at hA hB ⊢
 have HA := Lib.hid hA.1
 have HB := Lib.hid hB.1
 have HK0 := Lib.hid hk0
 have p0 : w0.cell? ⟨ga, 0, none⟩ = some (.slice ao n ac) := (HA.out).cell (j := 0) rfl
 have p1 : w0.cell? ⟨ga, 1, none⟩ = some (.slice a1a f.Tables.length a1c) := (HA.out).cell (j := 1) rfl
 have p2 : w0.cell? ⟨ga, 2, none⟩ = some (.slice a2a f.Firsts.length a2c) := (HA.out).cell (j := 2) rfl
 have pl := (HA.out).lt
 have q0 : w0.cell? ⟨ga + 1, 0, none⟩ = some (.slice bo n bc) := (HB.out).cell (j := 0) rfl
 have q1 : w0.cell? ⟨ga + 1, 1, none⟩ = some (.slice b1a f.Tables.length b1c) := (HB.out).cell (j := 1) rfl
 have q2 : w0.cell? ⟨ga + 1, 2, none⟩ = some (.slice b2a f.Firsts.length b2c) := (HB.out).cell (j := 2) rfl
 have ql := (HB.out).lt
 clear hw0 hga hA hB hk0
 go_wp2_with fail
 refine (sameLists_yes _ _ f.Tables _ (AT.out.keep HK0.out) (BT.out.keep HK0.out)).mono ?_
 rintro e w1 ⟨rfl, hk1⟩
 have HK1 := Lib.hid hk1
 clear p0 p1 p2 pl q0 q1 q2 ql hk1
 have p0 : w1.cell? ⟨ga, 0, none⟩ = some (.slice ao n ac) := (HA.out.keep HK1.out).cell (j := 0) rfl
 have p1 : w1.cell? ⟨ga, 1, none⟩ = some (.slice a1a f.Tables.length a1c) := (HA.out.keep HK1.out).cell (j := 1) rfl
 have p2 : w1.cell? ⟨ga, 2, none⟩ = some (.slice a2a f.Firsts.length a2c) := (HA.out.keep HK1.out).cell (j := 2) rfl
 have pl := (HA.out.keep HK1.out).lt
 have q0 : w1.cell? ⟨ga + 1, 0, none⟩ = some (.slice bo n bc) := (HB.out.keep HK1.out).cell (j := 0) rfl
 have q1 : w1.cell? ⟨ga + 1, 1, none⟩ = some (.slice b1a f.Tables.length b1c) := (HB.out.keep HK1.out).cell (j := 1) rfl
 have q2 : w1.cell? ⟨ga + 1, 2, none⟩ = some (.slice b2a f.Firsts.length b2c) := (HB.out.keep HK1.out).cell (j := 2) rfl
 have ql := (HB.out.keep HK1.out).lt
 go_wp2_with fail
 refine (sameInts_yes _ _ f.Firsts _ (Arr.keep AF.out (HK0.out.trans HK1.out)) (Arr.keep BF.out (HK0.out.trans HK1.out))).mono ?_
 rintro e w2 ⟨rfl, hk2⟩
 have HK2 := Lib.hid (HK1.out.trans hk2)
 clear p0 p1 p2 pl q0 q1 q2 ql hk2
 have p0 : w2.cell? ⟨ga, 0, none⟩ = some (.slice ao n ac) := (HA.out.keep HK2.out).cell (j := 0) rfl
 have p1 : w2.cell? ⟨ga, 1, none⟩ = some (.slice a1a f.Tables.length a1c) := (HA.out.keep HK2.out).cell (j := 1) rfl
 have p2 : w2.cell? ⟨ga, 2, none⟩ = some (.slice a2a f.Firsts.length a2c) := (HA.out.keep HK2.out).cell (j := 2) rfl
 have pl := (HA.out.keep HK2.out).lt
 have q0 : w2.cell? ⟨ga + 1, 0, none⟩ = some (.slice bo n bc) := (HB.out.keep HK2.out).cell (j := 0) rfl
 have q1 : w2.cell? ⟨ga + 1, 1, none⟩ = some (.slice b1a f.Tables.length b1c) := (HB.out.keep HK2.out).cell (j := 1) rfl
 have q2 : w2.cell? ⟨ga + 1, 2, none⟩ = some (.slice b2a f.Firsts.length b2c) := (HB.out.keep HK2.out).cell (j := 2) rfl
 have ql := (HB.out.keep HK2.out).lt
 go_wp2_with fail
 clear p0 p1 p2 pl q0 q1 q2 ql
 go_loopw [5] (fun i wr => ∃ k : Nat, k ≤ n ∧ i = .int .i64 k ∧ Hid (Keeps w0 wr)) (fun i _ => n - (intOf i).toNat)
 case atStart => exact ⟨0, Nat.zero_le _, rfl, HK2⟩
 case round =>
  obtain ⟨k, hk, rfl, HKR⟩ := hrel
  have p0 : wr.cell? ⟨ga, 0, none⟩ = some (.slice ao n ac) := (HA.out.keep HKR.out).cell (j := 0) rfl
  have p1 : wr.cell? ⟨ga, 1, none⟩ = some (.slice a1a f.Tables.length a1c) := (HA.out.keep HKR.out).cell (j := 1) rfl
  have p2 : wr.cell? ⟨ga, 2, none⟩ = some (.slice a2a f.Firsts.length a2c) := (HA.out.keep HKR.out).cell (j := 2) rfl
  have pl := (HA.out.keep HKR.out).lt
  have q0 : wr.cell? ⟨ga + 1, 0, none⟩ = some (.slice bo n bc) := (HB.out.keep HKR.out).cell (j := 0) rfl
  have q1 : wr.cell? ⟨ga + 1, 1, none⟩ = some (.slice b1a f.Tables.length b1c) := (HB.out.keep HKR.out).cell (j := 1) rfl
  have q2 : wr.cell? ⟨ga + 1, 2, none⟩ = some (.slice b2a f.Firsts.length b2c) := (HB.out.keep HKR.out).cell (j := 2) rfl
  have ql := (HB.out.keep HKR.out).lt
  by_cases hlt : k < n
  case neg =>
   go_wp2_with fail
   go_ret
   exact ⟨rfl, HK0.out.trans HKR.out⟩
  case pos =>
  obtain ⟨aab, aof, ea, acc⟩ := AA3.out (by omega)
  obtain ⟨bab, bof, eb, bcc⟩ := BA3.out (by omega)
  subst ea eb
  obtain ⟨xa1, xa2, xa3⟩ := AR.out k hlt
  obtain ⟨xb1, xb2, xb3⟩ := BR.out k hlt
  have hkz : Keeps w wr := HK0.out.trans HKR.out
  obtain ⟨X, hX⟩ : ∃ X, X = nth f.Blocks k := ⟨_, rfl⟩
  rw [← hX] at xa1 xa2 xa3 xb1 xb2 xb3
  obtain ⟨ak, akc, ake⟩ := Arr.form xa1
  obtain ⟨ap, apc, ape⟩ := Arr.form xa2
  obtain ⟨an, anc, ane⟩ := Arr.form xa3
  obtain ⟨bk, bkc, bke⟩ := Arr.form xb1
  obtain ⟨bp, bpc, bpe⟩ := Arr.form xb2
  obtain ⟨bn, bnc, bne⟩ := Arr.form xb3
  have ax0 : wr.cell? ⟨aab, aof + k * 14, none⟩ = some (.int .i64 X.Func) := by rw [hX]; exact hkz.cell (acc k 0 hlt (by omega))
  have ax1 : wr.cell? ⟨aab, aof + k * 14 + 1, none⟩ = some (.int .i64 X.Start) := by rw [hX]; exact hkz.cell (acc k 1 hlt (by omega))
  have ax2 : wr.cell? ⟨aab, aof + k * 14 + 2, none⟩ = some (.slice ak X.Code.length akc) := by rw [← ake]; exact hkz.cell (acc k 2 hlt (by omega))
  have ax3 : wr.cell? ⟨aab, aof + k * 14 + 3, none⟩ = some (.slice ap X.At.length apc) := by rw [← ape]; exact hkz.cell (acc k 3 hlt (by omega))
  have ax4 : wr.cell? ⟨aab, aof + k * 14 + 4, none⟩ = some (.int .i64 X.Last.K) := by rw [hX]; exact hkz.cell (acc k 4 hlt (by omega))
  have ax5 : wr.cell? ⟨aab, aof + k * 14 + 5, none⟩ = some (.int .i64 X.Last.D) := by rw [hX]; exact hkz.cell (acc k 5 hlt (by omega))
  have ax6 : wr.cell? ⟨aab, aof + k * 14 + 6, none⟩ = some (.int .i64 X.Last.A) := by rw [hX]; exact hkz.cell (acc k 6 hlt (by omega))
  have ax7 : wr.cell? ⟨aab, aof + k * 14 + 7, none⟩ = some (.int .i64 X.Last.B) := by rw [hX]; exact hkz.cell (acc k 7 hlt (by omega))
  have ax8 : wr.cell? ⟨aab, aof + k * 14 + 8, none⟩ = some (.int .i64 X.Last.N) := by rw [hX]; exact hkz.cell (acc k 8 hlt (by omega))
  have ax9 : wr.cell? ⟨aab, aof + k * 14 + 9, none⟩ = some (.bool X.Last.Lg) := by rw [hX]; exact hkz.cell (acc k 9 hlt (by omega))
  have ax10 : wr.cell? ⟨aab, aof + k * 14 + 10, none⟩ = some (.int .i64 X.Ends) := by rw [hX]; exact hkz.cell (acc k 10 hlt (by omega))
  have ax11 : wr.cell? ⟨aab, aof + k * 14 + 11, none⟩ = some (.int .i64 X.To) := by rw [hX]; exact hkz.cell (acc k 11 hlt (by omega))
  have ax12 : wr.cell? ⟨aab, aof + k * 14 + 12, none⟩ = some (.int .i64 X.Else) := by rw [hX]; exact hkz.cell (acc k 12 hlt (by omega))
  have ax13 : wr.cell? ⟨aab, aof + k * 14 + 13, none⟩ = some (.slice an X.Lines.length anc) := by rw [← ane]; exact hkz.cell (acc k 13 hlt (by omega))
  have axl := lt_of_cell ax0
  have bx0 : wr.cell? ⟨bab, bof + k * 14, none⟩ = some (.int .i64 X.Func) := by rw [hX]; exact hkz.cell (bcc k 0 hlt (by omega))
  have bx1 : wr.cell? ⟨bab, bof + k * 14 + 1, none⟩ = some (.int .i64 X.Start) := by rw [hX]; exact hkz.cell (bcc k 1 hlt (by omega))
  have bx2 : wr.cell? ⟨bab, bof + k * 14 + 2, none⟩ = some (.slice bk X.Code.length bkc) := by rw [← bke]; exact hkz.cell (bcc k 2 hlt (by omega))
  have bx3 : wr.cell? ⟨bab, bof + k * 14 + 3, none⟩ = some (.slice bp X.At.length bpc) := by rw [← bpe]; exact hkz.cell (bcc k 3 hlt (by omega))
  have bx4 : wr.cell? ⟨bab, bof + k * 14 + 4, none⟩ = some (.int .i64 X.Last.K) := by rw [hX]; exact hkz.cell (bcc k 4 hlt (by omega))
  have bx5 : wr.cell? ⟨bab, bof + k * 14 + 5, none⟩ = some (.int .i64 X.Last.D) := by rw [hX]; exact hkz.cell (bcc k 5 hlt (by omega))
  have bx6 : wr.cell? ⟨bab, bof + k * 14 + 6, none⟩ = some (.int .i64 X.Last.A) := by rw [hX]; exact hkz.cell (bcc k 6 hlt (by omega))
  have bx7 : wr.cell? ⟨bab, bof + k * 14 + 7, none⟩ = some (.int .i64 X.Last.B) := by rw [hX]; exact hkz.cell (bcc k 7 hlt (by omega))
  have bx8 : wr.cell? ⟨bab, bof + k * 14 + 8, none⟩ = some (.int .i64 X.Last.N) := by rw [hX]; exact hkz.cell (bcc k 8 hlt (by omega))
  have bx9 : wr.cell? ⟨bab, bof + k * 14 + 9, none⟩ = some (.bool X.Last.Lg) := by rw [hX]; exact hkz.cell (bcc k 9 hlt (by omega))
  have bx10 : wr.cell? ⟨bab, bof + k * 14 + 10, none⟩ = some (.int .i64 X.Ends) := by rw [hX]; exact hkz.cell (bcc k 10 hlt (by omega))
  have bx11 : wr.cell? ⟨bab, bof + k * 14 + 11, none⟩ = some (.int .i64 X.To) := by rw [hX]; exact hkz.cell (bcc k 11 hlt (by omega))
  have bx12 : wr.cell? ⟨bab, bof + k * 14 + 12, none⟩ = some (.int .i64 X.Else) := by rw [hX]; exact hkz.cell (bcc k 12 hlt (by omega))
  have bx13 : wr.cell? ⟨bab, bof + k * 14 + 13, none⟩ = some (.slice bn X.Lines.length bnc) := by rw [← bne]; exact hkz.cell (bcc k 13 hlt (by omega))
  have bxl := lt_of_cell bx0
  have X1 := Lib.hid xa1
  have X2 := Lib.hid xa2
  have X3 := Lib.hid xa3
  have Y1 := Lib.hid xb1
  have Y2 := Lib.hid xb2
  have Y3 := Lib.hid xb3
  rw [ake] at X1
  rw [ape] at X2
  rw [ane] at X3
  rw [bke] at Y1
  rw [bpe] at Y2
  rw [bne] at Y3
  clear xa1 xa2 xa3 xb1 xb2 xb3 ake ape ane bke bpe bne acc bcc hX
  go_upto_region 8 with fail
  obtain ⟨w3, c3, hw3, hk3, -, hA3, hB3⟩ := two_paint wr (fun _ => 0) (.cells #[.int .i64 X.Func, .int .i64 X.Start, .slice ak X.Code.length akc, .slice ap X.At.length apc, .int .i64 X.Last.K, .int .i64 X.Last.D, .int .i64 X.Last.A, .int .i64 X.Last.B, .int .i64 X.Last.N, .bool X.Last.Lg, .int .i64 X.Ends, .int .i64 X.To, .int .i64 X.Else, .slice an X.Lines.length anc] 77) (.cells #[.int .i64 X.Func, .int .i64 X.Start, .slice bk X.Code.length bkc, .slice bp X.At.length bpc, .int .i64 X.Last.K, .int .i64 X.Last.D, .int .i64 X.Last.A, .int .i64 X.Last.B, .int .i64 X.Last.N, .bool X.Last.Lg, .int .i64 X.Ends, .int .i64 X.To, .int .i64 X.Else, .slice bn X.Lines.length bnc] 77) 1
  rw [← hw3]
  obtain ⟨g3, hg3⟩ : ∃ g, g = wr.heap.size := ⟨_, rfl⟩
  rw [← hg3] at hA3 hB3 ⊢
  have HA3 := Lib.hid hA3.1
  have HB3 := Lib.hid hB3.1
  have HK3 := Lib.hid (HKR.out.trans hk3)
  have HKZ := Lib.hid (hkz.trans hk3)
  clear hw3 hg3 hA3 hB3 hk3 hkz p0 p1 p2 pl q0 q1 q2 ql ax0 ax1 ax2 ax3 ax4 ax5 ax6 ax7 ax8 ax9 ax10 ax11 ax12 ax13 bx0 bx1 bx2 bx3 bx4 bx5 bx6 bx7 bx8 bx9 bx10 bx11 bx12 bx13 axl bxl
  have ax0 : w3.cell? ⟨g3, 0, none⟩ = some (.int .i64 X.Func) := HA3.out.cell (j := 0) rfl
  have ax1 : w3.cell? ⟨g3, 1, none⟩ = some (.int .i64 X.Start) := HA3.out.cell (j := 1) rfl
  have ax2 : w3.cell? ⟨g3, 2, none⟩ = some (.slice ak X.Code.length akc) := HA3.out.cell (j := 2) rfl
  have ax3 : w3.cell? ⟨g3, 3, none⟩ = some (.slice ap X.At.length apc) := HA3.out.cell (j := 3) rfl
  have ax4 : w3.cell? ⟨g3, 4, none⟩ = some (.int .i64 X.Last.K) := HA3.out.cell (j := 4) rfl
  have ax5 : w3.cell? ⟨g3, 5, none⟩ = some (.int .i64 X.Last.D) := HA3.out.cell (j := 5) rfl
  have ax6 : w3.cell? ⟨g3, 6, none⟩ = some (.int .i64 X.Last.A) := HA3.out.cell (j := 6) rfl
  have ax7 : w3.cell? ⟨g3, 7, none⟩ = some (.int .i64 X.Last.B) := HA3.out.cell (j := 7) rfl
  have ax8 : w3.cell? ⟨g3, 8, none⟩ = some (.int .i64 X.Last.N) := HA3.out.cell (j := 8) rfl
  have ax9 : w3.cell? ⟨g3, 9, none⟩ = some (.bool X.Last.Lg) := HA3.out.cell (j := 9) rfl
  have ax10 : w3.cell? ⟨g3, 10, none⟩ = some (.int .i64 X.Ends) := HA3.out.cell (j := 10) rfl
  have ax11 : w3.cell? ⟨g3, 11, none⟩ = some (.int .i64 X.To) := HA3.out.cell (j := 11) rfl
  have ax12 : w3.cell? ⟨g3, 12, none⟩ = some (.int .i64 X.Else) := HA3.out.cell (j := 12) rfl
  have ax13 : w3.cell? ⟨g3, 13, none⟩ = some (.slice an X.Lines.length anc) := HA3.out.cell (j := 13) rfl
  have axl := HA3.out.lt
  have bx0 : w3.cell? ⟨g3 + 1, 0, none⟩ = some (.int .i64 X.Func) := HB3.out.cell (j := 0) rfl
  have bx1 : w3.cell? ⟨g3 + 1, 1, none⟩ = some (.int .i64 X.Start) := HB3.out.cell (j := 1) rfl
  have bx2 : w3.cell? ⟨g3 + 1, 2, none⟩ = some (.slice bk X.Code.length bkc) := HB3.out.cell (j := 2) rfl
  have bx3 : w3.cell? ⟨g3 + 1, 3, none⟩ = some (.slice bp X.At.length bpc) := HB3.out.cell (j := 3) rfl
  have bx4 : w3.cell? ⟨g3 + 1, 4, none⟩ = some (.int .i64 X.Last.K) := HB3.out.cell (j := 4) rfl
  have bx5 : w3.cell? ⟨g3 + 1, 5, none⟩ = some (.int .i64 X.Last.D) := HB3.out.cell (j := 5) rfl
  have bx6 : w3.cell? ⟨g3 + 1, 6, none⟩ = some (.int .i64 X.Last.A) := HB3.out.cell (j := 6) rfl
  have bx7 : w3.cell? ⟨g3 + 1, 7, none⟩ = some (.int .i64 X.Last.B) := HB3.out.cell (j := 7) rfl
  have bx8 : w3.cell? ⟨g3 + 1, 8, none⟩ = some (.int .i64 X.Last.N) := HB3.out.cell (j := 8) rfl
  have bx9 : w3.cell? ⟨g3 + 1, 9, none⟩ = some (.bool X.Last.Lg) := HB3.out.cell (j := 9) rfl
  have bx10 : w3.cell? ⟨g3 + 1, 10, none⟩ = some (.int .i64 X.Ends) := HB3.out.cell (j := 10) rfl
  have bx11 : w3.cell? ⟨g3 + 1, 11, none⟩ = some (.int .i64 X.To) := HB3.out.cell (j := 11) rfl
  have bx12 : w3.cell? ⟨g3 + 1, 12, none⟩ = some (.int .i64 X.Else) := HB3.out.cell (j := 12) rfl
  have bx13 : w3.cell? ⟨g3 + 1, 13, none⟩ = some (.slice bn X.Lines.length bnc) := HB3.out.cell (j := 13) rfl
  have bxl := HB3.out.lt
  go_wp2_with fail
  refine (sameInts_yes _ _ X.At _ (Arr.keep X2.out HKZ.out) (Arr.keep Y2.out HKZ.out)).mono ?_
  rintro e w4 ⟨rfl, hk4⟩
  have HK4 := Lib.hid hk4
  clear ax0 ax1 ax2 ax3 ax4 ax5 ax6 ax7 ax8 ax9 ax10 ax11 ax12 ax13 bx0 bx1 bx2 bx3 bx4 bx5 bx6 bx7 bx8 bx9 bx10 bx11 bx12 bx13 axl bxl hk4
  have ax0 : w4.cell? ⟨g3, 0, none⟩ = some (.int .i64 X.Func) := (HA3.out.keep HK4.out).cell (j := 0) rfl
  have ax1 : w4.cell? ⟨g3, 1, none⟩ = some (.int .i64 X.Start) := (HA3.out.keep HK4.out).cell (j := 1) rfl
  have ax2 : w4.cell? ⟨g3, 2, none⟩ = some (.slice ak X.Code.length akc) := (HA3.out.keep HK4.out).cell (j := 2) rfl
  have ax3 : w4.cell? ⟨g3, 3, none⟩ = some (.slice ap X.At.length apc) := (HA3.out.keep HK4.out).cell (j := 3) rfl
  have ax4 : w4.cell? ⟨g3, 4, none⟩ = some (.int .i64 X.Last.K) := (HA3.out.keep HK4.out).cell (j := 4) rfl
  have ax5 : w4.cell? ⟨g3, 5, none⟩ = some (.int .i64 X.Last.D) := (HA3.out.keep HK4.out).cell (j := 5) rfl
  have ax6 : w4.cell? ⟨g3, 6, none⟩ = some (.int .i64 X.Last.A) := (HA3.out.keep HK4.out).cell (j := 6) rfl
  have ax7 : w4.cell? ⟨g3, 7, none⟩ = some (.int .i64 X.Last.B) := (HA3.out.keep HK4.out).cell (j := 7) rfl
  have ax8 : w4.cell? ⟨g3, 8, none⟩ = some (.int .i64 X.Last.N) := (HA3.out.keep HK4.out).cell (j := 8) rfl
  have ax9 : w4.cell? ⟨g3, 9, none⟩ = some (.bool X.Last.Lg) := (HA3.out.keep HK4.out).cell (j := 9) rfl
  have ax10 : w4.cell? ⟨g3, 10, none⟩ = some (.int .i64 X.Ends) := (HA3.out.keep HK4.out).cell (j := 10) rfl
  have ax11 : w4.cell? ⟨g3, 11, none⟩ = some (.int .i64 X.To) := (HA3.out.keep HK4.out).cell (j := 11) rfl
  have ax12 : w4.cell? ⟨g3, 12, none⟩ = some (.int .i64 X.Else) := (HA3.out.keep HK4.out).cell (j := 12) rfl
  have ax13 : w4.cell? ⟨g3, 13, none⟩ = some (.slice an X.Lines.length anc) := (HA3.out.keep HK4.out).cell (j := 13) rfl
  have axl := (HA3.out.keep HK4.out).lt
  have bx0 : w4.cell? ⟨g3 + 1, 0, none⟩ = some (.int .i64 X.Func) := (HB3.out.keep HK4.out).cell (j := 0) rfl
  have bx1 : w4.cell? ⟨g3 + 1, 1, none⟩ = some (.int .i64 X.Start) := (HB3.out.keep HK4.out).cell (j := 1) rfl
  have bx2 : w4.cell? ⟨g3 + 1, 2, none⟩ = some (.slice bk X.Code.length bkc) := (HB3.out.keep HK4.out).cell (j := 2) rfl
  have bx3 : w4.cell? ⟨g3 + 1, 3, none⟩ = some (.slice bp X.At.length bpc) := (HB3.out.keep HK4.out).cell (j := 3) rfl
  have bx4 : w4.cell? ⟨g3 + 1, 4, none⟩ = some (.int .i64 X.Last.K) := (HB3.out.keep HK4.out).cell (j := 4) rfl
  have bx5 : w4.cell? ⟨g3 + 1, 5, none⟩ = some (.int .i64 X.Last.D) := (HB3.out.keep HK4.out).cell (j := 5) rfl
  have bx6 : w4.cell? ⟨g3 + 1, 6, none⟩ = some (.int .i64 X.Last.A) := (HB3.out.keep HK4.out).cell (j := 6) rfl
  have bx7 : w4.cell? ⟨g3 + 1, 7, none⟩ = some (.int .i64 X.Last.B) := (HB3.out.keep HK4.out).cell (j := 7) rfl
  have bx8 : w4.cell? ⟨g3 + 1, 8, none⟩ = some (.int .i64 X.Last.N) := (HB3.out.keep HK4.out).cell (j := 8) rfl
  have bx9 : w4.cell? ⟨g3 + 1, 9, none⟩ = some (.bool X.Last.Lg) := (HB3.out.keep HK4.out).cell (j := 9) rfl
  have bx10 : w4.cell? ⟨g3 + 1, 10, none⟩ = some (.int .i64 X.Ends) := (HB3.out.keep HK4.out).cell (j := 10) rfl
  have bx11 : w4.cell? ⟨g3 + 1, 11, none⟩ = some (.int .i64 X.To) := (HB3.out.keep HK4.out).cell (j := 11) rfl
  have bx12 : w4.cell? ⟨g3 + 1, 12, none⟩ = some (.int .i64 X.Else) := (HB3.out.keep HK4.out).cell (j := 12) rfl
  have bx13 : w4.cell? ⟨g3 + 1, 13, none⟩ = some (.slice bn X.Lines.length bnc) := (HB3.out.keep HK4.out).cell (j := 13) rfl
  have bxl := (HB3.out.keep HK4.out).lt
  go_wp2_with fail
  refine (sameInts_yes _ _ X.Lines _ (Arr.keep X3.out (HKZ.out.trans HK4.out)) (Arr.keep Y3.out (HKZ.out.trans HK4.out))).mono ?_
  rintro e w5 ⟨rfl, hk5⟩
  have HK5 := Lib.hid (HK4.out.trans hk5)
  clear ax0 ax1 ax2 ax3 ax4 ax5 ax6 ax7 ax8 ax9 ax10 ax11 ax12 ax13 bx0 bx1 bx2 bx3 bx4 bx5 bx6 bx7 bx8 bx9 bx10 bx11 bx12 bx13 axl bxl hk5
  have ax0 : w5.cell? ⟨g3, 0, none⟩ = some (.int .i64 X.Func) := (HA3.out.keep HK5.out).cell (j := 0) rfl
  have ax1 : w5.cell? ⟨g3, 1, none⟩ = some (.int .i64 X.Start) := (HA3.out.keep HK5.out).cell (j := 1) rfl
  have ax2 : w5.cell? ⟨g3, 2, none⟩ = some (.slice ak X.Code.length akc) := (HA3.out.keep HK5.out).cell (j := 2) rfl
  have ax3 : w5.cell? ⟨g3, 3, none⟩ = some (.slice ap X.At.length apc) := (HA3.out.keep HK5.out).cell (j := 3) rfl
  have ax4 : w5.cell? ⟨g3, 4, none⟩ = some (.int .i64 X.Last.K) := (HA3.out.keep HK5.out).cell (j := 4) rfl
  have ax5 : w5.cell? ⟨g3, 5, none⟩ = some (.int .i64 X.Last.D) := (HA3.out.keep HK5.out).cell (j := 5) rfl
  have ax6 : w5.cell? ⟨g3, 6, none⟩ = some (.int .i64 X.Last.A) := (HA3.out.keep HK5.out).cell (j := 6) rfl
  have ax7 : w5.cell? ⟨g3, 7, none⟩ = some (.int .i64 X.Last.B) := (HA3.out.keep HK5.out).cell (j := 7) rfl
  have ax8 : w5.cell? ⟨g3, 8, none⟩ = some (.int .i64 X.Last.N) := (HA3.out.keep HK5.out).cell (j := 8) rfl
  have ax9 : w5.cell? ⟨g3, 9, none⟩ = some (.bool X.Last.Lg) := (HA3.out.keep HK5.out).cell (j := 9) rfl
  have ax10 : w5.cell? ⟨g3, 10, none⟩ = some (.int .i64 X.Ends) := (HA3.out.keep HK5.out).cell (j := 10) rfl
  have ax11 : w5.cell? ⟨g3, 11, none⟩ = some (.int .i64 X.To) := (HA3.out.keep HK5.out).cell (j := 11) rfl
  have ax12 : w5.cell? ⟨g3, 12, none⟩ = some (.int .i64 X.Else) := (HA3.out.keep HK5.out).cell (j := 12) rfl
  have ax13 : w5.cell? ⟨g3, 13, none⟩ = some (.slice an X.Lines.length anc) := (HA3.out.keep HK5.out).cell (j := 13) rfl
  have axl := (HA3.out.keep HK5.out).lt
  have bx0 : w5.cell? ⟨g3 + 1, 0, none⟩ = some (.int .i64 X.Func) := (HB3.out.keep HK5.out).cell (j := 0) rfl
  have bx1 : w5.cell? ⟨g3 + 1, 1, none⟩ = some (.int .i64 X.Start) := (HB3.out.keep HK5.out).cell (j := 1) rfl
  have bx2 : w5.cell? ⟨g3 + 1, 2, none⟩ = some (.slice bk X.Code.length bkc) := (HB3.out.keep HK5.out).cell (j := 2) rfl
  have bx3 : w5.cell? ⟨g3 + 1, 3, none⟩ = some (.slice bp X.At.length bpc) := (HB3.out.keep HK5.out).cell (j := 3) rfl
  have bx4 : w5.cell? ⟨g3 + 1, 4, none⟩ = some (.int .i64 X.Last.K) := (HB3.out.keep HK5.out).cell (j := 4) rfl
  have bx5 : w5.cell? ⟨g3 + 1, 5, none⟩ = some (.int .i64 X.Last.D) := (HB3.out.keep HK5.out).cell (j := 5) rfl
  have bx6 : w5.cell? ⟨g3 + 1, 6, none⟩ = some (.int .i64 X.Last.A) := (HB3.out.keep HK5.out).cell (j := 6) rfl
  have bx7 : w5.cell? ⟨g3 + 1, 7, none⟩ = some (.int .i64 X.Last.B) := (HB3.out.keep HK5.out).cell (j := 7) rfl
  have bx8 : w5.cell? ⟨g3 + 1, 8, none⟩ = some (.int .i64 X.Last.N) := (HB3.out.keep HK5.out).cell (j := 8) rfl
  have bx9 : w5.cell? ⟨g3 + 1, 9, none⟩ = some (.bool X.Last.Lg) := (HB3.out.keep HK5.out).cell (j := 9) rfl
  have bx10 : w5.cell? ⟨g3 + 1, 10, none⟩ = some (.int .i64 X.Ends) := (HB3.out.keep HK5.out).cell (j := 10) rfl
  have bx11 : w5.cell? ⟨g3 + 1, 11, none⟩ = some (.int .i64 X.To) := (HB3.out.keep HK5.out).cell (j := 11) rfl
  have bx12 : w5.cell? ⟨g3 + 1, 12, none⟩ = some (.int .i64 X.Else) := (HB3.out.keep HK5.out).cell (j := 12) rfl
  have bx13 : w5.cell? ⟨g3 + 1, 13, none⟩ = some (.slice bn X.Lines.length bnc) := (HB3.out.keep HK5.out).cell (j := 13) rfl
  have bxl := (HB3.out.keep HK5.out).lt
  go_wp2_with fail
  clear ax0 ax1 ax2 ax3 ax4 ax5 ax6 ax7 ax8 ax9 ax10 ax11 ax12 ax13 bx0 bx1 bx2 bx3 bx4 bx5 bx6 bx7 bx8 bx9 bx10 bx11 bx12 bx13 axl bxl
  go_loopw [8] (fun i wx => ∃ j : Nat, j ≤ X.Code.length ∧ i = .int .i64 j ∧ Hid (Keeps w3 wx)) (fun i _ => X.Code.length - (intOf i).toNat)
  case atStart => exact ⟨0, Nat.zero_le _, rfl, HK5⟩
  case round =>
   obtain ⟨j, hj, rfl, HKX⟩ := hrel
   have ax2 : wr.cell? ⟨g3, 2, none⟩ = some (.slice ak X.Code.length akc) := (HA3.out.keep HKX.out).cell (j := 2) rfl
   have axl := (HA3.out.keep HKX.out).lt
   have bx2 : wr.cell? ⟨g3 + 1, 2, none⟩ = some (.slice bk X.Code.length bkc) := (HB3.out.keep HKX.out).cell (j := 2) rfl
   have bxl := (HB3.out.keep HKX.out).lt
   have hcl : X.Code.length < 9223372036854775808 := by obtain ⟨_, _, _, i1, i2, _, _⟩ := X1.out; unfold maxLen at i2; omega
   by_cases hlj : j < X.Code.length
   case neg =>
    go_wp2_with fail
    go_roundw
    case rel => exact ⟨k + 1, by omega, by go_num, Lib.hid (HK3.out.trans HKX.out)⟩
    case measure => simp [intOf]; omega
   case pos =>
   obtain ⟨_, _, u1, -, u2, -, u4⟩ := X1.out
   obtain ⟨_, _, v1, -, -, -, v4⟩ := Y1.out
   injection u1 with u11 u12 u13
   injection v1 with v11 v12 v13
   subst u11 u13 v11 v13
   obtain ⟨pb, po, eu, pc⟩ := u4 (by omega)
   obtain ⟨qb, qo, ev, qc⟩ := v4 (by omega)
   subst eu ev
   have hkv := HKZ.out.trans HKX.out
   have m0 : wr.cell? ⟨pb, po + j * 6, none⟩ = some (.int .i64 (nth X.Code j).K) := hkv.cell (pc j 0 hlj (by omega))
   have m1 : wr.cell? ⟨pb, po + j * 6 + 1, none⟩ = some (.int .i64 (nth X.Code j).D) := hkv.cell (pc j 1 hlj (by omega))
   have m2 : wr.cell? ⟨pb, po + j * 6 + 2, none⟩ = some (.int .i64 (nth X.Code j).A) := hkv.cell (pc j 2 hlj (by omega))
   have m3 : wr.cell? ⟨pb, po + j * 6 + 3, none⟩ = some (.int .i64 (nth X.Code j).B) := hkv.cell (pc j 3 hlj (by omega))
   have m4 : wr.cell? ⟨pb, po + j * 6 + 4, none⟩ = some (.int .i64 (nth X.Code j).N) := hkv.cell (pc j 4 hlj (by omega))
   have m5 : wr.cell? ⟨pb, po + j * 6 + 5, none⟩ = some (.bool (nth X.Code j).Lg) := hkv.cell (pc j 5 hlj (by omega))
   have n0 : wr.cell? ⟨qb, qo + j * 6, none⟩ = some (.int .i64 (nth X.Code j).K) := hkv.cell (qc j 0 hlj (by omega))
   have n1 : wr.cell? ⟨qb, qo + j * 6 + 1, none⟩ = some (.int .i64 (nth X.Code j).D) := hkv.cell (qc j 1 hlj (by omega))
   have n2 : wr.cell? ⟨qb, qo + j * 6 + 2, none⟩ = some (.int .i64 (nth X.Code j).A) := hkv.cell (qc j 2 hlj (by omega))
   have n3 : wr.cell? ⟨qb, qo + j * 6 + 3, none⟩ = some (.int .i64 (nth X.Code j).B) := hkv.cell (qc j 3 hlj (by omega))
   have n4 : wr.cell? ⟨qb, qo + j * 6 + 4, none⟩ = some (.int .i64 (nth X.Code j).N) := hkv.cell (qc j 4 hlj (by omega))
   have n5 : wr.cell? ⟨qb, qo + j * 6 + 5, none⟩ = some (.bool (nth X.Code j).Lg) := hkv.cell (qc j 5 hlj (by omega))
   clear u4 v4 pc qc hkv
   go_wp2
   go_quiet (fail)
   go_wp2
   go_roundw
   case rel => exact ⟨j + 1, by omega, by go_num, Lib.hid (HKX.out.drewN _)⟩
   case measure => simp [intOf]; omega
end Go.Proofs.YtnekiooaobnndaaDoor
