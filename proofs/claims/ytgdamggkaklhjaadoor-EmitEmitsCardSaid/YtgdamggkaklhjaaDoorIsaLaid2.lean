/-
Small parts of isa.Decode and the document's InstrAt: a byte
-/
import Derived.Test.YtgdamggkaklhjaaDoorImgFuncs
set_option linter.all false
section
namespace Go.Proofs.YtgdamggkaklhjaaDoor
open Go.RowKit BH
set_option maxHeartbeats 1000000
set_option maxRecDepth 100000

def num8 (b : Int) : Int := if b < 128 then b else b - 256
def num16 (lo hi : Int) : Int := if lo + 256 * hi < 32768 then lo + 256 * hi else lo + 256 * hi - 65536

theorem num8_bits (x : Int) (h1 : 0 ≤ x) (h2 : x < 256) : wrap64 (IntKind.i8.wrap x) = num8 x := by
 obtain ⟨a, rfl⟩ : ∃ a : Nat, x = a := ⟨x.toNat, by omega⟩
 have : ∀ a : Nat, a < 256 → wrap64 (IntKind.i8.wrap (a : Int)) = num8 a := by decide +kernel
 exact this a jo
theorem or_two (x y : Int) (h1 : 0 ≤ x) (h2 : x < 256) (h3 : 0 ≤ y) (h4 : y < 256) : bits BinOp.or IntKind.u16 x (y * 256) = x + 256 * y := by
 obtain ⟨a, rfl⟩ : ∃ a : Nat, x = a := ⟨x.toNat, by omega⟩
 obtain ⟨b, rfl⟩ : ∃ b : Nat, y = b := ⟨y.toNat, by omega⟩
 have h := u16_or_nat a (b * 256) jo jo
 rw [show ((b : Int) * 256) = ((b * 256 : Nat) : Int) by omega, h]
 have h2 : a < 2 ^ 8 := by omega
 have h3 := Nat.shiftLeft_add_eq_or_of_lt h2 b
 rw [Nat.shiftLeft_eq] at h3
 rw [Nat.or_comm, show b * 256 = b * 2 ^ 8 from rfl, ← h3]
 omega
theorem num16_bits (x y : Int) (h1 : 0 ≤ x) (h2 : x < 256) (h3 : 0 ≤ y) (h4 : y < 256) : wrap64 (IntKind.i16.wrap (bits BinOp.or IntKind.u16 x (y * 256))) = num16 x y := by
 rw [or_two x y h1 h2 h3 h4]
 have hw : IntKind.i16.wrap (x + 256 * y) = (x + 256 * y + 32768) % 65536 - 32768 := by simp [IntKind.wrap, IntKind.bits, IntKind.signed]; split <;> omega
 rw [hw]
 unfold num16 wrap64
 split <;> omega
theorem number_one (b off cap : Nat) (x : Int) (w : World) (hc : w.cell? ⟨b, off, none⟩ = some (.int .u8 x)) (h1 : 0 ≤ x) (h2 : x < 256) :
  Calls Tryd.prog 73 #[.slice (some ⟨b, off, none⟩) 1 cap] w fun e w' => e = .returned (.int .i64 (num8 x)) ∧ w' = w := by
 go_enter Tryd.func73, Tryd.ntmps73
 go_wp2
 go_ret
 exact ⟨ret_num (num8_bits x h1 h2), rfl⟩
theorem number_two (b off cap : Nat) (x y : Int) (w : World) (hc : w.cell? ⟨b, off, none⟩ = some (.int .u8 x)) (hd : w.cell? ⟨b, off + 1, none⟩ = some (.int .u8 y)) (h1 : 0 ≤ x) (h2 : x < 256) (h3 : 0 ≤ y) (h4 : y < 256) :
  Calls Tryd.prog 73 #[.slice (some ⟨b, off, none⟩) 2 cap] w fun e w' => e = .returned (.int .i64 (num16 x y)) ∧ ∃ n, w' = w.drewN n := by
 go_enter Tryd.func73, Tryd.ntmps73
 go_wp2
 go_quiet (fail)
 go_wp2
 go_ret
 exact ⟨ret_num (num16_bits x y h1 h2 h3 h4), ⟨_, rfl⟩⟩
theorem signed_one (b off cap : Nat) (x : Int) (w : World) (hc : w.cell? ⟨b, off, none⟩ = some (.int .u8 x)) (h1 : 0 ≤ x) (h2 : x < 256) :
  Calls Tryd.prog 67 #[.slice (some ⟨b, off, none⟩) 1 cap] w fun e w' => e = .returned (.int .i64 (num8 x)) ∧ w' = w := by
 go_enter Tryd.func67, Tryd.ntmps67
 go_wp2
 all_goals
  go_ret
  refine ⟨ret_num ?_, rfl⟩
  unfold num8
  split <;> omega
theorem signed_two (b off cap : Nat) (x y : Int) (w : World) (hc : w.cell? ⟨b, off, none⟩ = some (.int .u8 x)) (hd : w.cell? ⟨b, off + 1, none⟩ = some (.int .u8 y)) (h1 : 0 ≤ x) (h2 : x < 256) (h3 : 0 ≤ y) (h4 : y < 256) :
  Calls Tryd.prog 67 #[.slice (some ⟨b, off, none⟩) 2 cap] w fun e w' => e = .returned (.int .i64 (num16 x y)) ∧ ∃ n, w' = w.drewN n := by
 go_enter Tryd.func67, Tryd.ntmps67
 go_wp2
 go_quiet (fail)
 go_wp2
 all_goals
  go_ret
  refine ⟨ret_num ?_, ⟨_, rfl⟩⟩
  unfold num16
  split <;> omega

theorem outside_any (n : Int) (b len cap : Nat) (ao : Option Addr) (w : World) (hb : w.cell? ⟨b, 0, none⟩ = some (.slice ao len cap)) :
  Calls Tryd.prog 49 #[.int .i64 n, .pointer (some ⟨b, 0, none⟩)] w fun e w' => e = .returned (.bool (decide (n < 0 ∨ (len : Int) ≤ n))) ∧ w = w' := by
 go_enter Tryd.func49, Tryd.ntmps49
 go_wp2
 all_goals
  go_ret
  refine ⟨ret_bool ?_, rfl⟩
  first
   | (rw [Bool.eq_iff_iff]; done)
   | (rw [Bool.eq_iff_iff]; simp; done)
   | (rw [Bool.eq_iff_iff]; simp; omega)
theorem dataOut_any (n : Int) (w : World) :
  Calls Tryd.prog 50 #[.int .i64 n] w fun e w' => e = .returned (.bool (decide (n < -1099511627776 ∨ 1099511627776 < n))) ∧ w = w' := by
 go_enter Tryd.func50, Tryd.ntmps50
 go_wp2
 all_goals
  go_ret
  refine ⟨ret_bool ?_, rfl⟩
  first
   | (rw [Bool.eq_iff_iff]; done)
   | (rw [Bool.eq_iff_iff]; simp; done)
   | (rw [Bool.eq_iff_iff]; simp; omega)

theorem imgFault_text {m : Img} (h : 8000 < m.Text.length) : imgFault m = 1 := by unfold imgFault; rw [if_pos h]
theorem imgFault_funcs {m : Img} (h : ¬ 8000 < m.Text.length) (h1 : funcsFault m ≠ 0) : imgFault m = funcsFault m := by unfold imgFault; rw [if_neg h, if_pos h1]
theorem imgFault_entry {m : Img} (h : ¬ 8000 < m.Text.length) (h1 : funcsFault m = 0) : imgFault m = entryFault m := by unfold imgFault; rw [if_neg h, if_neg (by simpa using h1)]

theorem imgCheck_any (v : Value) (m : Img) (w : World) (hv : ImgAt w v m) :
  Calls Tryd.prog 24 #[v] w fun e w' => e = .returned (.int .i64 (imgFault m)) ∧ Keeps w w' := by
 have H9 := hv
 obtain ⟨v0, v1, v2, v3, v4, rfl, ⟨He, c0, rfl, t1, t2, -, -⟩, ⟨Hf, c1, rfl, f1, f2, -, -⟩, ⟨tv, ⟨Hg, c2, rfl, g1, g2, -, g3⟩, rv⟩, hD, -⟩ := hv
 obtain ⟨Hh, c3, e3, d1, d2, -⟩ := id hD
 subst e3
 unfold maxLen at t2 f2 g2 d2
 obtain ⟨W1, Ha, H7, hsW, i0, i1, i2, i3, i4, i5⟩ := box6 w 28 (.slice He m.Text.length c0) (.slice Hf m.Funcs.length c1) (.slice Hg m.Tables.length c2) (.slice Hh m.Data.length c3) v4 (.int .i64 m.Entry)
 have HW := jH Ha
 clear Ha
 by_cases hbig : 8000 < m.Text.length
 ·have HF := jH (imgFault_text hbig)
  clear g3 rv i0 i1 i2 i3 i4 i5
  go_enter Tryd.func24, Tryd.ntmps24
  go_wp2
  go_ret
  exact ⟨by rw [HF.out]; rfl, (Keeps.refl _).alloc _⟩
 have hbl : m.Text.length ≤ 8000 := by omega
 have HV := H9.keep H7
 have HC := jH (funcs_any _ m W1 HV)
 by_cases hF : funcsFault m = 0
 ·have HF := jH (imgFault_entry hbig hF)
  rw [hF] at HC
  have Hb : ∀ args w, (callFunc 49 args).run Tryd.prog w = .ok (.enter 49 args) w := enters_of Tryd.func49 jx rfl
  have Hc : ∀ args w, (callFunc 50 args).run Tryd.prog w = .ok (.enter 50 args) w := enters_of Tryd.func50 jx rfl
  obtain ⟨Hi, Hj⟩ := hid2 Hb Hc
  clear Hb Hc hF hbig
  go_enter Tryd.func24, Tryd.ntmps24
  go_wp2_with fail
  rw [← HW.out]
  refine HC.out.mono ?_
  rintro e W2 ⟨rfl, H3⟩
  have j0 := H3.cell i0
  have j1 := H3.cell i1
  have j2 := H3.cell i2
  have j3 := H3.cell i3
  have j4 := H3.cell i4
  have j5 := H3.cell i5
  have H6 := H7.trans H3
  clear i0 i1 i2 i3 i4 i5
  by_cases hE : m.Entry < 0 ∨ (m.Funcs.length : Int) ≤ m.Entry
  ·have HR := jH (HF.out.trans (show entryFault m = 6 by unfold entryFault; rw [if_pos hE]))
   clear g3 rv
   go_wp2
   all_goals first
    | (exfalso; omega)
    | (go_ret
       exact ⟨by rw [HR.out]; rfl, H6⟩)
  by_cases hN : 20 < m.Tables.length ∨ 64 < m.Data.length
  ·have HR := jH (HF.out.trans (show entryFault m = 1 by unfold entryFault; rw [if_neg hE, if_pos hN]))
   obtain ⟨H8, Hk⟩ : 0 ≤ m.Entry ∧ m.Entry < (m.Funcs.length : Int) := by omega
   have b1 : decide (m.Entry < 0) = false := by simpa using H8
   clear g3 rv hE
   go_wp2
   all_goals first
    | (exfalso; omega)
    | (go_ret
       exact ⟨by rw [HR.out]; rfl, H6⟩)
  have HR := jH (HF.out.trans (show entryFault m = tabsFault m by unfold entryFault; rw [if_neg hE, if_neg hN]))
  obtain ⟨H8, Hk⟩ : 0 ≤ m.Entry ∧ m.Entry < (m.Funcs.length : Int) := by omega
  obtain ⟨hN1, hN2⟩ : m.Tables.length ≤ 20 ∧ m.Data.length ≤ 64 := by omega
  have b1 : decide (m.Entry < 0) = false := by simpa using H8
  have b2 : decide (20 < (m.Tables.length : Int)) = false := by simp; omega
  have b3 : decide (20 < m.Tables.length) = false := by simp; omega
  clear hE hN
  go_wp2
  go_loopw [5, 39] (fun _ i wr => ∃ k : Nat, k ≤ m.Tables.length ∧ i = .int .i64 k ∧ Keeps W2 wr ∧ Hid (scan (tabBad m) (dataFault m) (m.Tables.length - k) k = tabsFault m)) (fun _ i _ => m.Tables.length - (intOf i).toNat)
  case atStart => exact ⟨0, Nat.zero_le _, rfl, Keeps.refl _, (show scan _ _ _ _ = tabsFault m from rfl)⟩
  case round =>
  obtain ⟨k, hk, rfl, H0, H1⟩ := hrel
  have l0 := H0.cell j0
  have l1 := H0.cell j1
  have l2 := H0.cell j2
  have l3 := H0.cell j3
  have l4 := H0.cell j4
  have l5 := H0.cell j5
  have H5 := H6.trans H0
  by_cases hlt : k < m.Tables.length
  ·obtain ⟨b, Hl, rfl, hc⟩ := g3 jo
   have ct := jv wr b (Hl + k) (tv k) (H5.cell (by simpa using hc k 0 hlt jo))
   have hT := (rv k hlt).keep H5
   obtain ⟨ao5, c5, e5, u1, u2, -⟩ := id hT
   rw [e5] at ct hT
   unfold maxLen at u2
   have hp : PredIn Tryd.prog 49 #[.pointer (some ⟨w.heap.size, 0, none⟩)] (nth m.Tables k).length (fun i => .int .i64 (nth (nth m.Tables k) i)) (outside m (nth m.Tables k)) wr :=
    fun W' i hi hk' => (outside_any _ _ _ _ _ W' (hk'.cell l0)).mono fun e w' ⟨h1, h2⟩ => ⟨h1, h2 ▸ Keeps.refl _⟩
   have H4 := jH (containsFunc_int _ _ _ _ _ _ wr hT Hi.out hp)
   clear hc g3 rv e5 hp hT
   rcases tabBad_cases m k with ⟨h1, hv⟩ | ⟨h1, ⟨h2, hv⟩ | ⟨h2, hv⟩⟩
   ·have HB := jH (HR.out.trans ((scan_stop hlt (by rw [hv]; decide) H1.out).trans hv))
    clear H1 hv
    go_wp2
    go_ret
    exact ⟨by rw [HB.out]; rfl, H5⟩
   ·have HB := jH (HR.out.trans ((scan_stop hlt (by rw [hv]; decide) H1.out).trans hv))
    rw [h2] at H4
    clear H1 hv h2
    go_wp2_with fail
    refine H4.out.mono ?_
    rintro e w3 ⟨rfl, H2⟩
    go_wp2
    go_ret
    exact ⟨by rw [HB.out]; rfl, H5.trans H2⟩
   have HB := jH (scan_step hlt hv H1.out)
   rw [h2] at H4
   clear H1 hv h2
   go_wp2_with fail
   refine H4.out.mono ?_
   rintro e w3 ⟨rfl, H2⟩
   go_wp2
   go_roundw
   case rel => exact ⟨k + 1, by omega, by go_num, H0.trans H2, HB.out⟩
   case measure => exact jm
  have Hd : k = m.Tables.length := by omega
  have HE := jH (HR.out.trans (scan_end Hd H1.out))
  have hp : PredIn Tryd.prog 50 #[] m.Data.length (fun i => .int .i64 (nth m.Data i)) (dataOut m.Data) wr :=
   fun W' i hi hk' => (dataOut_any _ W').mono fun e w' ⟨h1, h2⟩ => ⟨h1, h2 ▸ Keeps.refl _⟩
  obtain ⟨H4, HL⟩ := hid2 (containsFunc_int _ _ _ _ _ _ wr (Arr.keep hD H5) Hj.out hp) (fun W' (hk' : Keeps wr W') => lines_any _ m W' (H9.keep (H5.trans hk')))
  clear H1 g3 rv hp Hd
  cases h2 : anyN (dataOut m.Data) m.Data.length with
  | true =>
   have HQ := jH (HE.out.trans (show dataFault m = 2 by unfold dataFault; rw [if_pos h2]))
   rw [h2] at H4
   clear h2
   go_wp2_with fail
   refine H4.out.mono ?_
   rintro e w3 ⟨rfl, H2⟩
   go_wp2
   go_ret
   exact ⟨by rw [HQ.out]; rfl, H5.trans H2⟩
  | false =>
   have HQ := jH (HE.out.trans (show dataFault m = linesFault m by unfold dataFault; rw [if_neg (by rw [h2]; simp)]))
   rw [h2] at H4
   clear h2
   go_wp2_with fail
   refine H4.out.mono ?_
   rintro e w3 ⟨rfl, H2⟩
   have n0 := H2.cell l0
   have n1 := H2.cell l1
   have n2 := H2.cell l2
   have n3 := H2.cell l3
   have n4 := H2.cell l4
   have n5 := H2.cell l5
   go_wp2_with fail
   refine (HL.out _ H2).mono ?_
   rintro e w4 ⟨rfl, Hm⟩
   go_wp2
   go_ret
   exact ⟨by rw [HQ.out]; rfl, (H5.trans H2).trans Hm⟩
 have HF := jH (imgFault_funcs hbig hF)
 have hF1 : (funcsFault m == 0) = false := by simpa using hF
 have hF2 : (funcsFault m != 0) = true := by simpa using hF
 clear g3 rv hF hbig
 go_enter Tryd.func24, Tryd.ntmps24
 go_wp2_with fail
 rw [← HW.out]
 refine HC.out.mono ?_
 rintro e W2 ⟨rfl, H3⟩
 go_wp2
 go_ret
 exact ⟨by rw [HF.out]; rfl, H7.trans H3⟩
end Go.Proofs.YtgdamggkaklhjaaDoor
end
section
namespace Go.Proofs.YtgdamggkaklhjaaDoor
open Go.RowKit BH Go.ChangeShapes Go.WideShapes Go.Deep
set_option maxRecDepth 100000

theorem laid_second {P : Program} {W : World} {n1 name : String} {d1 d : DataW Unit} {rest : List (String × DataW Unit)} {g : Nat} {t : TypeId}
  (hg : P.globalNamed name = some g) (hty : (P.globals[g]?).map (·.type) = some t) (h : laidMet P ((n1, d1) :: (name, d) :: rest) W) :
  ∃ cs fuel q, W.var? P name = some cs ∧ DataW.trod (fun _ => ()) P W 0 (fun _ => true) false fuel t cs.toList = some (d, q) := by
 obtain ⟨ps, ⟨g0, t0, cs0, H2, p0, q0, -, -, -, -, H0, -⟩, _⟩ := h
 obtain ⟨g', t', cs, fuel, p, q, H3, H4, H1, hd, _, _⟩ := H0
 obtain rfl := Option.some.inj (hg.symm.trans H3)
 obtain rfl := Option.some.inj (hty.symm.trans H4)
 exact ⟨cs, fuel, _, H1, hd⟩

theorem sizes_cells {H : Type} {enc : TypeId × Value → H} {w : World} {base : Nat} {sp : Nat → Bool} {hd : Bool} {fuel : Nat} {cs : List Value} {ds : List (DataW H)} {p : List MemPlace}
  (h : DataW.trod enc Tryd.prog w base sp hd fuel 120 cs = some (.agg ds, p)) (i : Nat) (hi : i < 12) (a : Int) (hds : ds[i]? = some (.lit (.int .i64 a))) :
  cs[i]? = some (.int .i64 a) := by
 obtain ⟨xs, m, -, hx, hl, hn, H1⟩ := DataW.trod_array Tryd.underlying120 h
 simp only [Prod.mk.injEq, DataW.agg.injEq] at hx
 obtain ⟨rfl, -⟩ := hx
 have he := H1 i hi
 rw [List.getElem?_map] at hds
 obtain ⟨y, hy, H0⟩ := Option.map_eq_some_iff.1 hds
 rw [hy, cells_i, Nat.mul_one] at he
 obtain ⟨z0, q0, r0, -⟩ := DataW.trod_int Tryd.underlying3 he
 rw [r0] at H0
 simp only [DataW.lit.injEq, Lit.int.injEq, true_and] at H0
 subst H0
 have h0 := congrArg (·[0]?) q0
 simp only [List.getElem?_cons_zero, List.getElem?_take, Nat.lt_one_iff, if_true, List.getElem?_drop, Nat.add_zero] at h0
 exact h0

theorem siz_of_laid {W : World} {x : String × DataW Unit} {rest : List (String × DataW Unit)} (h : laidMet Tryd.prog (x :: ("bolthole/isa.sizes", Rows.laid_bolthole_isa_sizes) :: rest) W) : Siz W := by
 obtain ⟨cs, H1, q, H0, hd⟩ := laid_second gSizes gSizesType h
 intro s hs
 have hc : cs.toList[s]? = some (.int .i64 (sizeT s)) := by
  refine sizes_cells hd s hs _ ?_
  match s, hs with
  | 0, _ => rfl
  | 1, _ => rfl
  | 2, _ => rfl
  | 3, _ => rfl
  | 4, _ => rfl
  | 5, _ => rfl
  | 6, _ => rfl
  | 7, _ => rfl
  | 8, _ => rfl
  | 9, _ => rfl
  | 10, _ => rfl
  | 11, _ => rfl
  | n + 12, hs => exact absurd hs jo
 rw [World.var?_cell gSizes H0 s]
 simpa using hc
end Go.Proofs.YtgdamggkaklhjaaDoor
end
