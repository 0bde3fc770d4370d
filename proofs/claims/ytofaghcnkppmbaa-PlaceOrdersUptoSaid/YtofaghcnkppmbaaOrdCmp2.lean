/-
  The comparisons by which place.parts sorts the chains of a function, and functions.
-/
import Derived.Test.YtofaghcnkppmbaaStabChS
import Derived.Test.YtofaghcnkppmbaaStabPtS
import Derived.Test.YtofaghcnkppmbaaOrdSum
import Derived.Test.YtofaghcnkppmbaaOrdPartP
import Derived.Deep.QuietTactic
import Derived.BigQuiet
namespace Go.Proofs.Ytofaghcnkppmbaa
open Go.RowKit BH Go.Sort
set_option maxHeartbeats 1000000000
set_option maxRecDepth 100000
/-- the comparison of two chains -/
def cmp1 (first : Int) (heat : List Int → Int) (x y : List Int) : Int := if hdC x = first then -1 else if hdC y = first then 1 else heat y - heat x
theorem cmp1_lt {first : Int} {heat : List Int → Int} {x y : List Int} (h : hdC x = hdC y → x = y) (hne : ¬ x = y) : decide (cmp1 first heat x y < 0) = mineLt first heat x y := by
  unfold cmp1 mineLt
  by_cases a : hdC x = first
  · by_cases b : hdC y = first
    · exact absurd (h (a.trans b.symm)) hne
    · simp [a, b]
  · by_cases b : hdC y = first
    · simp [a, b]
    · simp only [a, b, if_false]
      exact decide_eq_decide.2 (by omega)
theorem drew_grow (w : World) (n : Nat) : ∃ q os, w.drewN n = grow (w.drewN q) os := ⟨n, #[], by rw [grow_empty]⟩
theorem parts1_any {va vb vf vh : Value} {ca cb F H : List Int} {i fb ib hb : Nat} {w : World} (hA : Ints w va ca) (hB : Ints w vb cb) (cf : w.cell? ⟨fb, 2, none⟩ = some vf) (hF : Ints w vf F) (ci : w.cell? ⟨ib, 0, none⟩ = some (.int .i64 (i : Int))) (ch : w.cell? ⟨hb, 0, none⟩ = some vh) (hH : Ints w vh H)
    (na : ca ≠ []) (nb : cb ≠ []) (hi : i < F.length) (ra : ∀ b, b ∈ ca → 0 ≤ b ∧ b < H.length) (rb : ∀ b, b ∈ cb → 0 ≤ b ∧ b < H.length) (hn : ∀ j, j < H.length → 0 ≤ nth H j) (sa : sumH H ca ≤ 4611686018427387904) (sb : sumH H cb ≤ 4611686018427387904) :
    Calls Try.prog 35 #[va, vb, .pointer (some ⟨fb, 0, none⟩), .pointer (some ⟨ib, 0, none⟩), .pointer (some ⟨hb, 0, none⟩)] w fun e w' => e = .returned (.int .i64 (cmp1 (nth F i) (sumH H) ca cb)) ∧ ∃ q os, w' = grow (w.drewN q) os := by
  have pa := sumH_nonneg H ca hn ra
  have pb := sumH_nonneg H cb hn rb
  have h1 : ∀ n : Nat, Calls Try.prog 33 #[va, vh] (w.drewN n) fun e w'' => e = .returned (.int .i64 (sumH H ca)) ∧ w'' = w.drewN n := fun n => (sum_any va vh ca H (w.drewN n) (Arr.keep hA ((Keeps.refl w).drewN n)) (Arr.keep hH ((Keeps.refl w).drewN n)) ra hn sa).mono fun _ _ h => ⟨h.1, h.2.symm⟩
  have h2 : ∀ n : Nat, Calls Try.prog 33 #[vb, vh] (w.drewN n) fun e w'' => e = .returned (.int .i64 (sumH H cb)) ∧ w'' = w.drewN n := fun n => (sum_any vb vh cb H (w.drewN n) (Arr.keep hB ((Keeps.refl w).drewN n)) (Arr.keep hH ((Keeps.refl w).drewN n)) rb hn sb).mono fun _ _ h => ⟨h.1, h.2.symm⟩
  obtain ⟨oa, cpa, rfl, a1, a2, -, a4⟩ := hA
  obtain ⟨ob, cpb, rfl, b1, b2, -, b4⟩ := hB
  obtain ⟨of, cpf, rfl, f1, f2, -, f4⟩ := hF
  obtain ⟨oh, cph, rfl, -, h3, -⟩ := hH
  unfold maxLen at a2 b2 f2
  have la := List.length_pos_iff.2 na
  have lb := List.length_pos_iff.2 nb
  obtain ⟨qa, ja, rfl, xa⟩ := a4 la
  obtain ⟨qb, jb, rfl, xb⟩ := b4 lb
  obtain ⟨qf, jf, rfl, xf⟩ := f4 (by omega)
  have c1 : w.cell? ⟨qa, ja, none⟩ = some (.int .i64 (hdC ca)) := by have z := xa 0 0 la (by omega); simp only [Nat.zero_mul, Nat.add_zero] at z; exact z
  have c2 : w.cell? ⟨qb, jb, none⟩ = some (.int .i64 (hdC cb)) := by have z := xb 0 0 lb (by omega); simp only [Nat.zero_mul, Nat.add_zero] at z; exact z
  have c3 : w.cell? ⟨qf, jf + i, none⟩ = some (.int .i64 (nth F i)) := by simpa using xf i 0 hi (by omega)
  have laz : (0 : Int) < (ca.length : Int) := by omega
  have lbz : (0 : Int) < (cb.length : Int) := by omega
  have hiz : (i : Int) < (F.length : Int) := by omega
  obtain ⟨XA, hXA⟩ : ∃ z, z = hdC ca := ⟨_, rfl⟩
  obtain ⟨XB, hXB⟩ : ∃ z, z = hdC cb := ⟨_, rfl⟩
  obtain ⟨FI, hFI⟩ : ∃ z, z = nth F i := ⟨_, rfl⟩
  obtain ⟨SA, hSA⟩ : ∃ z, z = sumH H ca := ⟨_, rfl⟩
  obtain ⟨SB, hSB⟩ : ∃ z, z = sumH H cb := ⟨_, rfl⟩
  have hR : Hid (cmp1 (nth F i) (sumH H) ca cb = if XA = FI then -1 else if XB = FI then 1 else SB - SA) := Lib.hid (by unfold cmp1; rw [hXA, hXB, hFI, hSA, hSB])
  rw [← hXA] at c1
  rw [← hXB] at c2
  rw [← hFI] at c3
  rw [← hSA] at h1 sa pa
  rw [← hSB] at h2 sb pb
  have H1 := Lib.hid h1
  have H2 := Lib.hid h2
  have wS : IntKind.i64.wrap (SB - SA) = SB - SA := by rw [IntKind.wrap_i64]; omega
  clear h1 h2 a4 b4 f4 xa xb xf hXA hXB hFI hSA hSB ra rb hn
  by_cases tA : XA = FI
  · have t1 : (XA == FI) = true := by simpa using tA
    have hr : cmp1 (nth F i) (sumH H) ca cb = -1 := by rw [hR.out, if_pos tA]
    have HR := Lib.hid hr
    clear tA hr
    go_enter Try.func35, Try.ntmps35
    go_wp2_with fail
    go_ret
    exact ⟨by rw [HR.out]; rfl, drew_grow _ 0⟩
  · have t1 : (XA == FI) = false := by simpa using tA
    by_cases tB : XB = FI
    · have t2 : (XB == FI) = true := by simpa using tB
      have hr : cmp1 (nth F i) (sumH H) ca cb = 1 := by rw [hR.out, if_neg tA, if_pos tB]
      have HR := Lib.hid hr
      clear tA tB hr
      go_enter Try.func35, Try.ntmps35
      go_wp2_with fail
      go_ret
      exact ⟨by rw [HR.out]; rfl, drew_grow _ 0⟩
    · have t2 : (XB == FI) = false := by simpa using tB
      have hr : cmp1 (nth F i) (sumH H) ca cb = SB - SA := by rw [hR.out, if_neg tA, if_neg tB]
      have HR := Lib.hid hr
      clear tA tB hr hR
      go_enter Try.func35, Try.ntmps35
      go_wp2_with fail
      go_quiet ((go_at_call 33; first | (with_reducible exact Calls.quiet_of_same (H1.out _)) | (with_reducible exact Calls.quiet_of_same (H2.out _))))
      go_wp2_with fail
      go_ret
      exact ⟨by rw [HR.out]; rfl, drew_grow _ _⟩
theorem parts2_any {x y : Pv} {vh : Value} {H : List Int} {hb : Nat} {w : World} (ch : w.cell? ⟨hb, 0, none⟩ = some vh) (hH : Ints w vh H) (hx : 0 ≤ x.F ∧ x.F < H.length) (hy : 0 ≤ y.F ∧ y.F < H.length) (hn : ∀ j, j < H.length → 0 ≤ nth H j ∧ nth H j ≤ 4611686018427387904) :
    Calls Try.prog 38 #[argPt x, argPt y, .pointer (some ⟨hb, 0, none⟩)] w fun e w' => e = .returned (.int .i64 (nth H y.F.toNat - nth H x.F.toNat)) ∧ ∃ q os, w' = grow (w.drewN q) os := by
  obtain ⟨oh, cph, rfl, h1, h2, -, h4⟩ := hH
  unfold maxLen at h2
  obtain ⟨xF, xa, xn, xc⟩ := x
  obtain ⟨yF, ya, yn, yc⟩ := y
  dsimp only at hx hy
  obtain ⟨X, hX⟩ : ∃ X : Nat, xF = X := ⟨xF.toNat, by omega⟩
  obtain ⟨Y, hY⟩ : ∃ Y : Nat, yF = Y := ⟨yF.toNat, by omega⟩
  subst hX hY
  obtain ⟨qh, jh, rfl, xh⟩ := h4 (by omega)
  have b1 := hn X (by omega)
  have b2 := hn Y (by omega)
  have xz : (X : Int) < (H.length : Int) := hx.2
  have yz : (Y : Int) < (H.length : Int) := hy.2
  obtain ⟨SX, hSX⟩ : ∃ z, z = nth H X := ⟨_, rfl⟩
  obtain ⟨SY, hSY⟩ : ∃ z, z = nth H Y := ⟨_, rfl⟩
  have c1 : (w.cell? ⟨qh, jh + X, none⟩) = some (.int .i64 SX) := by rw [hSX]; simpa using xh X 0 (by omega) (by omega)
  have c2 : (w.cell? ⟨qh, jh + Y, none⟩) = some (.int .i64 SY) := by rw [hSY]; simpa using xh Y 0 (by omega) (by omega)
  rw [← hSX] at b1
  rw [← hSY] at b2
  have hR : Hid (nth H ((Y : Nat) : Int).toNat - nth H ((X : Nat) : Int).toNat = SY - SX) := Lib.hid (by rw [Int.toNat_natCast, Int.toNat_natCast, hSX, hSY])
  have wS : IntKind.i64.wrap (SY - SX) = SY - SX := by rw [IntKind.wrap_i64]; omega
  have hlh := lt_of_cell ch
  have hlq := lt_of_cell c1
  obtain ⟨W, hW, hBX, hBY, hk0, hgw⟩ : ∃ W, W = (w.alloc (.cells #[.int .i64 (X : Int), .slice xa xn xc] 59)).alloc (.cells #[.int .i64 (Y : Int), .slice ya yn yc] 59) ∧ Blk W w.heap.size (.cells #[.int .i64 (X : Int), .slice xa xn xc] 59) ∧ Blk W (w.heap.size + 1) (.cells #[.int .i64 (Y : Int), .slice ya yn yc] 59) ∧ Keeps w W ∧ ∃ os, W = grow w os :=
    ⟨_, rfl, (Blk.top _ _).keep ((Keeps.refl _).alloc _), Blk.top' _ _ (by rw [sz_alloc]), ((Keeps.refl _).alloc _).alloc _, _, by rw [alloc_eq_grow, alloc_eq_grow, grow_grow]⟩
  have e1 := hk0.cell c1
  have e2 := hk0.cell c2
  have e3 := hk0.cell ch
  have i1 := hBX.cell (j := 0) rfl
  have i2 := hBY.cell (j := 0) rfl
  have HW := Lib.hid hW
  have HGW := Lib.hid hgw
  have hl2 := hBY.lt
  clear hW hgw h4 xh c1 c2 ch hSX hSY hBX hBY hk0 hn
  unfold argPt
  go_enter Try.func38, Try.ntmps38
  go_upto_region 1 with fail
  rw [← HW.out]
  go_wp2_with fail
  go_quiet (fail)
  go_wp2_with fail
  go_ret
  obtain ⟨os, ho⟩ := HGW.out
  exact ⟨by rw [hR.out]; rfl, _, os, by rw [ho]; rfl⟩
end Go.Proofs.Ytofaghcnkppmbaa
