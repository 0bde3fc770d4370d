/-
  slices.SortStableFunc at []api.Part: what the library's text does, function by function.
-/
import Derived.Test.YtofaghcnkppmbaaRowSort
import Derived.Test.YtofaghcnkppmbaaStab
import Derived.Test.YtofaghcnkppmbaaTypes
import Derived.Test.YtofaghcnkppmbaaChecked
import Derived.Deep.CutBlock
import Derived.Sort.WalkB2
import Derived.Sort.WalkB12
import Derived.Deep.LoopGhost
import Derived.Lib.Hide
namespace Go.Proofs.Ytofaghcnkppmbaa
open Go.RowKit BH Go.Sort
set_option maxHeartbeats 1000000000
set_option maxRecDepth 1000000
/-- a part, as it lies -/
structure Pv where
  F : Int
  a : Option Addr
  n : Nat
  c : Nat
  deriving Inhabited
def cPt (x : Pv) : List Value := [.int .i64 x.F, .slice x.a x.n x.c]
def argPt (x : Pv) : Value := .agg #[.int .i64 x.F, .slice x.a x.n x.c]
section
variable {γ : Type} [Inhabited γ] {pr : γ → Pv} {w0 w : World} {g cap N : Nat} {rest : Array Value} {d : Array γ}
theorem swapRange_pt (fv : Value) (a b n : Nat) (h : SRow w0 g 59 2 (fun z => cPt (pr z)) rest d w) (hN : d.size = N) (hab : a + n ≤ b) (hb : b + n ≤ N) (hsz : N < 4611686018427387904) :
    Calls Try.prog 89 #[.slice (some ⟨g, 0, none⟩) N cap, .int .i64 (a : Int), .int .i64 (b : Int), .int .i64 (n : Int), fv] w fun e w' => e = .returned (.tuple #[]) ∧ SRow w0 g 59 2 (fun z => cPt (pr z)) rest (swpR d a b n) w' := by
  have H := Lib.hid h
  have HNN := Lib.hid hN
  clear h hN
  go_enter Try.func89, Try.ntmps89
  go_wp2
  go_loopw [10] (fun s10 wr => ∃ i : Nat, i ≤ n ∧ s10 = .int .i64 i ∧ Hid (SRow w0 g 59 2 (fun z => cPt (pr z)) rest (swpR d a b i) wr)) (fun s10 _ => n - (intOf s10).toNat)
  case atStart => exact ⟨0, Nat.zero_le _, rfl, H⟩
  case round =>
    obtain ⟨i, hi, rfl, HR⟩ := hrel
    by_cases hlt : i < n
    · obtain ⟨dk, hdk⟩ : ∃ x, x = swpR d a b i := ⟨_, rfl⟩
      rw [← hdk] at HR
      have hds : dk.size = N := by rw [hdk, swpR_size]; exact HNN.out
      obtain ⟨x, hx⟩ : ∃ x : Nat, x = a + i := ⟨_, rfl⟩
      obtain ⟨y, hy⟩ : ∃ y : Nat, y = b + i := ⟨_, rfl⟩
      have HDK : Hid (dk = swpR d a b i ∧ x = a + i ∧ y = b + i ∧ dk.size = N) := Lib.hid ⟨hdk, hx, hy, hds⟩
      have hxl : x < N := by omega
      have hyl : y < N := by omega
      have hxy : x < y := by omega
      have sx : IntKind.i64.wrap ((a : Int) + (i : Int)) = (x : Int) := by rw [hx, IntKind.wrap_i64]; omega
      have sy : IntKind.i64.wrap ((b : Int) + (i : Int)) = (y : Int) := by rw [hy, IntKind.wrap_i64]; omega
      have ltx : (x : Int) < (N : Int) := by omega
      have lty : (y : Int) < (N : Int) := by omega
      have hgl := HR.out.glt
      clear hdk hx hy hds
      go_wp2_with fail
      obtain ⟨⟨p0, p1, p2, p3⟩, hp⟩ : ∃ v, v = pr dk[x]! := ⟨_, rfl⟩
      obtain ⟨⟨q0, q1, q2, q3⟩, hq⟩ : ∃ v, v = pr dk[y]! := ⟨_, rfl⟩
      have pc0 : wr.cell? ⟨g, x * 2, none⟩ = some (.int .i64 p0) := by have q := (HR.out).cellq (i := x) (j := 0) (by have := HDK.out.2.2.2; omega) (by decide) (u := .int .i64 p0) (by show (cPt (pr _))[0]? = _; rw [← hp]; rfl); simpa using q
      have pz0 : wr.frozen? ⟨g, x * 2, none⟩ = false := (HR.out).thawed _
      have pc1 : wr.cell? ⟨g, x * 2 + 1, none⟩ = some (.slice p1 p2 p3) := by have q := (HR.out).cellq (i := x) (j := 1) (by have := HDK.out.2.2.2; omega) (by decide) (u := .slice p1 p2 p3) (by show (cPt (pr _))[1]? = _; rw [← hp]; rfl); simpa using q
      have pz1 : wr.frozen? ⟨g, x * 2 + 1, none⟩ = false := (HR.out).thawed _
      have qc0 : wr.cell? ⟨g, y * 2, none⟩ = some (.int .i64 q0) := by have q := (HR.out).cellq (i := y) (j := 0) (by have := HDK.out.2.2.2; omega) (by decide) (u := .int .i64 q0) (by show (cPt (pr _))[0]? = _; rw [← hq]; rfl); simpa using q
      have qz0 : wr.frozen? ⟨g, y * 2, none⟩ = false := (HR.out).thawed _
      have qc1 : wr.cell? ⟨g, y * 2 + 1, none⟩ = some (.slice q1 q2 q3) := by have q := (HR.out).cellq (i := y) (j := 1) (by have := HDK.out.2.2.2; omega) (by decide) (u := .slice q1 q2 q3) (by show (cPt (pr _))[1]? = _; rw [← hq]; rfl); simpa using q
      have qz1 : wr.frozen? ⟨g, y * 2 + 1, none⟩ = false := (HR.out).thawed _
      obtain ⟨wn, hwn, SN⟩ : ∃ wn, wn = (((((((((wr).setCell ⟨g, x * 2, none⟩ (.int .i64 q0))).setCell ⟨g, x * 2 + 1, none⟩ (.slice q1 q2 q3))).setCell ⟨g, y * 2, none⟩ (.int .i64 p0))).setCell ⟨g, y * 2 + 1, none⟩ (.slice p1 p2 p3))).drew ∧ Hid (SRow w0 g 59 2 (fun z => cPt (pr z)) rest (swp dk x y) wn) := by
        have q := (HR.out).swap (i := x) (j := y) (by have := HDK.out.2.2.2; omega) (by have := HDK.out.2.2.2; omega)
        rw [← hp, ← hq] at q
        exact ⟨_, rfl, Lib.hid (q.keep ((Keeps.refl _).drew))⟩
      have HP := Lib.hid hp
      have HQ := Lib.hid hq
      have HWN := Lib.hid hwn
      clear hp hq hwn
      go_region_law (fail)
      all_goals
        rw [← HWN.out]
        go_wp2_with fail
        go_roundw
        case rel =>
          obtain ⟨e1, e2, e3, -⟩ := HDK.out
          refine ⟨i + 1, by omega, by go_num, ?_⟩
          rw [swpR, ← e1, ← e2, ← e3]
          exact SN
        case measure => simp [intOf]; omega
    · obtain rfl : i = n := by omega
      go_wp2
      go_end0
      exact ⟨rfl, HR.out⟩
theorem rotate_pt (fv : Value) (a m b : Nat) (h : SRow w0 g 59 2 (fun z => cPt (pr z)) rest d w) (hN : d.size = N) (ham : a < m) (hmb : m < b) (hb : b ≤ N) (hsz : N < 4611686018427387904) :
    Calls Try.prog 82 #[.slice (some ⟨g, 0, none⟩) N cap, .int .i64 (a : Int), .int .i64 (m : Int), .int .i64 (b : Int), fv] w fun e w' => e = .returned (.tuple #[]) ∧ ∃ d', SRow w0 g 59 2 (fun z => cPt (pr z)) rest d' w' ∧ PermIn a b d d' ∧ Via (rotσ a m b) d d' := by
  have H := Lib.hid h
  have HNN := Lib.hid hN
  clear h hN
  obtain ⟨i0, hi0⟩ : ∃ i0 : Nat, i0 = m - a := ⟨_, rfl⟩
  obtain ⟨j0, hj0⟩ : ∃ j0 : Nat, j0 = b - m := ⟨_, rfl⟩
  have ei0 : (m : Int) - (a : Int) = (i0 : Int) := by omega
  have ej0 : (b : Int) - (m : Int) = (j0 : Int) := by omega
  have HI0 : Hid (i0 = m - a ∧ j0 = b - m) := Lib.hid ⟨hi0, hj0⟩
  have gi0 : 0 < i0 ∧ i0 ≤ m := by omega
  have gj0 : 0 < j0 ∧ m + j0 ≤ N := by omega
  have ga : a = m - i0 := by omega
  have gb : b = m + j0 := by omega
  have GA := Lib.hid ga
  have GB := Lib.hid gb
  clear hi0 hj0 ga gb
  go_enter Try.func82, Try.ntmps82
  go_wp2_with fail
  go_loopw [10, 11] (fun s10 s11 wr => ∃ (i j : Nat) (dk : Array γ), s10 = .int .i64 i ∧ s11 = .int .i64 j ∧ 0 < i ∧ i ≤ i0 ∧ 0 < j ∧ j ≤ j0 ∧ Hid (SRow w0 g 59 2 (fun z => cPt (pr z)) rest dk wr) ∧ Hid (PermIn a b d dk ∧ ∀ d', Via (rotσ (m - i) m (m + j)) dk d' → Via (rotσ a m b) d d')) (fun s10 s11 _ => (intOf s10).toNat + (intOf s11).toNat)
  case atStart => exact ⟨i0, j0, d, rfl, rfl, gi0.1, Nat.le_refl _, gj0.1, Nat.le_refl _, H, Lib.hid ⟨permIn_refl _ _ _, fun d' hv => by rw [GA.out, GB.out]; exact hv⟩⟩
  case round =>
    obtain ⟨i, j, dk, rfl, rfl, hi0, hi1, hj0, hj1, HR, HV⟩ := hrel
    have HDS : Hid (dk.size = N) := Lib.hid (by rw [HV.out.1.1]; exact HNN.out)
    obtain ⟨x, hx⟩ : ∃ x : Nat, x = m - i := ⟨_, rfl⟩
    have ex : (m : Int) - (i : Int) = (x : Int) := by omega
    have HX := Lib.hid hx
    have hxm : x + i = m := by omega
    clear hx
    have hsw := fun (y n : Nat) (h1 : x + n ≤ y) (h2 : y + n ≤ N) => swapRange_pt (cap := cap) fv x y n HR.out HDS.out h1 h2 hsz
    have HSW := Lib.hid hsw
    clear hsw
    by_cases hlt : j < i
    · have t1 : ¬ i = j := by omega
      have t2 : (j : Int) < (i : Int) := by omega
      have hsw := HSW.out m j (by omega) (by omega)
      go_wp2_with (go_at_call 89; refine hsw.mono ?_; rintro e w2 ⟨rfl, hr2⟩; have HR2 := Lib.hid hr2; clear hr2; dsimp only)
      go_roundw
      case rel =>
        refine ⟨i - j, j, swpR dk x m j, by rw [show ((i : Int) - (j : Int)) = ((i - j : Nat) : Int) by omega], rfl, by omega, by omega, hj0, hj1, HR2, Lib.hid ⟨permIn_trans _ _ _ _ _ HV.out.1 (swpR_perm dk x m j a b (by omega) (by rw [GA.out]; omega) (by rw [GB.out]; omega) (by rw [HDS.out, GB.out]; omega)), fun d' hv => HV.out.2 d' ?_⟩⟩
        rw [HX.out] at hv
        exact rot_left (by omega) hlt hj0 (by rw [HDS.out]; omega) hv
      case measure => simp [intOf]; omega
    · by_cases hlt2 : i < j
      · have t1 : ¬ i = j := by omega
        have t2 : ¬ (j : Int) < (i : Int) := by omega
        obtain ⟨y, hy⟩ : ∃ y : Nat, y = m + j - i := ⟨_, rfl⟩
        have ey : (m : Int) + (j : Int) - (i : Int) = (y : Int) := by omega
        have HY := Lib.hid hy
        have hsw := HSW.out y i (by omega) (by omega)
        clear hy
        go_wp2_with (go_at_call 89; refine hsw.mono ?_; rintro e w2 ⟨rfl, hr2⟩; have HR2 := Lib.hid hr2; clear hr2; dsimp only)
        go_roundw
        case rel =>
          refine ⟨i, j - i, swpR dk x y i, rfl, by rw [show ((j : Int) - (i : Int)) = ((j - i : Nat) : Int) by omega], hi0, hi1, by omega, by omega, HR2, Lib.hid ⟨permIn_trans _ _ _ _ _ HV.out.1 (swpR_perm dk x y i a b (by have := HY.out; omega) (by rw [GA.out]; omega) (by have := HY.out; rw [GB.out]; omega) (by rw [HDS.out, GB.out]; omega)), fun d' hv => HV.out.2 d' ?_⟩⟩
          rw [HX.out, HY.out] at hv
          exact rot_right (by omega) hlt2 hi0 (by rw [HDS.out]; omega) hv
        case measure => simp [intOf]; omega
      · obtain rfl : i = j := by omega
        have hsw := HSW.out m i (by omega) (by omega)
        go_wp2_with (go_at_call 89; refine hsw.mono ?_; rintro e w2 ⟨rfl, hr2⟩; have HR2 := Lib.hid hr2; clear hr2; dsimp only)
        go_end0
        refine ⟨rfl, _, HR2.out, permIn_trans _ _ _ _ _ HV.out.1 (swpR_perm dk x m i a b (by omega) (by rw [GA.out]; omega) (by rw [GB.out]; omega) (by rw [HDS.out, GB.out]; omega)), HV.out.2 _ ?_⟩
        rw [HX.out]
        exact rot_even (by omega) (by rw [HDS.out]; omega)
theorem insertion_pt {fn : FuncId} {cb : Array Value} {cf : γ → γ → Int} {Q : γ → Prop} (eg : ∀ args w, (callFunc fn args).run Try.prog w = .ok (.enter fn args) w) (hC : CmpG Try.prog fn cb (fun z => argPt (pr z)) cf Q g w0) (a b : Nat) (h : SRow w0 g 59 2 (fun z => cPt (pr z)) rest d w) (hN : d.size = N) (hq : ∀ i, i < N → Q d[i]!) (hab : a ≤ b) (hb : b ≤ N) (hsz : N < 4611686018427387904) :
    Calls Try.prog 64 #[.slice (some ⟨g, 0, none⟩) N cap, .int .i64 (a : Int), .int .i64 (b : Int), .func (.func fn) #[] cb] w fun e w' => e = .returned (.tuple #[]) ∧ SRow w0 g 59 2 (fun z => cPt (pr z)) rest (insertionSort (ltc cf) d a b) w' := by
  have H := Lib.hid h
  have HNN := Lib.hid hN
  have HQA := Lib.hid hq
  have HC := Lib.hid hC
  have mixed : Try.prog.follows .mixedOrders = true := by kernel_rfl
  clear h hN hq hC
  go_enter Try.func64, Try.ntmps64
  go_wp2_with fail
  go_loopw [8] (fun s8 wr => ∃ (i : Nat) (dk : Array γ), s8 = .int .i64 i ∧ a < i ∧ i ≤ b + 1 ∧ Hid (dk.size = N ∧ ∀ q, q < N → Q dk[q]!) ∧ Hid (SRow w0 g 59 2 (fun z => cPt (pr z)) rest dk wr) ∧ Hid (insOuter (ltc cf) a b i dk = insOuter (ltc cf) a b (a + 1) d)) (fun s8 _ => b + 1 - (intOf s8).toNat)
  case atStart => exact ⟨a + 1, d, by go_num, by omega, by omega, Lib.hid ⟨HNN.out, HQA.out⟩, H, Lib.hid rfl⟩
  case round =>
    obtain ⟨i, dk, rfl, hai, hib, HD, HR0, HO⟩ := hrel
    obtain ⟨wo, hwo⟩ : ∃ wo : World, wo = wr := ⟨_, rfl⟩
    subst hwo
    by_cases hlt : i < b
    · have hltz : (i : Int) < (b : Int) := by omega
      go_wp2_with fail
      go_loopw [9] (fun s9 wr => ∃ (j : Nat) (dj : Array γ), s9 = .int .i64 j ∧ a ≤ j ∧ j ≤ i ∧ Hid (dj.size = N ∧ ∀ q, q < N → Q dj[q]!) ∧ Hid (SRow w0 g 59 2 (fun z => cPt (pr z)) rest dj wr) ∧ Hid (insInner (ltc cf) a j dj = insInner (ltc cf) a i dk)) (fun s9 _ => (intOf s9).toNat)
      case atStart => exact ⟨i, dk, rfl, by omega, Nat.le_refl _, HD, HR0, Lib.hid rfl⟩
      case round =>
        obtain ⟨j, dj, rfl, haj, hji, HDJ, HR, HI⟩ := hrel
        have OUT : Hid ((j ≤ a ∨ ltc cf dj[j]! dj[j - 1]! = false) → insOuter (ltc cf) a b (i + 1) dj = insOuter (ltc cf) a b (a + 1) d) := Lib.hid fun hs => by
          rw [← HO.out, insOuter_go _ _ _ _ _ hlt, ← HI.out, insInner_stop _ _ _ _ hs]
        by_cases hja : a < j
        · have hjaz : (a : Int) < (j : Int) := by omega
          obtain ⟨y, hy⟩ : ∃ y : Nat, y = j - 1 := ⟨_, rfl⟩
          have sy : (j : Int) - 1 = (y : Int) := by omega
          have syw : IntKind.i64.wrap (y : Int) = (y : Int) := by rw [IntKind.wrap_i64]; omega
          have hyj : j = y + 1 := by omega
          have HY := Lib.hid hyj
          clear hy hyj
          have ltj : (j : Int) < (N : Int) := by omega
          have lty : (y : Int) < (N : Int) := by have := HY.out; omega
          obtain ⟨⟨p0, p1, p2, p3⟩, hp⟩ : ∃ v, v = pr dj[j]! := ⟨_, rfl⟩
          obtain ⟨⟨q0, q1, q2, q3⟩, hq⟩ : ∃ v, v = pr dj[y]! := ⟨_, rfl⟩
          have pc0 : wr.cell? ⟨g, j * 2, none⟩ = some (.int .i64 p0) := by have q := (HR.out).cellq (i := j) (j := 0) (by have := HDJ.out.1; omega) (by decide) (u := .int .i64 p0) (by show (cPt (pr _))[0]? = _; rw [← hp]; rfl); simpa using q
          have pz0 : wr.frozen? ⟨g, j * 2, none⟩ = false := (HR.out).thawed _
          have pc1 : wr.cell? ⟨g, j * 2 + 1, none⟩ = some (.slice p1 p2 p3) := by have q := (HR.out).cellq (i := j) (j := 1) (by have := HDJ.out.1; omega) (by decide) (u := .slice p1 p2 p3) (by show (cPt (pr _))[1]? = _; rw [← hp]; rfl); simpa using q
          have pz1 : wr.frozen? ⟨g, j * 2 + 1, none⟩ = false := (HR.out).thawed _
          have qc0 : wr.cell? ⟨g, y * 2, none⟩ = some (.int .i64 q0) := by have q := (HR.out).cellq (i := y) (j := 0) (by have := HDJ.out.1; have := HY.out; omega) (by decide) (u := .int .i64 q0) (by show (cPt (pr _))[0]? = _; rw [← hq]; rfl); simpa using q
          have qz0 : wr.frozen? ⟨g, y * 2, none⟩ = false := (HR.out).thawed _
          have qc1 : wr.cell? ⟨g, y * 2 + 1, none⟩ = some (.slice q1 q2 q3) := by have q := (HR.out).cellq (i := y) (j := 1) (by have := HDJ.out.1; have := HY.out; omega) (by decide) (u := .slice q1 q2 q3) (by show (cPt (pr _))[1]? = _; rw [← hq]; rfl); simpa using q
          have qz1 : wr.frozen? ⟨g, y * 2 + 1, none⟩ = false := (HR.out).thawed _
          have pg0 : ∀ n os, (grow (wr.drewN n) os).cell? ⟨g, j * 2, none⟩ = some (.int .i64 p0) := fun n os => cell_grown (by exact (HR.out).glt) pc0 n os
          have pg1 : ∀ n os, (grow (wr.drewN n) os).cell? ⟨g, j * 2 + 1, none⟩ = some (.slice p1 p2 p3) := fun n os => cell_grown (by exact (HR.out).glt) pc1 n os
          have qg0 : ∀ n os, (grow (wr.drewN n) os).cell? ⟨g, y * 2, none⟩ = some (.int .i64 q0) := fun n os => cell_grown (by exact (HR.out).glt) qc0 n os
          have qg1 : ∀ n os, (grow (wr.drewN n) os).cell? ⟨g, y * 2 + 1, none⟩ = some (.slice q1 q2 q3) := fun n os => cell_grown (by exact (HR.out).glt) qc1 n os
          obtain ⟨cv, hcv⟩ : ∃ zz, zz = cf dj[j]! dj[y]! := ⟨_, rfl⟩
          have hcg : ∀ n os, Calls Try.prog fn (#[.agg #[.int .i64 p0, .slice p1 p2 p3], .agg #[.int .i64 q0, .slice q1 q2 q3]] ++ cb) (grow (wr.drewN n) os) fun e w' => e = .returned (.int .i64 cv) ∧ ∃ q os', w' = grow ((grow (wr.drewN n) os).drewN q) os' := fun n os => by
            have q := HC.out.at (HR.out).gr (HDJ.out.2 j (by omega)) (HDJ.out.2 y (by have := HY.out; omega)) n os
            rw [← hcv] at q
            rw [← hp, ← hq] at q
            exact q
          have HCV := Lib.hid hcv
          have HP := Lib.hid hp
          have HQ := Lib.hid hq
          clear hcv hp hq pc0 pc1 pz0 pz1 qc0 qc1 qz0 qz1
          by_cases hlv : cv < 0
          · go_wp2_with fail
            go_quiet_grown (first | (go_at_fn fn; refine Calls.grown_of (hcg _ _)))
            obtain ⟨w2, hw2, HN⟩ : ∃ w2, w2 = grow (wr.drewN nq) osq ∧ Hid (SRow w0 g 59 2 (fun z => cPt (pr z)) rest dj w2) := ⟨_, rfl, Lib.hid ((HR.out).keep (Keeps.grow (Keeps.drewN (Keeps.refl _) nq) osq))⟩
            rw [← hw2]
            clear hw2 hcg pg0 pg1 qg0 qg1
            go_wp2_with fail
            clear HP HQ
            obtain ⟨⟨p0, p1, p2, p3⟩, hp⟩ : ∃ v, v = pr dj[j]! := ⟨_, rfl⟩
            obtain ⟨⟨q0, q1, q2, q3⟩, hq⟩ : ∃ v, v = pr dj[y]! := ⟨_, rfl⟩
            have pc0 : w2.cell? ⟨g, j * 2, none⟩ = some (.int .i64 p0) := by have q := (HN.out).cellq (i := j) (j := 0) (by have := HDJ.out.1; omega) (by decide) (u := .int .i64 p0) (by show (cPt (pr _))[0]? = _; rw [← hp]; rfl); simpa using q
            have pz0 : w2.frozen? ⟨g, j * 2, none⟩ = false := (HN.out).thawed _
            have pc1 : w2.cell? ⟨g, j * 2 + 1, none⟩ = some (.slice p1 p2 p3) := by have q := (HN.out).cellq (i := j) (j := 1) (by have := HDJ.out.1; omega) (by decide) (u := .slice p1 p2 p3) (by show (cPt (pr _))[1]? = _; rw [← hp]; rfl); simpa using q
            have pz1 : w2.frozen? ⟨g, j * 2 + 1, none⟩ = false := (HN.out).thawed _
            have qc0 : w2.cell? ⟨g, y * 2, none⟩ = some (.int .i64 q0) := by have q := (HN.out).cellq (i := y) (j := 0) (by have := HDJ.out.1; have := HY.out; omega) (by decide) (u := .int .i64 q0) (by show (cPt (pr _))[0]? = _; rw [← hq]; rfl); simpa using q
            have qz0 : w2.frozen? ⟨g, y * 2, none⟩ = false := (HN.out).thawed _
            have qc1 : w2.cell? ⟨g, y * 2 + 1, none⟩ = some (.slice q1 q2 q3) := by have q := (HN.out).cellq (i := y) (j := 1) (by have := HDJ.out.1; have := HY.out; omega) (by decide) (u := .slice q1 q2 q3) (by show (cPt (pr _))[1]? = _; rw [← hq]; rfl); simpa using q
            have qz1 : w2.frozen? ⟨g, y * 2 + 1, none⟩ = false := (HN.out).thawed _
            obtain ⟨wn, hwn, SN⟩ : ∃ wn, wn = (((((((((w2).setCell ⟨g, j * 2, none⟩ (.int .i64 q0))).setCell ⟨g, j * 2 + 1, none⟩ (.slice q1 q2 q3))).setCell ⟨g, y * 2, none⟩ (.int .i64 p0))).setCell ⟨g, y * 2 + 1, none⟩ (.slice p1 p2 p3))).drew ∧ Hid (SRow w0 g 59 2 (fun z => cPt (pr z)) rest (swp dj j y) wn) := by
              have q := (HN.out).swap (i := j) (j := y) (by have := HDJ.out.1; omega) (by have := HDJ.out.1; have := HY.out; omega)
              rw [← hp, ← hq] at q
              exact ⟨_, rfl, Lib.hid (q.keep ((Keeps.refl _).drew))⟩
            have HP := Lib.hid hp
            have HQ := Lib.hid hq
            have HWN := Lib.hid hwn
            clear hp hq hwn
            go_region_law (fail)
            all_goals
              rw [← HWN.out]
              go_wp2_with fail
              go_roundw
              case rel =>
                refine ⟨y, swp dj j y, rfl, by have := HY.out; omega, by have := HY.out; omega, Lib.hid ⟨by rw [swp_size]; exact HDJ.out.1, allQ_swp HDJ.out.1 HDJ.out.2 (by omega) (by have := HY.out; omega)⟩, SN, Lib.hid ?_⟩
                have e := insInner_go (ltc cf) a j dj hja (by have e1 : j - 1 = y := by have := HY.out; omega
                                                              rw [e1]; unfold ltc; rw [← HCV.out]; exact decide_eq_true hlv)
                rw [show j - 1 = y by have := HY.out; omega] at e
                rw [← HI.out, e]
              case measure => simp [intOf]; have := HY.out; omega
          · go_wp2_with fail
            go_quiet_grown (first | (go_at_fn fn; refine Calls.grown_of (hcg _ _)))
            obtain ⟨w2, hw2, HN⟩ : ∃ w2, w2 = grow (wr.drewN nq) osq ∧ Hid (SRow w0 g 59 2 (fun z => cPt (pr z)) rest dj w2) := ⟨_, rfl, Lib.hid ((HR.out).keep (Keeps.grow (Keeps.drewN (Keeps.refl _) nq) osq))⟩
            rw [← hw2]
            clear hw2 hcg pg0 pg1 qg0 qg1
            go_wp2_with fail
            go_roundw
            case rel => exact ⟨i + 1, dj, by go_num, by omega, by omega, HDJ, HN, Lib.hid (OUT.out (Or.inr (by rw [show j - 1 = y by have := HY.out; omega]; unfold ltc; rw [← HCV.out]; exact decide_eq_false (by omega))))⟩
            case measure => simp [intOf]; omega
        · have hjaz : ¬ (a : Int) < (j : Int) := by omega
          have hjaz2 : decide ((a : Int) < (j : Int)) = false := decide_eq_false hjaz
          go_wp2_with fail
          go_quiet (fail)
          go_wp2_with fail
          go_roundw
          case rel => exact ⟨i + 1, dj, by go_num, by omega, by omega, HDJ, Lib.hid (HR.out.keep (Keeps.drewN (Keeps.refl _) _)), Lib.hid (OUT.out (Or.inl (by omega)))⟩
          case measure => simp [intOf]; omega
    · have hltz : ¬ (i : Int) < (b : Int) := by omega
      go_wp2_with fail
      go_end0
      refine ⟨rfl, ?_⟩
      have e := HO.out
      rw [insOuter_stop _ _ _ _ _ hlt] at e
      unfold insertionSort
      rw [← e]
      exact HR0.out
theorem symMerge_pt {fn : FuncId} {cb : Array Value} {cf : γ → γ → Int} {Q : γ → Prop} {lt' : γ → γ → Bool} (eg : ∀ args w, (callFunc fn args).run Try.prog w = .ok (.enter fn args) w) (hC : CmpG Try.prog fn cb (fun z => argPt (pr z)) cf Q g w0) (so : SWO lt') (hsz : N < 4611686018427387904) : ∀ z : Nat, ∀ (a m b : Nat) (d : Array γ) (w : World), b - a ≤ z → SRow w0 g 59 2 (fun z => cPt (pr z)) rest d w → d.size = N → (∀ i, i < N → Q d[i]!) → Runs lt' (ltc cf) a m b d → Calls Try.prog 65 #[.slice (some ⟨g, 0, none⟩) N cap, .int .i64 (a : Int), .int .i64 (m : Int), .int .i64 (b : Int), .func (.func fn) #[] cb] w fun e w' => e = .returned (.tuple #[]) ∧ ∃ d', SRow w0 g 59 2 (fun z => cPt (pr z)) rest d' w' ∧ Merged lt' a b d d' := by
  intro z
  induction z with
  | zero =>
    intro a m b d w hz _ _ _ hr
    have := hr.am
    have := hr.mb
    omega
  | succ z ih =>
    intro a m b d w hz h hN hq hr
    have H := Lib.hid h
    have HNN := Lib.hid hN
    have HQA := Lib.hid hq
    have HC := Lib.hid hC
    have SO := Lib.hid so
    have RUNS := Lib.hid hr
    have IH := Lib.hid ih
    have ham := hr.am
    have hmb := hr.mb
    have hbN : b ≤ N := by have := hr.bd; omega
    have mixed : Try.prog.follows .mixedOrders = true := by kernel_rfl
    clear h hN hq hC so hr ih
    by_cases hma : m = a + 1
    · have e1 : (m : Int) - (a : Int) = 1 := by omega
      have hma1 : m ≤ a + 1 := by omega
      have hma2 : a + 1 ≤ m := by omega
      have HMA := Lib.hid hma
      clear hma
      have lta : (a : Int) < (N : Int) := by omega
      have haN : a < N := by omega
      go_enter Try.func65, Try.ntmps65
      go_wp2_with fail
      go_loopw [10, 11] (fun s10 s11 wr => ∃ i j : Nat, s10 = .int .i64 i ∧ s11 = .int .i64 j ∧ m ≤ i ∧ i ≤ j ∧ j ≤ b ∧ Hid (i = m ∨ ltc cf d[i - 1]! d[a]! = true) ∧ Hid (j = b ∨ ltc cf d[j]! d[a]! = false) ∧ Hid (SRow w0 g 59 2 (fun z => cPt (pr z)) rest d wr)) (fun s10 s11 _ => (intOf s11).toNat - (intOf s10).toNat)
      case atStart => exact ⟨m, b, rfl, rfl, Nat.le_refl _, (by omega), Nat.le_refl _, Lib.hid (Or.inl rfl), Lib.hid (Or.inl rfl), H⟩
      case round =>
        obtain ⟨i, j, rfl, rfl, hi0, hij, hj0, HL, HG, HR⟩ := hrel
        by_cases hlt : i < j
        · have hltz : (i : Int) < (j : Int) := by omega
          obtain ⟨c, hc⟩ : ∃ c : Nat, c = (i + j) / 2 := ⟨_, rfl⟩
          have ec : ((i : Int) + (j : Int)) / 2 = (c : Int) := by omega
          have hci : i ≤ c := by omega
          have hcj : c < j := by omega
          clear hc
          have ltcc : (c : Int) < (N : Int) := by omega
          have hcN : c < N := by omega
          obtain ⟨⟨p0, p1, p2, p3⟩, hp⟩ : ∃ v, v = pr d[c]! := ⟨_, rfl⟩
          obtain ⟨⟨q0, q1, q2, q3⟩, hq⟩ : ∃ v, v = pr d[a]! := ⟨_, rfl⟩
          have pc0 : wr.cell? ⟨g, c * 2, none⟩ = some (.int .i64 p0) := by have q := (HR.out).cellq (i := c) (j := 0) (by have := HNN.out; omega) (by decide) (u := .int .i64 p0) (by show (cPt (pr _))[0]? = _; rw [← hp]; rfl); simpa using q
          have pz0 : wr.frozen? ⟨g, c * 2, none⟩ = false := (HR.out).thawed _
          have pc1 : wr.cell? ⟨g, c * 2 + 1, none⟩ = some (.slice p1 p2 p3) := by have q := (HR.out).cellq (i := c) (j := 1) (by have := HNN.out; omega) (by decide) (u := .slice p1 p2 p3) (by show (cPt (pr _))[1]? = _; rw [← hp]; rfl); simpa using q
          have pz1 : wr.frozen? ⟨g, c * 2 + 1, none⟩ = false := (HR.out).thawed _
          have qc0 : wr.cell? ⟨g, a * 2, none⟩ = some (.int .i64 q0) := by have q := (HR.out).cellq (i := a) (j := 0) (by have := HNN.out; omega) (by decide) (u := .int .i64 q0) (by show (cPt (pr _))[0]? = _; rw [← hq]; rfl); simpa using q
          have qz0 : wr.frozen? ⟨g, a * 2, none⟩ = false := (HR.out).thawed _
          have qc1 : wr.cell? ⟨g, a * 2 + 1, none⟩ = some (.slice q1 q2 q3) := by have q := (HR.out).cellq (i := a) (j := 1) (by have := HNN.out; omega) (by decide) (u := .slice q1 q2 q3) (by show (cPt (pr _))[1]? = _; rw [← hq]; rfl); simpa using q
          have qz1 : wr.frozen? ⟨g, a * 2 + 1, none⟩ = false := (HR.out).thawed _
          have pg0 : ∀ n os, (grow (wr.drewN n) os).cell? ⟨g, c * 2, none⟩ = some (.int .i64 p0) := fun n os => cell_grown (by exact (HR.out).glt) pc0 n os
          have pg1 : ∀ n os, (grow (wr.drewN n) os).cell? ⟨g, c * 2 + 1, none⟩ = some (.slice p1 p2 p3) := fun n os => cell_grown (by exact (HR.out).glt) pc1 n os
          have qg0 : ∀ n os, (grow (wr.drewN n) os).cell? ⟨g, a * 2, none⟩ = some (.int .i64 q0) := fun n os => cell_grown (by exact (HR.out).glt) qc0 n os
          have qg1 : ∀ n os, (grow (wr.drewN n) os).cell? ⟨g, a * 2 + 1, none⟩ = some (.slice q1 q2 q3) := fun n os => cell_grown (by exact (HR.out).glt) qc1 n os
          obtain ⟨cv, hcv⟩ : ∃ zz, zz = cf d[c]! d[a]! := ⟨_, rfl⟩
          have hcg : ∀ n os, Calls Try.prog fn (#[.agg #[.int .i64 p0, .slice p1 p2 p3], .agg #[.int .i64 q0, .slice q1 q2 q3]] ++ cb) (grow (wr.drewN n) os) fun e w' => e = .returned (.int .i64 cv) ∧ ∃ q os', w' = grow ((grow (wr.drewN n) os).drewN q) os' := fun n os => by
            have q := HC.out.at (HR.out).gr (HQA.out c (by omega)) (HQA.out a (by omega)) n os
            rw [← hcv] at q
            rw [← hp, ← hq] at q
            exact q
          have HCV := Lib.hid hcv
          have HP := Lib.hid hp
          have HQ := Lib.hid hq
          clear hcv hp hq pc0 pc1 pz0 pz1 qc0 qc1 qz0 qz1
          by_cases hlv : cv < 0
          · have tcv : decide (cv < 0) = true := decide_eq_true hlv
            go_wp2_with fail
            go_quiet_grown (first | (go_at_fn fn; refine Calls.grown_of (hcg _ _)))
            obtain ⟨w2, hw2, HN⟩ : ∃ w2, w2 = grow (wr.drewN nq) osq ∧ Hid (SRow w0 g 59 2 (fun z => cPt (pr z)) rest d w2) := ⟨_, rfl, Lib.hid ((HR.out).keep (Keeps.grow (Keeps.drewN (Keeps.refl _) nq) osq))⟩
            rw [← hw2]
            clear hw2 hcg pg0 pg1 qg0 qg1
            go_wp2_with fail
            all_goals
              go_roundw
              case rel => exact ⟨c + 1, j, by go_num, rfl, by omega, by omega, hj0, Lib.hid (Or.inr (by rw [show c + 1 - 1 = c by omega]; unfold ltc; rw [← HCV.out]; exact decide_eq_true hlv)), HG, HN⟩
              case measure => simp [intOf]; omega
          · have tcv : decide (cv < 0) = false := decide_eq_false hlv
            go_wp2_with fail
            go_quiet_grown (first | (go_at_fn fn; refine Calls.grown_of (hcg _ _)))
            obtain ⟨w2, hw2, HN⟩ : ∃ w2, w2 = grow (wr.drewN nq) osq ∧ Hid (SRow w0 g 59 2 (fun z => cPt (pr z)) rest d w2) := ⟨_, rfl, Lib.hid ((HR.out).keep (Keeps.grow (Keeps.drewN (Keeps.refl _) nq) osq))⟩
            rw [← hw2]
            clear hw2 hcg pg0 pg1 qg0 qg1
            go_wp2_with fail
            all_goals
              go_roundw
              case rel => exact ⟨i, c, rfl, rfl, hi0, hci, by omega, HL, Lib.hid (Or.inr (by unfold ltc; rw [← HCV.out]; exact decide_eq_false (by omega))), HN⟩
              case measure => simp [intOf]; omega
        · have hlt2 : ¬ (i : Int) < (j : Int) := by omega
          obtain rfl : i = j := by omega
          have hN0 : d.size = N := HNN.out
          obtain ⟨q, hq⟩ : ∃ q : Nat, q = i - 1 - a := ⟨_, rfl⟩
          have hqi : a + q + 1 = i := by omega
          have eq1 : (i : Int) - 1 = ((a + q : Nat) : Int) := by omega
          clear hq
          obtain ⟨wo, hwo⟩ : ∃ wo : World, wo = wr := ⟨_, rfl⟩
          subst hwo
          go_wp2_with fail
          go_loopw [13] (fun s13 wr => ∃ n : Nat, n ≤ q ∧ s13 = .int .i64 ((a + n : Nat) : Int) ∧ Hid (SRow w0 g 59 2 (fun z => cPt (pr z)) rest (upR d a n) wr)) (fun s13 _ => a + q - (intOf s13).toNat)
          case atStart => exact ⟨0, Nat.zero_le _, rfl, HR⟩
          case round =>
            obtain ⟨n, hn, rfl, HRR⟩ := hrel
            obtain ⟨k, hk⟩ : ∃ k : Nat, k = a + n := ⟨_, rfl⟩
            obtain ⟨y, hy⟩ : ∃ y : Nat, y = a + n + 1 := ⟨_, rfl⟩
            rw [← hk]
            obtain ⟨dk, hdk⟩ : ∃ x, x = upR d a n := ⟨_, rfl⟩
            rw [← hdk] at HRR
            have HDK : Hid (dk = upR d a n ∧ k = a + n ∧ y = a + n + 1 ∧ dk.size = N) := Lib.hid ⟨hdk, hk, hy, by rw [hdk, upR_size]; exact HNN.out⟩
            have eq2 : ((a + q : Nat) : Int) = (a : Int) + (q : Int) := by omega
            by_cases hlt3 : n < q
            · have hltz3 : (k : Int) < (a : Int) + (q : Int) := by omega
              have sy : (k : Int) + 1 = (y : Int) := by omega
              have syw : IntKind.i64.wrap ((k : Int) + 1) = (y : Int) := by rw [IntKind.wrap_i64]; omega
              have syw2 : IntKind.i64.wrap (y : Int) = (y : Int) := by rw [IntKind.wrap_i64]; omega
              have ltk : (k : Int) < (N : Int) := by omega
              have lty : (y : Int) < (N : Int) := by omega
              have hkm : a + n < a + q := by omega
              have hkN : k < N := by omega
              have hyN : y < N := by omega
              clear hk hy hdk
              go_wp2_with fail
              obtain ⟨⟨p0, p1, p2, p3⟩, hp⟩ : ∃ v, v = pr dk[k]! := ⟨_, rfl⟩
              obtain ⟨⟨q0, q1, q2, q3⟩, hq⟩ : ∃ v, v = pr dk[y]! := ⟨_, rfl⟩
              have pc0 : wr.cell? ⟨g, k * 2, none⟩ = some (.int .i64 p0) := by have q := (HRR.out).cellq (i := k) (j := 0) (by have := HDK.out.2.2.2; omega) (by decide) (u := .int .i64 p0) (by show (cPt (pr _))[0]? = _; rw [← hp]; rfl); simpa using q
              have pz0 : wr.frozen? ⟨g, k * 2, none⟩ = false := (HRR.out).thawed _
              have pc1 : wr.cell? ⟨g, k * 2 + 1, none⟩ = some (.slice p1 p2 p3) := by have q := (HRR.out).cellq (i := k) (j := 1) (by have := HDK.out.2.2.2; omega) (by decide) (u := .slice p1 p2 p3) (by show (cPt (pr _))[1]? = _; rw [← hp]; rfl); simpa using q
              have pz1 : wr.frozen? ⟨g, k * 2 + 1, none⟩ = false := (HRR.out).thawed _
              have qc0 : wr.cell? ⟨g, y * 2, none⟩ = some (.int .i64 q0) := by have q := (HRR.out).cellq (i := y) (j := 0) (by have := HDK.out.2.2.2; omega) (by decide) (u := .int .i64 q0) (by show (cPt (pr _))[0]? = _; rw [← hq]; rfl); simpa using q
              have qz0 : wr.frozen? ⟨g, y * 2, none⟩ = false := (HRR.out).thawed _
              have qc1 : wr.cell? ⟨g, y * 2 + 1, none⟩ = some (.slice q1 q2 q3) := by have q := (HRR.out).cellq (i := y) (j := 1) (by have := HDK.out.2.2.2; omega) (by decide) (u := .slice q1 q2 q3) (by show (cPt (pr _))[1]? = _; rw [← hq]; rfl); simpa using q
              have qz1 : wr.frozen? ⟨g, y * 2 + 1, none⟩ = false := (HRR.out).thawed _
              obtain ⟨wn, hwn, SN⟩ : ∃ wn, wn = (((((((((wr).setCell ⟨g, k * 2, none⟩ (.int .i64 q0))).setCell ⟨g, k * 2 + 1, none⟩ (.slice q1 q2 q3))).setCell ⟨g, y * 2, none⟩ (.int .i64 p0))).setCell ⟨g, y * 2 + 1, none⟩ (.slice p1 p2 p3))).drew ∧ Hid (SRow w0 g 59 2 (fun z => cPt (pr z)) rest (swp dk k y) wn) := by
                have q := (HRR.out).swap (i := k) (j := y) (by have := HDK.out.2.2.2; omega) (by have := HDK.out.2.2.2; omega)
                rw [← hp, ← hq] at q
                exact ⟨_, rfl, Lib.hid (q.keep ((Keeps.refl _).drew))⟩
              have HP := Lib.hid hp
              have HQ := Lib.hid hq
              have HWN := Lib.hid hwn
              clear hp hq hwn
              go_region_law (fail)
              all_goals
                rw [← HWN.out]
                go_wp2_with fail
                go_roundw
                case rel =>
                  obtain ⟨e1, e2, e3, -⟩ := HDK.out
                  refine ⟨n + 1, by omega, by first | (congr 1; omega) | (simp; omega), ?_⟩
                  rw [upR, ← e1, ← e3, ← e2]
                  exact SN
                case measure => simp [intOf]; have := HDK.out.2.1; omega
            · have hltz3 : ¬ (k : Int) < (a : Int) + (q : Int) := by omega
              obtain rfl : n = q := by omega
              go_wp2_with fail
              first | go_end0 | (refine bodyPost_ret (results_none rfl _ _ _) rfl ?_)
              have hv := upR_via d a n (by omega)
              have e1 : a + 1 + n = i := by omega
              rw [e1] at hv
              rw [hdk] at HRR
              refine ⟨rfl, _, HRR.out, upR_perm d a n a b (Nat.le_refl _) (by omega) (by omega), ?_⟩
              exact merged_left SO.out RUNS.out HMA.out hi0 hj0 HL.out HG.out (by rw [HMA.out]; exact hv)
    · have t1 : ¬ (m : Int) - (a : Int) = 1 := by omega
      have t1b : ((m : Int) - (a : Int) == 1) = false := by simpa using t1
      clear t1
      by_cases hbm : b = m + 1
      · have e1 : (b : Int) - (m : Int) = 1 := by omega
        have hbm1 : b ≤ m + 1 := by omega
        have hbm2 : m + 1 ≤ b := by omega
        clear hbm
        have ltm : (m : Int) < (N : Int) := by omega
        have hmN : m < N := by omega
        go_enter Try.func65, Try.ntmps65
        go_wp2_with fail
        go_loopw [14, 15] (fun s14 s15 wr => ∃ i j : Nat, s14 = .int .i64 i ∧ s15 = .int .i64 j ∧ a ≤ i ∧ i ≤ j ∧ j ≤ m ∧ Hid (i = a ∨ ltc cf d[m]! d[i - 1]! = false) ∧ Hid (j = m ∨ ltc cf d[m]! d[j]! = true) ∧ Hid (SRow w0 g 59 2 (fun z => cPt (pr z)) rest d wr)) (fun s14 s15 _ => (intOf s15).toNat - (intOf s14).toNat)
        case atStart => exact ⟨a, m, rfl, rfl, Nat.le_refl _, (by omega), Nat.le_refl _, Lib.hid (Or.inl rfl), Lib.hid (Or.inl rfl), H⟩
        case round =>
          obtain ⟨i, j, rfl, rfl, hi0, hij, hj0, HL, HG, HR⟩ := hrel
          by_cases hlt : i < j
          · have hltz : (i : Int) < (j : Int) := by omega
            obtain ⟨c, hc⟩ : ∃ c : Nat, c = (i + j) / 2 := ⟨_, rfl⟩
            have ec : ((i : Int) + (j : Int)) / 2 = (c : Int) := by omega
            have hci : i ≤ c := by omega
            have hcj : c < j := by omega
            clear hc
            have ltcc : (c : Int) < (N : Int) := by omega
            have hcN : c < N := by omega
            obtain ⟨⟨p0, p1, p2, p3⟩, hp⟩ : ∃ v, v = pr d[m]! := ⟨_, rfl⟩
            obtain ⟨⟨q0, q1, q2, q3⟩, hq⟩ : ∃ v, v = pr d[c]! := ⟨_, rfl⟩
            have pc0 : wr.cell? ⟨g, m * 2, none⟩ = some (.int .i64 p0) := by have q := (HR.out).cellq (i := m) (j := 0) (by have := HNN.out; omega) (by decide) (u := .int .i64 p0) (by show (cPt (pr _))[0]? = _; rw [← hp]; rfl); simpa using q
            have pz0 : wr.frozen? ⟨g, m * 2, none⟩ = false := (HR.out).thawed _
            have pc1 : wr.cell? ⟨g, m * 2 + 1, none⟩ = some (.slice p1 p2 p3) := by have q := (HR.out).cellq (i := m) (j := 1) (by have := HNN.out; omega) (by decide) (u := .slice p1 p2 p3) (by show (cPt (pr _))[1]? = _; rw [← hp]; rfl); simpa using q
            have pz1 : wr.frozen? ⟨g, m * 2 + 1, none⟩ = false := (HR.out).thawed _
            have qc0 : wr.cell? ⟨g, c * 2, none⟩ = some (.int .i64 q0) := by have q := (HR.out).cellq (i := c) (j := 0) (by have := HNN.out; omega) (by decide) (u := .int .i64 q0) (by show (cPt (pr _))[0]? = _; rw [← hq]; rfl); simpa using q
            have qz0 : wr.frozen? ⟨g, c * 2, none⟩ = false := (HR.out).thawed _
            have qc1 : wr.cell? ⟨g, c * 2 + 1, none⟩ = some (.slice q1 q2 q3) := by have q := (HR.out).cellq (i := c) (j := 1) (by have := HNN.out; omega) (by decide) (u := .slice q1 q2 q3) (by show (cPt (pr _))[1]? = _; rw [← hq]; rfl); simpa using q
            have qz1 : wr.frozen? ⟨g, c * 2 + 1, none⟩ = false := (HR.out).thawed _
            have pg0 : ∀ n os, (grow (wr.drewN n) os).cell? ⟨g, m * 2, none⟩ = some (.int .i64 p0) := fun n os => cell_grown (by exact (HR.out).glt) pc0 n os
            have pg1 : ∀ n os, (grow (wr.drewN n) os).cell? ⟨g, m * 2 + 1, none⟩ = some (.slice p1 p2 p3) := fun n os => cell_grown (by exact (HR.out).glt) pc1 n os
            have qg0 : ∀ n os, (grow (wr.drewN n) os).cell? ⟨g, c * 2, none⟩ = some (.int .i64 q0) := fun n os => cell_grown (by exact (HR.out).glt) qc0 n os
            have qg1 : ∀ n os, (grow (wr.drewN n) os).cell? ⟨g, c * 2 + 1, none⟩ = some (.slice q1 q2 q3) := fun n os => cell_grown (by exact (HR.out).glt) qc1 n os
            obtain ⟨cv, hcv⟩ : ∃ zz, zz = cf d[m]! d[c]! := ⟨_, rfl⟩
            have hcg : ∀ n os, Calls Try.prog fn (#[.agg #[.int .i64 p0, .slice p1 p2 p3], .agg #[.int .i64 q0, .slice q1 q2 q3]] ++ cb) (grow (wr.drewN n) os) fun e w' => e = .returned (.int .i64 cv) ∧ ∃ q os', w' = grow ((grow (wr.drewN n) os).drewN q) os' := fun n os => by
              have q := HC.out.at (HR.out).gr (HQA.out m (by omega)) (HQA.out c (by omega)) n os
              rw [← hcv] at q
              rw [← hp, ← hq] at q
              exact q
            have HCV := Lib.hid hcv
            have HP := Lib.hid hp
            have HQ := Lib.hid hq
            clear hcv hp hq pc0 pc1 pz0 pz1 qc0 qc1 qz0 qz1
            by_cases hlv : cv < 0
            · have tcv : decide (cv < 0) = true := decide_eq_true hlv
              go_wp2_with fail
              go_quiet_grown (first | (go_at_fn fn; refine Calls.grown_of (hcg _ _)))
              obtain ⟨w2, hw2, HN⟩ : ∃ w2, w2 = grow (wr.drewN nq) osq ∧ Hid (SRow w0 g 59 2 (fun z => cPt (pr z)) rest d w2) := ⟨_, rfl, Lib.hid ((HR.out).keep (Keeps.grow (Keeps.drewN (Keeps.refl _) nq) osq))⟩
              rw [← hw2]
              clear hw2 hcg pg0 pg1 qg0 qg1
              go_wp2_with fail
              all_goals
                go_roundw
                case rel => exact ⟨i, c, rfl, rfl, hi0, hci, by omega, HL, Lib.hid (Or.inr (by unfold ltc; rw [← HCV.out]; exact decide_eq_true hlv)), HN⟩
                case measure => simp [intOf]; omega
            · have tcv : decide (cv < 0) = false := decide_eq_false hlv
              go_wp2_with fail
              go_quiet_grown (first | (go_at_fn fn; refine Calls.grown_of (hcg _ _)))
              obtain ⟨w2, hw2, HN⟩ : ∃ w2, w2 = grow (wr.drewN nq) osq ∧ Hid (SRow w0 g 59 2 (fun z => cPt (pr z)) rest d w2) := ⟨_, rfl, Lib.hid ((HR.out).keep (Keeps.grow (Keeps.drewN (Keeps.refl _) nq) osq))⟩
              rw [← hw2]
              clear hw2 hcg pg0 pg1 qg0 qg1
              go_wp2_with fail
              all_goals
                go_roundw
                case rel => exact ⟨c + 1, j, by go_num, rfl, by omega, by omega, hj0, Lib.hid (Or.inr (by rw [show c + 1 - 1 = c by omega]; unfold ltc; rw [← HCV.out]; exact decide_eq_false (by omega))), HG, HN⟩
                case measure => simp [intOf]; omega
          · have hlt2 : ¬ (i : Int) < (j : Int) := by omega
            obtain rfl : i = j := by omega
            have hN0 : d.size = N := HNN.out
            obtain ⟨q, hq⟩ : ∃ q : Nat, q = m - i := ⟨_, rfl⟩
            have hqi : i + q = m := by omega
            clear hq
            obtain ⟨wo, hwo⟩ : ∃ wo : World, wo = wr := ⟨_, rfl⟩
            subst hwo
            go_wp2_with fail
            go_loopw [17] (fun s17 wr => ∃ n : Nat, n ≤ q ∧ s17 = .int .i64 ((m - n : Nat) : Int) ∧ Hid (SRow w0 g 59 2 (fun z => cPt (pr z)) rest (downR d m n) wr)) (fun s17 _ => (intOf s17).toNat)
            case atStart => exact ⟨0, Nat.zero_le _, rfl, HR⟩
            case round =>
              obtain ⟨n, hn, rfl, HRR⟩ := hrel
              obtain ⟨k, hk⟩ : ∃ k : Nat, k = m - n := ⟨_, rfl⟩
              obtain ⟨y, hy⟩ : ∃ y : Nat, y = m - n - 1 := ⟨_, rfl⟩
              rw [← hk]
              obtain ⟨dk, hdk⟩ : ∃ x, x = downR d m n := ⟨_, rfl⟩
              rw [← hdk] at HRR
              have HDK : Hid (dk = downR d m n ∧ k = m - n ∧ y = m - n - 1 ∧ dk.size = N) := Lib.hid ⟨hdk, hk, hy, by rw [hdk, downR_size]; exact HNN.out⟩
              by_cases hlt3 : n < q
              · have hltz3 : (i : Int) < (k : Int) := by omega
                have sy : (k : Int) - 1 = (y : Int) := by omega
                have syw2 : IntKind.i64.wrap (y : Int) = (y : Int) := by rw [IntKind.wrap_i64]; omega
                have ltk : (k : Int) < (N : Int) := by omega
                have lty : (y : Int) < (N : Int) := by omega
                have hkN : k < N := by omega
                have hyN : y < N := by omega
                clear hk hy hdk
                go_wp2_with fail
                obtain ⟨⟨p0, p1, p2, p3⟩, hp⟩ : ∃ v, v = pr dk[k]! := ⟨_, rfl⟩
                obtain ⟨⟨q0, q1, q2, q3⟩, hq⟩ : ∃ v, v = pr dk[y]! := ⟨_, rfl⟩
                have pc0 : wr.cell? ⟨g, k * 2, none⟩ = some (.int .i64 p0) := by have q := (HRR.out).cellq (i := k) (j := 0) (by have := HDK.out.2.2.2; omega) (by decide) (u := .int .i64 p0) (by show (cPt (pr _))[0]? = _; rw [← hp]; rfl); simpa using q
                have pz0 : wr.frozen? ⟨g, k * 2, none⟩ = false := (HRR.out).thawed _
                have pc1 : wr.cell? ⟨g, k * 2 + 1, none⟩ = some (.slice p1 p2 p3) := by have q := (HRR.out).cellq (i := k) (j := 1) (by have := HDK.out.2.2.2; omega) (by decide) (u := .slice p1 p2 p3) (by show (cPt (pr _))[1]? = _; rw [← hp]; rfl); simpa using q
                have pz1 : wr.frozen? ⟨g, k * 2 + 1, none⟩ = false := (HRR.out).thawed _
                have qc0 : wr.cell? ⟨g, y * 2, none⟩ = some (.int .i64 q0) := by have q := (HRR.out).cellq (i := y) (j := 0) (by have := HDK.out.2.2.2; omega) (by decide) (u := .int .i64 q0) (by show (cPt (pr _))[0]? = _; rw [← hq]; rfl); simpa using q
                have qz0 : wr.frozen? ⟨g, y * 2, none⟩ = false := (HRR.out).thawed _
                have qc1 : wr.cell? ⟨g, y * 2 + 1, none⟩ = some (.slice q1 q2 q3) := by have q := (HRR.out).cellq (i := y) (j := 1) (by have := HDK.out.2.2.2; omega) (by decide) (u := .slice q1 q2 q3) (by show (cPt (pr _))[1]? = _; rw [← hq]; rfl); simpa using q
                have qz1 : wr.frozen? ⟨g, y * 2 + 1, none⟩ = false := (HRR.out).thawed _
                obtain ⟨wn, hwn, SN⟩ : ∃ wn, wn = (((((((((wr).setCell ⟨g, k * 2, none⟩ (.int .i64 q0))).setCell ⟨g, k * 2 + 1, none⟩ (.slice q1 q2 q3))).setCell ⟨g, y * 2, none⟩ (.int .i64 p0))).setCell ⟨g, y * 2 + 1, none⟩ (.slice p1 p2 p3))).drew ∧ Hid (SRow w0 g 59 2 (fun z => cPt (pr z)) rest (swp dk k y) wn) := by
                  have q := (HRR.out).swap (i := k) (j := y) (by have := HDK.out.2.2.2; omega) (by have := HDK.out.2.2.2; omega)
                  rw [← hp, ← hq] at q
                  exact ⟨_, rfl, Lib.hid (q.keep ((Keeps.refl _).drew))⟩
                have HP := Lib.hid hp
                have HQ := Lib.hid hq
                have HWN := Lib.hid hwn
                clear hp hq hwn
                go_region_law (fail)
                all_goals
                  rw [← HWN.out]
                  go_wp2_with fail
                  go_roundw
                  case rel =>
                    obtain ⟨e1, e2, e3, -⟩ := HDK.out
                    refine ⟨n + 1, by omega, by first | (congr 1; omega) | (simp; omega), ?_⟩
                    rw [downR, ← e1, ← e3, ← e2]
                    exact SN
                  case measure => simp [intOf]; have := HDK.out.2.1; have := HDK.out.2.2.1; omega
              · have hltz3 : ¬ (i : Int) < (k : Int) := by omega
                obtain rfl : n = q := by omega
                go_wp2_with fail
                first | go_end0 | (refine bodyPost_ret (results_none rfl _ _ _) rfl ?_)
                have hv := downR_via d m n (by omega) (by omega)
                have e1 : m - n = i := by omega
                have e2 : m + 1 = b := by omega
                rw [e1, e2] at hv
                rw [hdk] at HRR
                refine ⟨rfl, _, HRR.out, downR_perm d m n a b (by omega) (by omega) (by omega), ?_⟩
                exact merged_right SO.out RUNS.out (by omega) hi0 hj0 HL.out HG.out hv
      · have t2 : ¬ (b : Int) - (m : Int) = 1 := by omega
        have t2b : ((b : Int) - (m : Int) == 1) = false := by simpa using t2
        clear t2
        obtain ⟨mid, hmid⟩ : ∃ mid : Nat, mid = (a + b) / 2 := ⟨_, rfl⟩
        obtain ⟨n, hnn⟩ : ∃ n : Nat, n = mid + m := ⟨_, rfl⟩
        obtain ⟨pp, hpp⟩ : ∃ pp : Nat, pp = n - 1 := ⟨_, rfl⟩
        have emid : ((a : Int) + (b : Int)) / 2 = (mid : Int) := by omega
        have en : (mid : Int) + (m : Int) = (n : Int) := by omega
        have epp : (n : Int) - 1 = (pp : Int) := by omega
        have hp1 : pp + 1 = n := by omega
        clear hpp
        by_cases hmm : mid < m
        · go_enter Try.func65, Try.ntmps65
          have hmz : (mid : Int) < (m : Int) := by omega
          obtain ⟨lo, hlo⟩ : ∃ lo : Nat, lo = n - b := ⟨_, rfl⟩
          have elo : (n : Int) - (b : Int) = (lo : Int) := by omega
          have hl1 : a ≤ lo := by omega
          have hl2 : mid ≤ m := by omega
          have hl3 : mid ≤ mid := by omega
          have hln : mid ≤ n := by omega
          have hl4 : lo ≤ mid := by omega
          have hl5 : n ≤ lo + b := by omega
          have HMID : Hid (mid = (a + b) / 2 ∧ n = mid + m ∧ (lo = if m > mid then n - b else a) ∧ (mid = if m > mid then mid else m)) := Lib.hid ⟨hmid, hnn, by rw [hlo]; simp [show m > mid by omega], by simp [show m > mid by omega]⟩
          have hab2 : a < mid ∧ mid < b := by omega
          have tgt : decide ((mid : Int) < (m : Int)) = true := by simpa using hmz
          have hn1 : n ≤ mid + m := by omega
          have hn2 : mid + m ≤ n := by omega
          clear hmid hnn hmm
          clear hlo
          go_wp2_with fail
          go_loopw [20, 21] (fun s20 s21 wr => ∃ i j : Nat, s20 = .int .i64 i ∧ s21 = .int .i64 j ∧ lo ≤ i ∧ i ≤ j ∧ j ≤ mid ∧ Hid (i = lo ∨ ltc cf d[n - 1 - (i - 1)]! d[i - 1]! = false) ∧ Hid (j = mid ∨ ltc cf d[n - 1 - j]! d[j]! = true) ∧ Hid (SRow w0 g 59 2 (fun z => cPt (pr z)) rest d wr)) (fun s20 s21 _ => (intOf s21).toNat - (intOf s20).toNat)
          case atStart => exact ⟨lo, mid, rfl, rfl, Nat.le_refl _, (by omega), Nat.le_refl _, Lib.hid (Or.inl rfl), Lib.hid (Or.inl rfl), H⟩
          case round =>
            obtain ⟨i, j, rfl, rfl, hi0, hij, hj0, HL, HG, HR⟩ := hrel
            by_cases hlt : i < j
            · have hltz : (i : Int) < (j : Int) := by omega
              obtain ⟨c, hc⟩ : ∃ c : Nat, c = (i + j) / 2 := ⟨_, rfl⟩
              have ec : ((i : Int) + (j : Int)) / 2 = (c : Int) := by omega
              have hci : i ≤ c := by omega
              have hcj : c < j := by omega
              clear hc
              obtain ⟨x, hx⟩ : ∃ x : Nat, x = n - 1 - c := ⟨_, rfl⟩
              have sx : IntKind.i64.wrap ((pp : Int) - (c : Int)) = (x : Int) := by rw [IntKind.wrap_i64]; omega
              have ltx : (x : Int) < (N : Int) := by omega
              have ltc0 : (c : Int) < (N : Int) := by omega
              have hxN : x < N := by omega
              have hcN : c < N := by omega
              have HXC := Lib.hid hx
              clear hx
              obtain ⟨⟨p0, p1, p2, p3⟩, hp⟩ : ∃ v, v = pr d[x]! := ⟨_, rfl⟩
              obtain ⟨⟨q0, q1, q2, q3⟩, hq⟩ : ∃ v, v = pr d[c]! := ⟨_, rfl⟩
              have pc0 : wr.cell? ⟨g, x * 2, none⟩ = some (.int .i64 p0) := by have q := (HR.out).cellq (i := x) (j := 0) (by have := HNN.out; omega) (by decide) (u := .int .i64 p0) (by show (cPt (pr _))[0]? = _; rw [← hp]; rfl); simpa using q
              have pz0 : wr.frozen? ⟨g, x * 2, none⟩ = false := (HR.out).thawed _
              have pc1 : wr.cell? ⟨g, x * 2 + 1, none⟩ = some (.slice p1 p2 p3) := by have q := (HR.out).cellq (i := x) (j := 1) (by have := HNN.out; omega) (by decide) (u := .slice p1 p2 p3) (by show (cPt (pr _))[1]? = _; rw [← hp]; rfl); simpa using q
              have pz1 : wr.frozen? ⟨g, x * 2 + 1, none⟩ = false := (HR.out).thawed _
              have qc0 : wr.cell? ⟨g, c * 2, none⟩ = some (.int .i64 q0) := by have q := (HR.out).cellq (i := c) (j := 0) (by have := HNN.out; omega) (by decide) (u := .int .i64 q0) (by show (cPt (pr _))[0]? = _; rw [← hq]; rfl); simpa using q
              have qz0 : wr.frozen? ⟨g, c * 2, none⟩ = false := (HR.out).thawed _
              have qc1 : wr.cell? ⟨g, c * 2 + 1, none⟩ = some (.slice q1 q2 q3) := by have q := (HR.out).cellq (i := c) (j := 1) (by have := HNN.out; omega) (by decide) (u := .slice q1 q2 q3) (by show (cPt (pr _))[1]? = _; rw [← hq]; rfl); simpa using q
              have qz1 : wr.frozen? ⟨g, c * 2 + 1, none⟩ = false := (HR.out).thawed _
              have pg0 : ∀ n os, (grow (wr.drewN n) os).cell? ⟨g, x * 2, none⟩ = some (.int .i64 p0) := fun n os => cell_grown (by exact (HR.out).glt) pc0 n os
              have pg1 : ∀ n os, (grow (wr.drewN n) os).cell? ⟨g, x * 2 + 1, none⟩ = some (.slice p1 p2 p3) := fun n os => cell_grown (by exact (HR.out).glt) pc1 n os
              have qg0 : ∀ n os, (grow (wr.drewN n) os).cell? ⟨g, c * 2, none⟩ = some (.int .i64 q0) := fun n os => cell_grown (by exact (HR.out).glt) qc0 n os
              have qg1 : ∀ n os, (grow (wr.drewN n) os).cell? ⟨g, c * 2 + 1, none⟩ = some (.slice q1 q2 q3) := fun n os => cell_grown (by exact (HR.out).glt) qc1 n os
              obtain ⟨cv, hcv⟩ : ∃ zz, zz = cf d[x]! d[c]! := ⟨_, rfl⟩
              have hcg : ∀ n os, Calls Try.prog fn (#[.agg #[.int .i64 p0, .slice p1 p2 p3], .agg #[.int .i64 q0, .slice q1 q2 q3]] ++ cb) (grow (wr.drewN n) os) fun e w' => e = .returned (.int .i64 cv) ∧ ∃ q os', w' = grow ((grow (wr.drewN n) os).drewN q) os' := fun n os => by
                have q := HC.out.at (HR.out).gr (HQA.out x (by omega)) (HQA.out c (by omega)) n os
                rw [← hcv] at q
                rw [← hp, ← hq] at q
                exact q
              have HCV := Lib.hid hcv
              have HP := Lib.hid hp
              have HQ := Lib.hid hq
              clear hcv hp hq pc0 pc1 pz0 pz1 qc0 qc1 qz0 qz1
              by_cases hlv : cv < 0
              · have tcv : decide (cv < 0) = true := decide_eq_true hlv
                go_wp2_with fail
                go_quiet_grown (first | (go_at_fn fn; refine Calls.grown_of (hcg _ _)))
                obtain ⟨w2, hw2, HN⟩ : ∃ w2, w2 = grow (wr.drewN nq) osq ∧ Hid (SRow w0 g 59 2 (fun z => cPt (pr z)) rest d w2) := ⟨_, rfl, Lib.hid ((HR.out).keep (Keeps.grow (Keeps.drewN (Keeps.refl _) nq) osq))⟩
                rw [← hw2]
                clear hw2 hcg pg0 pg1 qg0 qg1
                go_wp2_with fail
                all_goals
                  go_roundw
                  case rel => exact ⟨i, c, rfl, rfl, hi0, hci, by omega, HL, Lib.hid (Or.inr (by rw [show n - 1 - c = x from HXC.out.symm]; unfold ltc; rw [← HCV.out]; exact decide_eq_true hlv)), HN⟩
                  case measure => simp [intOf]; omega
              · have tcv : decide (cv < 0) = false := decide_eq_false hlv
                go_wp2_with fail
                go_quiet_grown (first | (go_at_fn fn; refine Calls.grown_of (hcg _ _)))
                obtain ⟨w2, hw2, HN⟩ : ∃ w2, w2 = grow (wr.drewN nq) osq ∧ Hid (SRow w0 g 59 2 (fun z => cPt (pr z)) rest d w2) := ⟨_, rfl, Lib.hid ((HR.out).keep (Keeps.grow (Keeps.drewN (Keeps.refl _) nq) osq))⟩
                rw [← hw2]
                clear hw2 hcg pg0 pg1 qg0 qg1
                go_wp2_with fail
                all_goals
                  go_roundw
                  case rel => exact ⟨c + 1, j, by go_num, rfl, by omega, by omega, hj0, Lib.hid (Or.inr (by rw [show n - 1 - (c + 1 - 1) = x by have := HXC.out; omega, show c + 1 - 1 = c by omega]; unfold ltc; rw [← HCV.out]; exact decide_eq_false (by omega))), HG, HN⟩
                  case measure => simp [intOf]; omega
            · have hlt2 : ¬ (i : Int) < (j : Int) := by omega
              obtain rfl : i = j := by omega
              obtain ⟨e, hne⟩ : ∃ e : Nat, e = n - i := ⟨_, rfl⟩
              have hie : i + e = mid + m := by have := HMID.out.2.1; have := hln; omega
              have ee : (n : Int) - (i : Int) = (e : Int) := by have := HMID.out.2.1; omega
              have HNE := Lib.hid hne
              clear hne
              by_cases hP : i < m
              · have hP1 : (i : Int) < (m : Int) := by omega
                have hP2 : (mid : Int) < (e : Int) := by omega
                by_cases hR : m < e
                · have hR1 : (m : Int) < (e : Int) := by omega
                  have hR2 : (i : Int) < (mid : Int) := by omega
                  by_cases hA : a < i
                  · have hA1 : (a : Int) < (i : Int) := by omega
                    by_cases hB : e < b
                    · have hB1 : (e : Int) < (b : Int) := by omega
                      have hN0 : d.size = N := HNN.out
                      have hrot := rotate_pt (cap := cap) (.func (.func fn) #[] cb) i m e HR.out hN0 (by omega) (by omega) (by omega) hsz
                      go_upto_region 41 with (go_at_call 82; refine hrot.mono ?_; rintro e1 wd ⟨rfl, d1, hr1, hp1, hv1⟩; have HR1 := Lib.hid hr1; have HV1 : Hid (PermIn a b d d1 ∧ Via (rotσ i m e) d d1) := Lib.hid ⟨permIn_mono _ _ _ _ _ _ (by omega) (by omega) (by omega) hp1, hv1⟩; clear hr1 hp1 hv1; dsimp only)
                      clear hrot
                      have HD1 : Hid (d1.size = N ∧ ∀ i, i < N → Q d1[i]!) := Lib.hid ⟨by rw [HV1.out.1.1]; exact hN0, allQ_perm hN0 (by omega) HV1.out.1 HQA.out⟩
                      have HCUT : Hid (Cut lt' (ltc cf) a i mid e b d1) := Lib.hid (by
                        have hc := sym_cut SO.out RUNS.out (s := i) (n := n) (mid := mid) (lo := lo) (hi := mid) HMID.out.1 HMID.out.2.1 HMID.out.2.2.1 HMID.out.2.2.2 hi0 hj0 HL.out HG.out (d' := d1) (by have := HV1.out.2; rw [HNE.out] at this; exact this)
                        rw [← HNE.out] at hc
                        exact hc)
                      have hl := IH.out a i mid d1 wd (by omega) HR1.out HD1.out.1 HD1.out.2 (HCUT.out.left (by omega) (by omega))
                      go_upto_region 43 with (go_at_call 65; refine hl.mono ?_; rintro e1 we ⟨rfl, d2, hr2, hm2⟩; have HR2 := Lib.hid hr2; have HM2 := Lib.hid hm2; clear hr2 hm2; dsimp only)
                      clear hl
                      have HD2 : Hid (d2.size = N ∧ ∀ i, i < N → Q d2[i]!) := Lib.hid ⟨by rw [HM2.out.1.1]; exact HD1.out.1, allQ_perm HD1.out.1 (by omega) HM2.out.1 HD1.out.2⟩
                      have hr := IH.out mid e b d2 we (by omega) HR2.out HD2.out.1 HD2.out.2 (HCUT.out.right HM2.out.1 (by omega) (by omega))
                      go_wp2_with (go_at_call 65; refine hr.mono ?_; rintro e1 wf ⟨rfl, d3, hr3, hm3⟩; have HR3 := Lib.hid hr3; have HM3 := Lib.hid hm3; clear hr3 hm3; dsimp only)
                      go_end0
                      have hg := HCUT.out.glue HM2.out.1 HM2.out.2 HM3.out.1 HM3.out.2
                      exact ⟨rfl, d3, HR3.out, permIn_trans _ _ _ _ _ HV1.out.1 hg.1, hg.2⟩
                    · have hB1 : ¬ (e : Int) < (b : Int) := by omega
                      have hN0 : d.size = N := HNN.out
                      have hrot := rotate_pt (cap := cap) (.func (.func fn) #[] cb) i m e HR.out hN0 (by omega) (by omega) (by omega) hsz
                      go_upto_region 41 with (go_at_call 82; refine hrot.mono ?_; rintro e1 wd ⟨rfl, d1, hr1, hp1, hv1⟩; have HR1 := Lib.hid hr1; have HV1 : Hid (PermIn a b d d1 ∧ Via (rotσ i m e) d d1) := Lib.hid ⟨permIn_mono _ _ _ _ _ _ (by omega) (by omega) (by omega) hp1, hv1⟩; clear hr1 hp1 hv1; dsimp only)
                      clear hrot
                      have HD1 : Hid (d1.size = N ∧ ∀ i, i < N → Q d1[i]!) := Lib.hid ⟨by rw [HV1.out.1.1]; exact hN0, allQ_perm hN0 (by omega) HV1.out.1 HQA.out⟩
                      have HCUT : Hid (Cut lt' (ltc cf) a i mid e b d1) := Lib.hid (by
                        have hc := sym_cut SO.out RUNS.out (s := i) (n := n) (mid := mid) (lo := lo) (hi := mid) HMID.out.1 HMID.out.2.1 HMID.out.2.2.1 HMID.out.2.2.2 hi0 hj0 HL.out HG.out (d' := d1) (by have := HV1.out.2; rw [HNE.out] at this; exact this)
                        rw [← HNE.out] at hc
                        exact hc)
                      have hl := IH.out a i mid d1 wd (by omega) HR1.out HD1.out.1 HD1.out.2 (HCUT.out.left (by omega) (by omega))
                      go_upto_region 43 with (go_at_call 65; refine hl.mono ?_; rintro e1 we ⟨rfl, d2, hr2, hm2⟩; have HR2 := Lib.hid hr2; have HM2 := Lib.hid hm2; clear hr2 hm2; dsimp only)
                      clear hl
                      have HD2 : Hid (d2.size = N ∧ ∀ i, i < N → Q d2[i]!) := Lib.hid ⟨by rw [HM2.out.1.1]; exact HD1.out.1, allQ_perm HD1.out.1 (by omega) HM2.out.1 HD1.out.2⟩
                      obtain ⟨d3, HR3, HM3⟩ : ∃ d3, Hid (SRow w0 g 59 2 (fun z => cPt (pr z)) rest d3 we) ∧ Hid (Merged lt' mid b d2 d3) := ⟨d2, HR2, Lib.hid ⟨permIn_refl _ _ _, HCUT.out.right_done HM2.out.1 (by omega)⟩⟩
                      go_wp2_with fail
                      go_end0
                      have hg := HCUT.out.glue HM2.out.1 HM2.out.2 HM3.out.1 HM3.out.2
                      exact ⟨rfl, d3, HR3.out, permIn_trans _ _ _ _ _ HV1.out.1 hg.1, hg.2⟩
                  · have hA1 : ¬ (a : Int) < (i : Int) := by omega
                    by_cases hB : e < b
                    · have hB1 : (e : Int) < (b : Int) := by omega
                      have hN0 : d.size = N := HNN.out
                      have hrot := rotate_pt (cap := cap) (.func (.func fn) #[] cb) i m e HR.out hN0 (by omega) (by omega) (by omega) hsz
                      go_upto_region 41 with (go_at_call 82; refine hrot.mono ?_; rintro e1 wd ⟨rfl, d1, hr1, hp1, hv1⟩; have HR1 := Lib.hid hr1; have HV1 : Hid (PermIn a b d d1 ∧ Via (rotσ i m e) d d1) := Lib.hid ⟨permIn_mono _ _ _ _ _ _ (by omega) (by omega) (by omega) hp1, hv1⟩; clear hr1 hp1 hv1; dsimp only)
                      clear hrot
                      have HD1 : Hid (d1.size = N ∧ ∀ i, i < N → Q d1[i]!) := Lib.hid ⟨by rw [HV1.out.1.1]; exact hN0, allQ_perm hN0 (by omega) HV1.out.1 HQA.out⟩
                      have HCUT : Hid (Cut lt' (ltc cf) a i mid e b d1) := Lib.hid (by
                        have hc := sym_cut SO.out RUNS.out (s := i) (n := n) (mid := mid) (lo := lo) (hi := mid) HMID.out.1 HMID.out.2.1 HMID.out.2.2.1 HMID.out.2.2.2 hi0 hj0 HL.out HG.out (d' := d1) (by have := HV1.out.2; rw [HNE.out] at this; exact this)
                        rw [← HNE.out] at hc
                        exact hc)
                      obtain ⟨d2, HR2, HM2⟩ : ∃ d2, Hid (SRow w0 g 59 2 (fun z => cPt (pr z)) rest d2 wd) ∧ Hid (Merged lt' a mid d1 d2) := ⟨d1, HR1, Lib.hid ⟨permIn_refl _ _ _, HCUT.out.left_done (by omega)⟩⟩
                      go_upto_region 43 with fail
                      obtain ⟨we, hwe⟩ : ∃ we : World, we = wd := ⟨_, rfl⟩
                      subst hwe
                      have HD2 : Hid (d2.size = N ∧ ∀ i, i < N → Q d2[i]!) := Lib.hid ⟨by rw [HM2.out.1.1]; exact HD1.out.1, allQ_perm HD1.out.1 (by omega) HM2.out.1 HD1.out.2⟩
                      have hr := IH.out mid e b d2 we (by omega) HR2.out HD2.out.1 HD2.out.2 (HCUT.out.right HM2.out.1 (by omega) (by omega))
                      go_wp2_with (go_at_call 65; refine hr.mono ?_; rintro e1 wf ⟨rfl, d3, hr3, hm3⟩; have HR3 := Lib.hid hr3; have HM3 := Lib.hid hm3; clear hr3 hm3; dsimp only)
                      go_end0
                      have hg := HCUT.out.glue HM2.out.1 HM2.out.2 HM3.out.1 HM3.out.2
                      exact ⟨rfl, d3, HR3.out, permIn_trans _ _ _ _ _ HV1.out.1 hg.1, hg.2⟩
                    · have hB1 : ¬ (e : Int) < (b : Int) := by omega
                      have hN0 : d.size = N := HNN.out
                      have hrot := rotate_pt (cap := cap) (.func (.func fn) #[] cb) i m e HR.out hN0 (by omega) (by omega) (by omega) hsz
                      go_upto_region 41 with (go_at_call 82; refine hrot.mono ?_; rintro e1 wd ⟨rfl, d1, hr1, hp1, hv1⟩; have HR1 := Lib.hid hr1; have HV1 : Hid (PermIn a b d d1 ∧ Via (rotσ i m e) d d1) := Lib.hid ⟨permIn_mono _ _ _ _ _ _ (by omega) (by omega) (by omega) hp1, hv1⟩; clear hr1 hp1 hv1; dsimp only)
                      clear hrot
                      have HD1 : Hid (d1.size = N ∧ ∀ i, i < N → Q d1[i]!) := Lib.hid ⟨by rw [HV1.out.1.1]; exact hN0, allQ_perm hN0 (by omega) HV1.out.1 HQA.out⟩
                      have HCUT : Hid (Cut lt' (ltc cf) a i mid e b d1) := Lib.hid (by
                        have hc := sym_cut SO.out RUNS.out (s := i) (n := n) (mid := mid) (lo := lo) (hi := mid) HMID.out.1 HMID.out.2.1 HMID.out.2.2.1 HMID.out.2.2.2 hi0 hj0 HL.out HG.out (d' := d1) (by have := HV1.out.2; rw [HNE.out] at this; exact this)
                        rw [← HNE.out] at hc
                        exact hc)
                      obtain ⟨d2, HR2, HM2⟩ : ∃ d2, Hid (SRow w0 g 59 2 (fun z => cPt (pr z)) rest d2 wd) ∧ Hid (Merged lt' a mid d1 d2) := ⟨d1, HR1, Lib.hid ⟨permIn_refl _ _ _, HCUT.out.left_done (by omega)⟩⟩
                      go_upto_region 43 with fail
                      obtain ⟨we, hwe⟩ : ∃ we : World, we = wd := ⟨_, rfl⟩
                      subst hwe
                      have HD2 : Hid (d2.size = N ∧ ∀ i, i < N → Q d2[i]!) := Lib.hid ⟨by rw [HM2.out.1.1]; exact HD1.out.1, allQ_perm HD1.out.1 (by omega) HM2.out.1 HD1.out.2⟩
                      obtain ⟨d3, HR3, HM3⟩ : ∃ d3, Hid (SRow w0 g 59 2 (fun z => cPt (pr z)) rest d3 we) ∧ Hid (Merged lt' mid b d2 d3) := ⟨d2, HR2, Lib.hid ⟨permIn_refl _ _ _, HCUT.out.right_done HM2.out.1 (by omega)⟩⟩
                      go_wp2_with fail
                      go_end0
                      have hg := HCUT.out.glue HM2.out.1 HM2.out.2 HM3.out.1 HM3.out.2
                      exact ⟨rfl, d3, HR3.out, permIn_trans _ _ _ _ _ HV1.out.1 hg.1, hg.2⟩
                · have hR1 : ¬ (m : Int) < (e : Int) := by omega
                  have hR2 : ¬ (i : Int) < (mid : Int) := by omega
                  by_cases hA : a < i
                  · have hA1 : (a : Int) < (i : Int) := by omega
                    by_cases hB : e < b
                    · have hB1 : (e : Int) < (b : Int) := by omega
                      have hN0 : d.size = N := HNN.out
                      obtain ⟨d1, HR1, HV1⟩ : ∃ d1, Hid (SRow w0 g 59 2 (fun z => cPt (pr z)) rest d1 wr) ∧ Hid (PermIn a b d d1 ∧ Via (rotσ i m e) d d1) := ⟨d, HR, Lib.hid ⟨permIn_refl _ _ _, via_id (by omega) (by omega) (by omega)⟩⟩
                      go_upto_region 41 with fail
                      obtain ⟨wd, hwd⟩ : ∃ wd : World, wd = wr := ⟨_, rfl⟩
                      subst hwd
                      have HD1 : Hid (d1.size = N ∧ ∀ i, i < N → Q d1[i]!) := Lib.hid ⟨by rw [HV1.out.1.1]; exact hN0, allQ_perm hN0 (by omega) HV1.out.1 HQA.out⟩
                      have HCUT : Hid (Cut lt' (ltc cf) a i mid e b d1) := Lib.hid (by
                        have hc := sym_cut SO.out RUNS.out (s := i) (n := n) (mid := mid) (lo := lo) (hi := mid) HMID.out.1 HMID.out.2.1 HMID.out.2.2.1 HMID.out.2.2.2 hi0 hj0 HL.out HG.out (d' := d1) (by have := HV1.out.2; rw [HNE.out] at this; exact this)
                        rw [← HNE.out] at hc
                        exact hc)
                      obtain ⟨d2, HR2, HM2⟩ : ∃ d2, Hid (SRow w0 g 59 2 (fun z => cPt (pr z)) rest d2 wd) ∧ Hid (Merged lt' a mid d1 d2) := ⟨d1, HR1, Lib.hid ⟨permIn_refl _ _ _, HCUT.out.left_done (by omega)⟩⟩
                      go_upto_region 43 with fail
                      obtain ⟨we, hwe⟩ : ∃ we : World, we = wd := ⟨_, rfl⟩
                      subst hwe
                      have HD2 : Hid (d2.size = N ∧ ∀ i, i < N → Q d2[i]!) := Lib.hid ⟨by rw [HM2.out.1.1]; exact HD1.out.1, allQ_perm HD1.out.1 (by omega) HM2.out.1 HD1.out.2⟩
                      have hr := IH.out mid e b d2 we (by omega) HR2.out HD2.out.1 HD2.out.2 (HCUT.out.right HM2.out.1 (by omega) (by omega))
                      go_wp2_with (go_at_call 65; refine hr.mono ?_; rintro e1 wf ⟨rfl, d3, hr3, hm3⟩; have HR3 := Lib.hid hr3; have HM3 := Lib.hid hm3; clear hr3 hm3; dsimp only)
                      go_end0
                      have hg := HCUT.out.glue HM2.out.1 HM2.out.2 HM3.out.1 HM3.out.2
                      exact ⟨rfl, d3, HR3.out, permIn_trans _ _ _ _ _ HV1.out.1 hg.1, hg.2⟩
                    · have hB1 : ¬ (e : Int) < (b : Int) := by omega
                      have hN0 : d.size = N := HNN.out
                      obtain ⟨d1, HR1, HV1⟩ : ∃ d1, Hid (SRow w0 g 59 2 (fun z => cPt (pr z)) rest d1 wr) ∧ Hid (PermIn a b d d1 ∧ Via (rotσ i m e) d d1) := ⟨d, HR, Lib.hid ⟨permIn_refl _ _ _, via_id (by omega) (by omega) (by omega)⟩⟩
                      go_upto_region 41 with fail
                      obtain ⟨wd, hwd⟩ : ∃ wd : World, wd = wr := ⟨_, rfl⟩
                      subst hwd
                      have HD1 : Hid (d1.size = N ∧ ∀ i, i < N → Q d1[i]!) := Lib.hid ⟨by rw [HV1.out.1.1]; exact hN0, allQ_perm hN0 (by omega) HV1.out.1 HQA.out⟩
                      have HCUT : Hid (Cut lt' (ltc cf) a i mid e b d1) := Lib.hid (by
                        have hc := sym_cut SO.out RUNS.out (s := i) (n := n) (mid := mid) (lo := lo) (hi := mid) HMID.out.1 HMID.out.2.1 HMID.out.2.2.1 HMID.out.2.2.2 hi0 hj0 HL.out HG.out (d' := d1) (by have := HV1.out.2; rw [HNE.out] at this; exact this)
                        rw [← HNE.out] at hc
                        exact hc)
                      obtain ⟨d2, HR2, HM2⟩ : ∃ d2, Hid (SRow w0 g 59 2 (fun z => cPt (pr z)) rest d2 wd) ∧ Hid (Merged lt' a mid d1 d2) := ⟨d1, HR1, Lib.hid ⟨permIn_refl _ _ _, HCUT.out.left_done (by omega)⟩⟩
                      go_upto_region 43 with fail
                      obtain ⟨we, hwe⟩ : ∃ we : World, we = wd := ⟨_, rfl⟩
                      subst hwe
                      have HD2 : Hid (d2.size = N ∧ ∀ i, i < N → Q d2[i]!) := Lib.hid ⟨by rw [HM2.out.1.1]; exact HD1.out.1, allQ_perm HD1.out.1 (by omega) HM2.out.1 HD1.out.2⟩
                      obtain ⟨d3, HR3, HM3⟩ : ∃ d3, Hid (SRow w0 g 59 2 (fun z => cPt (pr z)) rest d3 we) ∧ Hid (Merged lt' mid b d2 d3) := ⟨d2, HR2, Lib.hid ⟨permIn_refl _ _ _, HCUT.out.right_done HM2.out.1 (by omega)⟩⟩
                      go_wp2_with fail
                      go_end0
                      have hg := HCUT.out.glue HM2.out.1 HM2.out.2 HM3.out.1 HM3.out.2
                      exact ⟨rfl, d3, HR3.out, permIn_trans _ _ _ _ _ HV1.out.1 hg.1, hg.2⟩
                  · have hA1 : ¬ (a : Int) < (i : Int) := by omega
                    by_cases hB : e < b
                    · have hB1 : (e : Int) < (b : Int) := by omega
                      have hN0 : d.size = N := HNN.out
                      obtain ⟨d1, HR1, HV1⟩ : ∃ d1, Hid (SRow w0 g 59 2 (fun z => cPt (pr z)) rest d1 wr) ∧ Hid (PermIn a b d d1 ∧ Via (rotσ i m e) d d1) := ⟨d, HR, Lib.hid ⟨permIn_refl _ _ _, via_id (by omega) (by omega) (by omega)⟩⟩
                      go_upto_region 41 with fail
                      obtain ⟨wd, hwd⟩ : ∃ wd : World, wd = wr := ⟨_, rfl⟩
                      subst hwd
                      have HD1 : Hid (d1.size = N ∧ ∀ i, i < N → Q d1[i]!) := Lib.hid ⟨by rw [HV1.out.1.1]; exact hN0, allQ_perm hN0 (by omega) HV1.out.1 HQA.out⟩
                      have HCUT : Hid (Cut lt' (ltc cf) a i mid e b d1) := Lib.hid (by
                        have hc := sym_cut SO.out RUNS.out (s := i) (n := n) (mid := mid) (lo := lo) (hi := mid) HMID.out.1 HMID.out.2.1 HMID.out.2.2.1 HMID.out.2.2.2 hi0 hj0 HL.out HG.out (d' := d1) (by have := HV1.out.2; rw [HNE.out] at this; exact this)
                        rw [← HNE.out] at hc
                        exact hc)
                      obtain ⟨d2, HR2, HM2⟩ : ∃ d2, Hid (SRow w0 g 59 2 (fun z => cPt (pr z)) rest d2 wd) ∧ Hid (Merged lt' a mid d1 d2) := ⟨d1, HR1, Lib.hid ⟨permIn_refl _ _ _, HCUT.out.left_done (by omega)⟩⟩
                      go_upto_region 43 with fail
                      obtain ⟨we, hwe⟩ : ∃ we : World, we = wd := ⟨_, rfl⟩
                      subst hwe
                      have HD2 : Hid (d2.size = N ∧ ∀ i, i < N → Q d2[i]!) := Lib.hid ⟨by rw [HM2.out.1.1]; exact HD1.out.1, allQ_perm HD1.out.1 (by omega) HM2.out.1 HD1.out.2⟩
                      have hr := IH.out mid e b d2 we (by omega) HR2.out HD2.out.1 HD2.out.2 (HCUT.out.right HM2.out.1 (by omega) (by omega))
                      go_wp2_with (go_at_call 65; refine hr.mono ?_; rintro e1 wf ⟨rfl, d3, hr3, hm3⟩; have HR3 := Lib.hid hr3; have HM3 := Lib.hid hm3; clear hr3 hm3; dsimp only)
                      go_end0
                      have hg := HCUT.out.glue HM2.out.1 HM2.out.2 HM3.out.1 HM3.out.2
                      exact ⟨rfl, d3, HR3.out, permIn_trans _ _ _ _ _ HV1.out.1 hg.1, hg.2⟩
                    · have hB1 : ¬ (e : Int) < (b : Int) := by omega
                      have hN0 : d.size = N := HNN.out
                      obtain ⟨d1, HR1, HV1⟩ : ∃ d1, Hid (SRow w0 g 59 2 (fun z => cPt (pr z)) rest d1 wr) ∧ Hid (PermIn a b d d1 ∧ Via (rotσ i m e) d d1) := ⟨d, HR, Lib.hid ⟨permIn_refl _ _ _, via_id (by omega) (by omega) (by omega)⟩⟩
                      go_upto_region 41 with fail
                      obtain ⟨wd, hwd⟩ : ∃ wd : World, wd = wr := ⟨_, rfl⟩
                      subst hwd
                      have HD1 : Hid (d1.size = N ∧ ∀ i, i < N → Q d1[i]!) := Lib.hid ⟨by rw [HV1.out.1.1]; exact hN0, allQ_perm hN0 (by omega) HV1.out.1 HQA.out⟩
                      have HCUT : Hid (Cut lt' (ltc cf) a i mid e b d1) := Lib.hid (by
                        have hc := sym_cut SO.out RUNS.out (s := i) (n := n) (mid := mid) (lo := lo) (hi := mid) HMID.out.1 HMID.out.2.1 HMID.out.2.2.1 HMID.out.2.2.2 hi0 hj0 HL.out HG.out (d' := d1) (by have := HV1.out.2; rw [HNE.out] at this; exact this)
                        rw [← HNE.out] at hc
                        exact hc)
                      obtain ⟨d2, HR2, HM2⟩ : ∃ d2, Hid (SRow w0 g 59 2 (fun z => cPt (pr z)) rest d2 wd) ∧ Hid (Merged lt' a mid d1 d2) := ⟨d1, HR1, Lib.hid ⟨permIn_refl _ _ _, HCUT.out.left_done (by omega)⟩⟩
                      go_upto_region 43 with fail
                      obtain ⟨we, hwe⟩ : ∃ we : World, we = wd := ⟨_, rfl⟩
                      subst hwe
                      have HD2 : Hid (d2.size = N ∧ ∀ i, i < N → Q d2[i]!) := Lib.hid ⟨by rw [HM2.out.1.1]; exact HD1.out.1, allQ_perm HD1.out.1 (by omega) HM2.out.1 HD1.out.2⟩
                      obtain ⟨d3, HR3, HM3⟩ : ∃ d3, Hid (SRow w0 g 59 2 (fun z => cPt (pr z)) rest d3 we) ∧ Hid (Merged lt' mid b d2 d3) := ⟨d2, HR2, Lib.hid ⟨permIn_refl _ _ _, HCUT.out.right_done HM2.out.1 (by omega)⟩⟩
                      go_wp2_with fail
                      go_end0
                      have hg := HCUT.out.glue HM2.out.1 HM2.out.2 HM3.out.1 HM3.out.2
                      exact ⟨rfl, d3, HR3.out, permIn_trans _ _ _ _ _ HV1.out.1 hg.1, hg.2⟩
              · have hP1 : ¬ (i : Int) < (m : Int) := by omega
                have hP2 : ¬ (mid : Int) < (e : Int) := by omega
                by_cases hR : m < e
                · have hR1 : (m : Int) < (e : Int) := by omega
                  have hR2 : (i : Int) < (mid : Int) := by omega
                  by_cases hA : a < i
                  · have hA1 : (a : Int) < (i : Int) := by omega
                    by_cases hB : e < b
                    · have hB1 : (e : Int) < (b : Int) := by omega
                      have hN0 : d.size = N := HNN.out
                      obtain ⟨d1, HR1, HV1⟩ : ∃ d1, Hid (SRow w0 g 59 2 (fun z => cPt (pr z)) rest d1 wr) ∧ Hid (PermIn a b d d1 ∧ Via (rotσ i m e) d d1) := ⟨d, HR, Lib.hid ⟨permIn_refl _ _ _, via_id (by omega) (by omega) (by omega)⟩⟩
                      go_upto_region 41 with fail
                      obtain ⟨wd, hwd⟩ : ∃ wd : World, wd = wr := ⟨_, rfl⟩
                      subst hwd
                      have HD1 : Hid (d1.size = N ∧ ∀ i, i < N → Q d1[i]!) := Lib.hid ⟨by rw [HV1.out.1.1]; exact hN0, allQ_perm hN0 (by omega) HV1.out.1 HQA.out⟩
                      have HCUT : Hid (Cut lt' (ltc cf) a i mid e b d1) := Lib.hid (by
                        have hc := sym_cut SO.out RUNS.out (s := i) (n := n) (mid := mid) (lo := lo) (hi := mid) HMID.out.1 HMID.out.2.1 HMID.out.2.2.1 HMID.out.2.2.2 hi0 hj0 HL.out HG.out (d' := d1) (by have := HV1.out.2; rw [HNE.out] at this; exact this)
                        rw [← HNE.out] at hc
                        exact hc)
                      have hl := IH.out a i mid d1 wd (by omega) HR1.out HD1.out.1 HD1.out.2 (HCUT.out.left (by omega) (by omega))
                      go_upto_region 43 with (go_at_call 65; refine hl.mono ?_; rintro e1 we ⟨rfl, d2, hr2, hm2⟩; have HR2 := Lib.hid hr2; have HM2 := Lib.hid hm2; clear hr2 hm2; dsimp only)
                      clear hl
                      have HD2 : Hid (d2.size = N ∧ ∀ i, i < N → Q d2[i]!) := Lib.hid ⟨by rw [HM2.out.1.1]; exact HD1.out.1, allQ_perm HD1.out.1 (by omega) HM2.out.1 HD1.out.2⟩
                      obtain ⟨d3, HR3, HM3⟩ : ∃ d3, Hid (SRow w0 g 59 2 (fun z => cPt (pr z)) rest d3 we) ∧ Hid (Merged lt' mid b d2 d3) := ⟨d2, HR2, Lib.hid ⟨permIn_refl _ _ _, HCUT.out.right_done HM2.out.1 (by omega)⟩⟩
                      go_wp2_with fail
                      go_end0
                      have hg := HCUT.out.glue HM2.out.1 HM2.out.2 HM3.out.1 HM3.out.2
                      exact ⟨rfl, d3, HR3.out, permIn_trans _ _ _ _ _ HV1.out.1 hg.1, hg.2⟩
                    · have hB1 : ¬ (e : Int) < (b : Int) := by omega
                      have hN0 : d.size = N := HNN.out
                      obtain ⟨d1, HR1, HV1⟩ : ∃ d1, Hid (SRow w0 g 59 2 (fun z => cPt (pr z)) rest d1 wr) ∧ Hid (PermIn a b d d1 ∧ Via (rotσ i m e) d d1) := ⟨d, HR, Lib.hid ⟨permIn_refl _ _ _, via_id (by omega) (by omega) (by omega)⟩⟩
                      go_upto_region 41 with fail
                      obtain ⟨wd, hwd⟩ : ∃ wd : World, wd = wr := ⟨_, rfl⟩
                      subst hwd
                      have HD1 : Hid (d1.size = N ∧ ∀ i, i < N → Q d1[i]!) := Lib.hid ⟨by rw [HV1.out.1.1]; exact hN0, allQ_perm hN0 (by omega) HV1.out.1 HQA.out⟩
                      have HCUT : Hid (Cut lt' (ltc cf) a i mid e b d1) := Lib.hid (by
                        have hc := sym_cut SO.out RUNS.out (s := i) (n := n) (mid := mid) (lo := lo) (hi := mid) HMID.out.1 HMID.out.2.1 HMID.out.2.2.1 HMID.out.2.2.2 hi0 hj0 HL.out HG.out (d' := d1) (by have := HV1.out.2; rw [HNE.out] at this; exact this)
                        rw [← HNE.out] at hc
                        exact hc)
                      have hl := IH.out a i mid d1 wd (by omega) HR1.out HD1.out.1 HD1.out.2 (HCUT.out.left (by omega) (by omega))
                      go_upto_region 43 with (go_at_call 65; refine hl.mono ?_; rintro e1 we ⟨rfl, d2, hr2, hm2⟩; have HR2 := Lib.hid hr2; have HM2 := Lib.hid hm2; clear hr2 hm2; dsimp only)
                      clear hl
                      have HD2 : Hid (d2.size = N ∧ ∀ i, i < N → Q d2[i]!) := Lib.hid ⟨by rw [HM2.out.1.1]; exact HD1.out.1, allQ_perm HD1.out.1 (by omega) HM2.out.1 HD1.out.2⟩
                      obtain ⟨d3, HR3, HM3⟩ : ∃ d3, Hid (SRow w0 g 59 2 (fun z => cPt (pr z)) rest d3 we) ∧ Hid (Merged lt' mid b d2 d3) := ⟨d2, HR2, Lib.hid ⟨permIn_refl _ _ _, HCUT.out.right_done HM2.out.1 (by omega)⟩⟩
                      go_wp2_with fail
                      go_end0
                      have hg := HCUT.out.glue HM2.out.1 HM2.out.2 HM3.out.1 HM3.out.2
                      exact ⟨rfl, d3, HR3.out, permIn_trans _ _ _ _ _ HV1.out.1 hg.1, hg.2⟩
                  · have hA1 : ¬ (a : Int) < (i : Int) := by omega
                    by_cases hB : e < b
                    · have hB1 : (e : Int) < (b : Int) := by omega
                      have hN0 : d.size = N := HNN.out
                      obtain ⟨d1, HR1, HV1⟩ : ∃ d1, Hid (SRow w0 g 59 2 (fun z => cPt (pr z)) rest d1 wr) ∧ Hid (PermIn a b d d1 ∧ Via (rotσ i m e) d d1) := ⟨d, HR, Lib.hid ⟨permIn_refl _ _ _, via_id (by omega) (by omega) (by omega)⟩⟩
                      go_upto_region 41 with fail
                      obtain ⟨wd, hwd⟩ : ∃ wd : World, wd = wr := ⟨_, rfl⟩
                      subst hwd
                      have HD1 : Hid (d1.size = N ∧ ∀ i, i < N → Q d1[i]!) := Lib.hid ⟨by rw [HV1.out.1.1]; exact hN0, allQ_perm hN0 (by omega) HV1.out.1 HQA.out⟩
                      have HCUT : Hid (Cut lt' (ltc cf) a i mid e b d1) := Lib.hid (by
                        have hc := sym_cut SO.out RUNS.out (s := i) (n := n) (mid := mid) (lo := lo) (hi := mid) HMID.out.1 HMID.out.2.1 HMID.out.2.2.1 HMID.out.2.2.2 hi0 hj0 HL.out HG.out (d' := d1) (by have := HV1.out.2; rw [HNE.out] at this; exact this)
                        rw [← HNE.out] at hc
                        exact hc)
                      obtain ⟨d2, HR2, HM2⟩ : ∃ d2, Hid (SRow w0 g 59 2 (fun z => cPt (pr z)) rest d2 wd) ∧ Hid (Merged lt' a mid d1 d2) := ⟨d1, HR1, Lib.hid ⟨permIn_refl _ _ _, HCUT.out.left_done (by omega)⟩⟩
                      go_upto_region 43 with fail
                      obtain ⟨we, hwe⟩ : ∃ we : World, we = wd := ⟨_, rfl⟩
                      subst hwe
                      have HD2 : Hid (d2.size = N ∧ ∀ i, i < N → Q d2[i]!) := Lib.hid ⟨by rw [HM2.out.1.1]; exact HD1.out.1, allQ_perm HD1.out.1 (by omega) HM2.out.1 HD1.out.2⟩
                      obtain ⟨d3, HR3, HM3⟩ : ∃ d3, Hid (SRow w0 g 59 2 (fun z => cPt (pr z)) rest d3 we) ∧ Hid (Merged lt' mid b d2 d3) := ⟨d2, HR2, Lib.hid ⟨permIn_refl _ _ _, HCUT.out.right_done HM2.out.1 (by omega)⟩⟩
                      go_wp2_with fail
                      go_end0
                      have hg := HCUT.out.glue HM2.out.1 HM2.out.2 HM3.out.1 HM3.out.2
                      exact ⟨rfl, d3, HR3.out, permIn_trans _ _ _ _ _ HV1.out.1 hg.1, hg.2⟩
                    · have hB1 : ¬ (e : Int) < (b : Int) := by omega
                      have hN0 : d.size = N := HNN.out
                      obtain ⟨d1, HR1, HV1⟩ : ∃ d1, Hid (SRow w0 g 59 2 (fun z => cPt (pr z)) rest d1 wr) ∧ Hid (PermIn a b d d1 ∧ Via (rotσ i m e) d d1) := ⟨d, HR, Lib.hid ⟨permIn_refl _ _ _, via_id (by omega) (by omega) (by omega)⟩⟩
                      go_upto_region 41 with fail
                      obtain ⟨wd, hwd⟩ : ∃ wd : World, wd = wr := ⟨_, rfl⟩
                      subst hwd
                      have HD1 : Hid (d1.size = N ∧ ∀ i, i < N → Q d1[i]!) := Lib.hid ⟨by rw [HV1.out.1.1]; exact hN0, allQ_perm hN0 (by omega) HV1.out.1 HQA.out⟩
                      have HCUT : Hid (Cut lt' (ltc cf) a i mid e b d1) := Lib.hid (by
                        have hc := sym_cut SO.out RUNS.out (s := i) (n := n) (mid := mid) (lo := lo) (hi := mid) HMID.out.1 HMID.out.2.1 HMID.out.2.2.1 HMID.out.2.2.2 hi0 hj0 HL.out HG.out (d' := d1) (by have := HV1.out.2; rw [HNE.out] at this; exact this)
                        rw [← HNE.out] at hc
                        exact hc)
                      obtain ⟨d2, HR2, HM2⟩ : ∃ d2, Hid (SRow w0 g 59 2 (fun z => cPt (pr z)) rest d2 wd) ∧ Hid (Merged lt' a mid d1 d2) := ⟨d1, HR1, Lib.hid ⟨permIn_refl _ _ _, HCUT.out.left_done (by omega)⟩⟩
                      go_upto_region 43 with fail
                      obtain ⟨we, hwe⟩ : ∃ we : World, we = wd := ⟨_, rfl⟩
                      subst hwe
                      have HD2 : Hid (d2.size = N ∧ ∀ i, i < N → Q d2[i]!) := Lib.hid ⟨by rw [HM2.out.1.1]; exact HD1.out.1, allQ_perm HD1.out.1 (by omega) HM2.out.1 HD1.out.2⟩
                      obtain ⟨d3, HR3, HM3⟩ : ∃ d3, Hid (SRow w0 g 59 2 (fun z => cPt (pr z)) rest d3 we) ∧ Hid (Merged lt' mid b d2 d3) := ⟨d2, HR2, Lib.hid ⟨permIn_refl _ _ _, HCUT.out.right_done HM2.out.1 (by omega)⟩⟩
                      go_wp2_with fail
                      go_end0
                      have hg := HCUT.out.glue HM2.out.1 HM2.out.2 HM3.out.1 HM3.out.2
                      exact ⟨rfl, d3, HR3.out, permIn_trans _ _ _ _ _ HV1.out.1 hg.1, hg.2⟩
                · have hR1 : ¬ (m : Int) < (e : Int) := by omega
                  have hR2 : ¬ (i : Int) < (mid : Int) := by omega
                  by_cases hA : a < i
                  · have hA1 : (a : Int) < (i : Int) := by omega
                    by_cases hB : e < b
                    · have hB1 : (e : Int) < (b : Int) := by omega
                      have hN0 : d.size = N := HNN.out
                      obtain ⟨d1, HR1, HV1⟩ : ∃ d1, Hid (SRow w0 g 59 2 (fun z => cPt (pr z)) rest d1 wr) ∧ Hid (PermIn a b d d1 ∧ Via (rotσ i m e) d d1) := ⟨d, HR, Lib.hid ⟨permIn_refl _ _ _, via_id (by omega) (by omega) (by omega)⟩⟩
                      go_upto_region 41 with fail
                      obtain ⟨wd, hwd⟩ : ∃ wd : World, wd = wr := ⟨_, rfl⟩
                      subst hwd
                      have HD1 : Hid (d1.size = N ∧ ∀ i, i < N → Q d1[i]!) := Lib.hid ⟨by rw [HV1.out.1.1]; exact hN0, allQ_perm hN0 (by omega) HV1.out.1 HQA.out⟩
                      have HCUT : Hid (Cut lt' (ltc cf) a i mid e b d1) := Lib.hid (by
                        have hc := sym_cut SO.out RUNS.out (s := i) (n := n) (mid := mid) (lo := lo) (hi := mid) HMID.out.1 HMID.out.2.1 HMID.out.2.2.1 HMID.out.2.2.2 hi0 hj0 HL.out HG.out (d' := d1) (by have := HV1.out.2; rw [HNE.out] at this; exact this)
                        rw [← HNE.out] at hc
                        exact hc)
                      obtain ⟨d2, HR2, HM2⟩ : ∃ d2, Hid (SRow w0 g 59 2 (fun z => cPt (pr z)) rest d2 wd) ∧ Hid (Merged lt' a mid d1 d2) := ⟨d1, HR1, Lib.hid ⟨permIn_refl _ _ _, HCUT.out.left_done (by omega)⟩⟩
                      go_upto_region 43 with fail
                      obtain ⟨we, hwe⟩ : ∃ we : World, we = wd := ⟨_, rfl⟩
                      subst hwe
                      have HD2 : Hid (d2.size = N ∧ ∀ i, i < N → Q d2[i]!) := Lib.hid ⟨by rw [HM2.out.1.1]; exact HD1.out.1, allQ_perm HD1.out.1 (by omega) HM2.out.1 HD1.out.2⟩
                      obtain ⟨d3, HR3, HM3⟩ : ∃ d3, Hid (SRow w0 g 59 2 (fun z => cPt (pr z)) rest d3 we) ∧ Hid (Merged lt' mid b d2 d3) := ⟨d2, HR2, Lib.hid ⟨permIn_refl _ _ _, HCUT.out.right_done HM2.out.1 (by omega)⟩⟩
                      go_wp2_with fail
                      go_end0
                      have hg := HCUT.out.glue HM2.out.1 HM2.out.2 HM3.out.1 HM3.out.2
                      exact ⟨rfl, d3, HR3.out, permIn_trans _ _ _ _ _ HV1.out.1 hg.1, hg.2⟩
                    · have hB1 : ¬ (e : Int) < (b : Int) := by omega
                      have hN0 : d.size = N := HNN.out
                      obtain ⟨d1, HR1, HV1⟩ : ∃ d1, Hid (SRow w0 g 59 2 (fun z => cPt (pr z)) rest d1 wr) ∧ Hid (PermIn a b d d1 ∧ Via (rotσ i m e) d d1) := ⟨d, HR, Lib.hid ⟨permIn_refl _ _ _, via_id (by omega) (by omega) (by omega)⟩⟩
                      go_upto_region 41 with fail
                      obtain ⟨wd, hwd⟩ : ∃ wd : World, wd = wr := ⟨_, rfl⟩
                      subst hwd
                      have HD1 : Hid (d1.size = N ∧ ∀ i, i < N → Q d1[i]!) := Lib.hid ⟨by rw [HV1.out.1.1]; exact hN0, allQ_perm hN0 (by omega) HV1.out.1 HQA.out⟩
                      have HCUT : Hid (Cut lt' (ltc cf) a i mid e b d1) := Lib.hid (by
                        have hc := sym_cut SO.out RUNS.out (s := i) (n := n) (mid := mid) (lo := lo) (hi := mid) HMID.out.1 HMID.out.2.1 HMID.out.2.2.1 HMID.out.2.2.2 hi0 hj0 HL.out HG.out (d' := d1) (by have := HV1.out.2; rw [HNE.out] at this; exact this)
                        rw [← HNE.out] at hc
                        exact hc)
                      obtain ⟨d2, HR2, HM2⟩ : ∃ d2, Hid (SRow w0 g 59 2 (fun z => cPt (pr z)) rest d2 wd) ∧ Hid (Merged lt' a mid d1 d2) := ⟨d1, HR1, Lib.hid ⟨permIn_refl _ _ _, HCUT.out.left_done (by omega)⟩⟩
                      go_upto_region 43 with fail
                      obtain ⟨we, hwe⟩ : ∃ we : World, we = wd := ⟨_, rfl⟩
                      subst hwe
                      have HD2 : Hid (d2.size = N ∧ ∀ i, i < N → Q d2[i]!) := Lib.hid ⟨by rw [HM2.out.1.1]; exact HD1.out.1, allQ_perm HD1.out.1 (by omega) HM2.out.1 HD1.out.2⟩
                      obtain ⟨d3, HR3, HM3⟩ : ∃ d3, Hid (SRow w0 g 59 2 (fun z => cPt (pr z)) rest d3 we) ∧ Hid (Merged lt' mid b d2 d3) := ⟨d2, HR2, Lib.hid ⟨permIn_refl _ _ _, HCUT.out.right_done HM2.out.1 (by omega)⟩⟩
                      go_wp2_with fail
                      go_end0
                      have hg := HCUT.out.glue HM2.out.1 HM2.out.2 HM3.out.1 HM3.out.2
                      exact ⟨rfl, d3, HR3.out, permIn_trans _ _ _ _ _ HV1.out.1 hg.1, hg.2⟩
                  · have hA1 : ¬ (a : Int) < (i : Int) := by omega
                    by_cases hB : e < b
                    · have hB1 : (e : Int) < (b : Int) := by omega
                      have hN0 : d.size = N := HNN.out
                      obtain ⟨d1, HR1, HV1⟩ : ∃ d1, Hid (SRow w0 g 59 2 (fun z => cPt (pr z)) rest d1 wr) ∧ Hid (PermIn a b d d1 ∧ Via (rotσ i m e) d d1) := ⟨d, HR, Lib.hid ⟨permIn_refl _ _ _, via_id (by omega) (by omega) (by omega)⟩⟩
                      go_upto_region 41 with fail
                      obtain ⟨wd, hwd⟩ : ∃ wd : World, wd = wr := ⟨_, rfl⟩
                      subst hwd
                      have HD1 : Hid (d1.size = N ∧ ∀ i, i < N → Q d1[i]!) := Lib.hid ⟨by rw [HV1.out.1.1]; exact hN0, allQ_perm hN0 (by omega) HV1.out.1 HQA.out⟩
                      have HCUT : Hid (Cut lt' (ltc cf) a i mid e b d1) := Lib.hid (by
                        have hc := sym_cut SO.out RUNS.out (s := i) (n := n) (mid := mid) (lo := lo) (hi := mid) HMID.out.1 HMID.out.2.1 HMID.out.2.2.1 HMID.out.2.2.2 hi0 hj0 HL.out HG.out (d' := d1) (by have := HV1.out.2; rw [HNE.out] at this; exact this)
                        rw [← HNE.out] at hc
                        exact hc)
                      obtain ⟨d2, HR2, HM2⟩ : ∃ d2, Hid (SRow w0 g 59 2 (fun z => cPt (pr z)) rest d2 wd) ∧ Hid (Merged lt' a mid d1 d2) := ⟨d1, HR1, Lib.hid ⟨permIn_refl _ _ _, HCUT.out.left_done (by omega)⟩⟩
                      go_upto_region 43 with fail
                      obtain ⟨we, hwe⟩ : ∃ we : World, we = wd := ⟨_, rfl⟩
                      subst hwe
                      have HD2 : Hid (d2.size = N ∧ ∀ i, i < N → Q d2[i]!) := Lib.hid ⟨by rw [HM2.out.1.1]; exact HD1.out.1, allQ_perm HD1.out.1 (by omega) HM2.out.1 HD1.out.2⟩
                      obtain ⟨d3, HR3, HM3⟩ : ∃ d3, Hid (SRow w0 g 59 2 (fun z => cPt (pr z)) rest d3 we) ∧ Hid (Merged lt' mid b d2 d3) := ⟨d2, HR2, Lib.hid ⟨permIn_refl _ _ _, HCUT.out.right_done HM2.out.1 (by omega)⟩⟩
                      go_wp2_with fail
                      go_end0
                      have hg := HCUT.out.glue HM2.out.1 HM2.out.2 HM3.out.1 HM3.out.2
                      exact ⟨rfl, d3, HR3.out, permIn_trans _ _ _ _ _ HV1.out.1 hg.1, hg.2⟩
                    · have hB1 : ¬ (e : Int) < (b : Int) := by omega
                      have hN0 : d.size = N := HNN.out
                      obtain ⟨d1, HR1, HV1⟩ : ∃ d1, Hid (SRow w0 g 59 2 (fun z => cPt (pr z)) rest d1 wr) ∧ Hid (PermIn a b d d1 ∧ Via (rotσ i m e) d d1) := ⟨d, HR, Lib.hid ⟨permIn_refl _ _ _, via_id (by omega) (by omega) (by omega)⟩⟩
                      go_upto_region 41 with fail
                      obtain ⟨wd, hwd⟩ : ∃ wd : World, wd = wr := ⟨_, rfl⟩
                      subst hwd
                      have HD1 : Hid (d1.size = N ∧ ∀ i, i < N → Q d1[i]!) := Lib.hid ⟨by rw [HV1.out.1.1]; exact hN0, allQ_perm hN0 (by omega) HV1.out.1 HQA.out⟩
                      have HCUT : Hid (Cut lt' (ltc cf) a i mid e b d1) := Lib.hid (by
                        have hc := sym_cut SO.out RUNS.out (s := i) (n := n) (mid := mid) (lo := lo) (hi := mid) HMID.out.1 HMID.out.2.1 HMID.out.2.2.1 HMID.out.2.2.2 hi0 hj0 HL.out HG.out (d' := d1) (by have := HV1.out.2; rw [HNE.out] at this; exact this)
                        rw [← HNE.out] at hc
                        exact hc)
                      obtain ⟨d2, HR2, HM2⟩ : ∃ d2, Hid (SRow w0 g 59 2 (fun z => cPt (pr z)) rest d2 wd) ∧ Hid (Merged lt' a mid d1 d2) := ⟨d1, HR1, Lib.hid ⟨permIn_refl _ _ _, HCUT.out.left_done (by omega)⟩⟩
                      go_upto_region 43 with fail
                      obtain ⟨we, hwe⟩ : ∃ we : World, we = wd := ⟨_, rfl⟩
                      subst hwe
                      have HD2 : Hid (d2.size = N ∧ ∀ i, i < N → Q d2[i]!) := Lib.hid ⟨by rw [HM2.out.1.1]; exact HD1.out.1, allQ_perm HD1.out.1 (by omega) HM2.out.1 HD1.out.2⟩
                      obtain ⟨d3, HR3, HM3⟩ : ∃ d3, Hid (SRow w0 g 59 2 (fun z => cPt (pr z)) rest d3 we) ∧ Hid (Merged lt' mid b d2 d3) := ⟨d2, HR2, Lib.hid ⟨permIn_refl _ _ _, HCUT.out.right_done HM2.out.1 (by omega)⟩⟩
                      go_wp2_with fail
                      go_end0
                      have hg := HCUT.out.glue HM2.out.1 HM2.out.2 HM3.out.1 HM3.out.2
                      exact ⟨rfl, d3, HR3.out, permIn_trans _ _ _ _ _ HV1.out.1 hg.1, hg.2⟩
        · go_enter Try.func65, Try.ntmps65
          have hmz : ¬ (mid : Int) < (m : Int) := by omega
          skip
          skip
          have hl1 : a ≤ a := by omega
          have hl2 : m ≤ m := by omega
          have hl3 : m ≤ mid := by omega
          have hln : m ≤ n := by omega
          have hl4 : a ≤ m := by omega
          have hl5 : n ≤ a + b := by omega
          have HMID : Hid (mid = (a + b) / 2 ∧ n = mid + m ∧ (a = if m > mid then n - b else a) ∧ (m = if m > mid then mid else m)) := Lib.hid ⟨hmid, hnn, by simp [show ¬ m > mid by omega], by simp [show ¬ m > mid by omega]⟩
          have hab2 : a < mid ∧ mid < b := by omega
          have tgt : decide ((mid : Int) < (m : Int)) = false := by simpa using hmz
          have hn1 : n ≤ mid + m := by omega
          have hn2 : mid + m ≤ n := by omega
          clear hmid hnn hmm
          skip
          go_wp2_with fail
          go_loopw [20, 21] (fun s20 s21 wr => ∃ i j : Nat, s20 = .int .i64 i ∧ s21 = .int .i64 j ∧ a ≤ i ∧ i ≤ j ∧ j ≤ m ∧ Hid (i = a ∨ ltc cf d[n - 1 - (i - 1)]! d[i - 1]! = false) ∧ Hid (j = m ∨ ltc cf d[n - 1 - j]! d[j]! = true) ∧ Hid (SRow w0 g 59 2 (fun z => cPt (pr z)) rest d wr)) (fun s20 s21 _ => (intOf s21).toNat - (intOf s20).toNat)
          case atStart => exact ⟨a, m, rfl, rfl, Nat.le_refl _, (by omega), Nat.le_refl _, Lib.hid (Or.inl rfl), Lib.hid (Or.inl rfl), H⟩
          case round =>
            obtain ⟨i, j, rfl, rfl, hi0, hij, hj0, HL, HG, HR⟩ := hrel
            by_cases hlt : i < j
            · have hltz : (i : Int) < (j : Int) := by omega
              obtain ⟨c, hc⟩ : ∃ c : Nat, c = (i + j) / 2 := ⟨_, rfl⟩
              have ec : ((i : Int) + (j : Int)) / 2 = (c : Int) := by omega
              have hci : i ≤ c := by omega
              have hcj : c < j := by omega
              clear hc
              obtain ⟨x, hx⟩ : ∃ x : Nat, x = n - 1 - c := ⟨_, rfl⟩
              have sx : IntKind.i64.wrap ((pp : Int) - (c : Int)) = (x : Int) := by rw [IntKind.wrap_i64]; omega
              have ltx : (x : Int) < (N : Int) := by omega
              have ltc0 : (c : Int) < (N : Int) := by omega
              have hxN : x < N := by omega
              have hcN : c < N := by omega
              have HXC := Lib.hid hx
              clear hx
              obtain ⟨⟨p0, p1, p2, p3⟩, hp⟩ : ∃ v, v = pr d[x]! := ⟨_, rfl⟩
              obtain ⟨⟨q0, q1, q2, q3⟩, hq⟩ : ∃ v, v = pr d[c]! := ⟨_, rfl⟩
              have pc0 : wr.cell? ⟨g, x * 2, none⟩ = some (.int .i64 p0) := by have q := (HR.out).cellq (i := x) (j := 0) (by have := HNN.out; omega) (by decide) (u := .int .i64 p0) (by show (cPt (pr _))[0]? = _; rw [← hp]; rfl); simpa using q
              have pz0 : wr.frozen? ⟨g, x * 2, none⟩ = false := (HR.out).thawed _
              have pc1 : wr.cell? ⟨g, x * 2 + 1, none⟩ = some (.slice p1 p2 p3) := by have q := (HR.out).cellq (i := x) (j := 1) (by have := HNN.out; omega) (by decide) (u := .slice p1 p2 p3) (by show (cPt (pr _))[1]? = _; rw [← hp]; rfl); simpa using q
              have pz1 : wr.frozen? ⟨g, x * 2 + 1, none⟩ = false := (HR.out).thawed _
              have qc0 : wr.cell? ⟨g, c * 2, none⟩ = some (.int .i64 q0) := by have q := (HR.out).cellq (i := c) (j := 0) (by have := HNN.out; omega) (by decide) (u := .int .i64 q0) (by show (cPt (pr _))[0]? = _; rw [← hq]; rfl); simpa using q
              have qz0 : wr.frozen? ⟨g, c * 2, none⟩ = false := (HR.out).thawed _
              have qc1 : wr.cell? ⟨g, c * 2 + 1, none⟩ = some (.slice q1 q2 q3) := by have q := (HR.out).cellq (i := c) (j := 1) (by have := HNN.out; omega) (by decide) (u := .slice q1 q2 q3) (by show (cPt (pr _))[1]? = _; rw [← hq]; rfl); simpa using q
              have qz1 : wr.frozen? ⟨g, c * 2 + 1, none⟩ = false := (HR.out).thawed _
              have pg0 : ∀ n os, (grow (wr.drewN n) os).cell? ⟨g, x * 2, none⟩ = some (.int .i64 p0) := fun n os => cell_grown (by exact (HR.out).glt) pc0 n os
              have pg1 : ∀ n os, (grow (wr.drewN n) os).cell? ⟨g, x * 2 + 1, none⟩ = some (.slice p1 p2 p3) := fun n os => cell_grown (by exact (HR.out).glt) pc1 n os
              have qg0 : ∀ n os, (grow (wr.drewN n) os).cell? ⟨g, c * 2, none⟩ = some (.int .i64 q0) := fun n os => cell_grown (by exact (HR.out).glt) qc0 n os
              have qg1 : ∀ n os, (grow (wr.drewN n) os).cell? ⟨g, c * 2 + 1, none⟩ = some (.slice q1 q2 q3) := fun n os => cell_grown (by exact (HR.out).glt) qc1 n os
              obtain ⟨cv, hcv⟩ : ∃ zz, zz = cf d[x]! d[c]! := ⟨_, rfl⟩
              have hcg : ∀ n os, Calls Try.prog fn (#[.agg #[.int .i64 p0, .slice p1 p2 p3], .agg #[.int .i64 q0, .slice q1 q2 q3]] ++ cb) (grow (wr.drewN n) os) fun e w' => e = .returned (.int .i64 cv) ∧ ∃ q os', w' = grow ((grow (wr.drewN n) os).drewN q) os' := fun n os => by
                have q := HC.out.at (HR.out).gr (HQA.out x (by omega)) (HQA.out c (by omega)) n os
                rw [← hcv] at q
                rw [← hp, ← hq] at q
                exact q
              have HCV := Lib.hid hcv
              have HP := Lib.hid hp
              have HQ := Lib.hid hq
              clear hcv hp hq pc0 pc1 pz0 pz1 qc0 qc1 qz0 qz1
              by_cases hlv : cv < 0
              · have tcv : decide (cv < 0) = true := decide_eq_true hlv
                go_wp2_with fail
                go_quiet_grown (first | (go_at_fn fn; refine Calls.grown_of (hcg _ _)))
                obtain ⟨w2, hw2, HN⟩ : ∃ w2, w2 = grow (wr.drewN nq) osq ∧ Hid (SRow w0 g 59 2 (fun z => cPt (pr z)) rest d w2) := ⟨_, rfl, Lib.hid ((HR.out).keep (Keeps.grow (Keeps.drewN (Keeps.refl _) nq) osq))⟩
                rw [← hw2]
                clear hw2 hcg pg0 pg1 qg0 qg1
                go_wp2_with fail
                all_goals
                  go_roundw
                  case rel => exact ⟨i, c, rfl, rfl, hi0, hci, by omega, HL, Lib.hid (Or.inr (by rw [show n - 1 - c = x from HXC.out.symm]; unfold ltc; rw [← HCV.out]; exact decide_eq_true hlv)), HN⟩
                  case measure => simp [intOf]; omega
              · have tcv : decide (cv < 0) = false := decide_eq_false hlv
                go_wp2_with fail
                go_quiet_grown (first | (go_at_fn fn; refine Calls.grown_of (hcg _ _)))
                obtain ⟨w2, hw2, HN⟩ : ∃ w2, w2 = grow (wr.drewN nq) osq ∧ Hid (SRow w0 g 59 2 (fun z => cPt (pr z)) rest d w2) := ⟨_, rfl, Lib.hid ((HR.out).keep (Keeps.grow (Keeps.drewN (Keeps.refl _) nq) osq))⟩
                rw [← hw2]
                clear hw2 hcg pg0 pg1 qg0 qg1
                go_wp2_with fail
                all_goals
                  go_roundw
                  case rel => exact ⟨c + 1, j, by go_num, rfl, by omega, by omega, hj0, Lib.hid (Or.inr (by rw [show n - 1 - (c + 1 - 1) = x by have := HXC.out; omega, show c + 1 - 1 = c by omega]; unfold ltc; rw [← HCV.out]; exact decide_eq_false (by omega))), HG, HN⟩
                  case measure => simp [intOf]; omega
            · have hlt2 : ¬ (i : Int) < (j : Int) := by omega
              obtain rfl : i = j := by omega
              obtain ⟨e, hne⟩ : ∃ e : Nat, e = n - i := ⟨_, rfl⟩
              have hie : i + e = mid + m := by have := HMID.out.2.1; have := hln; omega
              have ee : (n : Int) - (i : Int) = (e : Int) := by have := HMID.out.2.1; omega
              have HNE := Lib.hid hne
              clear hne
              by_cases hP : i < m
              · have hP1 : (i : Int) < (m : Int) := by omega
                have hP2 : (mid : Int) < (e : Int) := by omega
                by_cases hR : m < e
                · have hR1 : (m : Int) < (e : Int) := by omega
                  have hR2 : (i : Int) < (mid : Int) := by omega
                  by_cases hA : a < i
                  · have hA1 : (a : Int) < (i : Int) := by omega
                    by_cases hB : e < b
                    · have hB1 : (e : Int) < (b : Int) := by omega
                      have hN0 : d.size = N := HNN.out
                      have hrot := rotate_pt (cap := cap) (.func (.func fn) #[] cb) i m e HR.out hN0 (by omega) (by omega) (by omega) hsz
                      go_upto_region 41 with (go_at_call 82; refine hrot.mono ?_; rintro e1 wd ⟨rfl, d1, hr1, hp1, hv1⟩; have HR1 := Lib.hid hr1; have HV1 : Hid (PermIn a b d d1 ∧ Via (rotσ i m e) d d1) := Lib.hid ⟨permIn_mono _ _ _ _ _ _ (by omega) (by omega) (by omega) hp1, hv1⟩; clear hr1 hp1 hv1; dsimp only)
                      clear hrot
                      have HD1 : Hid (d1.size = N ∧ ∀ i, i < N → Q d1[i]!) := Lib.hid ⟨by rw [HV1.out.1.1]; exact hN0, allQ_perm hN0 (by omega) HV1.out.1 HQA.out⟩
                      have HCUT : Hid (Cut lt' (ltc cf) a i mid e b d1) := Lib.hid (by
                        have hc := sym_cut SO.out RUNS.out (s := i) (n := n) (mid := mid) (lo := a) (hi := m) HMID.out.1 HMID.out.2.1 HMID.out.2.2.1 HMID.out.2.2.2 hi0 hj0 HL.out HG.out (d' := d1) (by have := HV1.out.2; rw [HNE.out] at this; exact this)
                        rw [← HNE.out] at hc
                        exact hc)
                      have hl := IH.out a i mid d1 wd (by omega) HR1.out HD1.out.1 HD1.out.2 (HCUT.out.left (by omega) (by omega))
                      go_upto_region 43 with (go_at_call 65; refine hl.mono ?_; rintro e1 we ⟨rfl, d2, hr2, hm2⟩; have HR2 := Lib.hid hr2; have HM2 := Lib.hid hm2; clear hr2 hm2; dsimp only)
                      clear hl
                      have HD2 : Hid (d2.size = N ∧ ∀ i, i < N → Q d2[i]!) := Lib.hid ⟨by rw [HM2.out.1.1]; exact HD1.out.1, allQ_perm HD1.out.1 (by omega) HM2.out.1 HD1.out.2⟩
                      have hr := IH.out mid e b d2 we (by omega) HR2.out HD2.out.1 HD2.out.2 (HCUT.out.right HM2.out.1 (by omega) (by omega))
                      go_wp2_with (go_at_call 65; refine hr.mono ?_; rintro e1 wf ⟨rfl, d3, hr3, hm3⟩; have HR3 := Lib.hid hr3; have HM3 := Lib.hid hm3; clear hr3 hm3; dsimp only)
                      go_end0
                      have hg := HCUT.out.glue HM2.out.1 HM2.out.2 HM3.out.1 HM3.out.2
                      exact ⟨rfl, d3, HR3.out, permIn_trans _ _ _ _ _ HV1.out.1 hg.1, hg.2⟩
                    · have hB1 : ¬ (e : Int) < (b : Int) := by omega
                      have hN0 : d.size = N := HNN.out
                      have hrot := rotate_pt (cap := cap) (.func (.func fn) #[] cb) i m e HR.out hN0 (by omega) (by omega) (by omega) hsz
                      go_upto_region 41 with (go_at_call 82; refine hrot.mono ?_; rintro e1 wd ⟨rfl, d1, hr1, hp1, hv1⟩; have HR1 := Lib.hid hr1; have HV1 : Hid (PermIn a b d d1 ∧ Via (rotσ i m e) d d1) := Lib.hid ⟨permIn_mono _ _ _ _ _ _ (by omega) (by omega) (by omega) hp1, hv1⟩; clear hr1 hp1 hv1; dsimp only)
                      clear hrot
                      have HD1 : Hid (d1.size = N ∧ ∀ i, i < N → Q d1[i]!) := Lib.hid ⟨by rw [HV1.out.1.1]; exact hN0, allQ_perm hN0 (by omega) HV1.out.1 HQA.out⟩
                      have HCUT : Hid (Cut lt' (ltc cf) a i mid e b d1) := Lib.hid (by
                        have hc := sym_cut SO.out RUNS.out (s := i) (n := n) (mid := mid) (lo := a) (hi := m) HMID.out.1 HMID.out.2.1 HMID.out.2.2.1 HMID.out.2.2.2 hi0 hj0 HL.out HG.out (d' := d1) (by have := HV1.out.2; rw [HNE.out] at this; exact this)
                        rw [← HNE.out] at hc
                        exact hc)
                      have hl := IH.out a i mid d1 wd (by omega) HR1.out HD1.out.1 HD1.out.2 (HCUT.out.left (by omega) (by omega))
                      go_upto_region 43 with (go_at_call 65; refine hl.mono ?_; rintro e1 we ⟨rfl, d2, hr2, hm2⟩; have HR2 := Lib.hid hr2; have HM2 := Lib.hid hm2; clear hr2 hm2; dsimp only)
                      clear hl
                      have HD2 : Hid (d2.size = N ∧ ∀ i, i < N → Q d2[i]!) := Lib.hid ⟨by rw [HM2.out.1.1]; exact HD1.out.1, allQ_perm HD1.out.1 (by omega) HM2.out.1 HD1.out.2⟩
                      obtain ⟨d3, HR3, HM3⟩ : ∃ d3, Hid (SRow w0 g 59 2 (fun z => cPt (pr z)) rest d3 we) ∧ Hid (Merged lt' mid b d2 d3) := ⟨d2, HR2, Lib.hid ⟨permIn_refl _ _ _, HCUT.out.right_done HM2.out.1 (by omega)⟩⟩
                      go_wp2_with fail
                      go_end0
                      have hg := HCUT.out.glue HM2.out.1 HM2.out.2 HM3.out.1 HM3.out.2
                      exact ⟨rfl, d3, HR3.out, permIn_trans _ _ _ _ _ HV1.out.1 hg.1, hg.2⟩
                  · have hA1 : ¬ (a : Int) < (i : Int) := by omega
                    by_cases hB : e < b
                    · have hB1 : (e : Int) < (b : Int) := by omega
                      have hN0 : d.size = N := HNN.out
                      have hrot := rotate_pt (cap := cap) (.func (.func fn) #[] cb) i m e HR.out hN0 (by omega) (by omega) (by omega) hsz
                      go_upto_region 41 with (go_at_call 82; refine hrot.mono ?_; rintro e1 wd ⟨rfl, d1, hr1, hp1, hv1⟩; have HR1 := Lib.hid hr1; have HV1 : Hid (PermIn a b d d1 ∧ Via (rotσ i m e) d d1) := Lib.hid ⟨permIn_mono _ _ _ _ _ _ (by omega) (by omega) (by omega) hp1, hv1⟩; clear hr1 hp1 hv1; dsimp only)
                      clear hrot
                      have HD1 : Hid (d1.size = N ∧ ∀ i, i < N → Q d1[i]!) := Lib.hid ⟨by rw [HV1.out.1.1]; exact hN0, allQ_perm hN0 (by omega) HV1.out.1 HQA.out⟩
                      have HCUT : Hid (Cut lt' (ltc cf) a i mid e b d1) := Lib.hid (by
                        have hc := sym_cut SO.out RUNS.out (s := i) (n := n) (mid := mid) (lo := a) (hi := m) HMID.out.1 HMID.out.2.1 HMID.out.2.2.1 HMID.out.2.2.2 hi0 hj0 HL.out HG.out (d' := d1) (by have := HV1.out.2; rw [HNE.out] at this; exact this)
                        rw [← HNE.out] at hc
                        exact hc)
                      obtain ⟨d2, HR2, HM2⟩ : ∃ d2, Hid (SRow w0 g 59 2 (fun z => cPt (pr z)) rest d2 wd) ∧ Hid (Merged lt' a mid d1 d2) := ⟨d1, HR1, Lib.hid ⟨permIn_refl _ _ _, HCUT.out.left_done (by omega)⟩⟩
                      go_upto_region 43 with fail
                      obtain ⟨we, hwe⟩ : ∃ we : World, we = wd := ⟨_, rfl⟩
                      subst hwe
                      have HD2 : Hid (d2.size = N ∧ ∀ i, i < N → Q d2[i]!) := Lib.hid ⟨by rw [HM2.out.1.1]; exact HD1.out.1, allQ_perm HD1.out.1 (by omega) HM2.out.1 HD1.out.2⟩
                      have hr := IH.out mid e b d2 we (by omega) HR2.out HD2.out.1 HD2.out.2 (HCUT.out.right HM2.out.1 (by omega) (by omega))
                      go_wp2_with (go_at_call 65; refine hr.mono ?_; rintro e1 wf ⟨rfl, d3, hr3, hm3⟩; have HR3 := Lib.hid hr3; have HM3 := Lib.hid hm3; clear hr3 hm3; dsimp only)
                      go_end0
                      have hg := HCUT.out.glue HM2.out.1 HM2.out.2 HM3.out.1 HM3.out.2
                      exact ⟨rfl, d3, HR3.out, permIn_trans _ _ _ _ _ HV1.out.1 hg.1, hg.2⟩
                    · have hB1 : ¬ (e : Int) < (b : Int) := by omega
                      have hN0 : d.size = N := HNN.out
                      have hrot := rotate_pt (cap := cap) (.func (.func fn) #[] cb) i m e HR.out hN0 (by omega) (by omega) (by omega) hsz
                      go_upto_region 41 with (go_at_call 82; refine hrot.mono ?_; rintro e1 wd ⟨rfl, d1, hr1, hp1, hv1⟩; have HR1 := Lib.hid hr1; have HV1 : Hid (PermIn a b d d1 ∧ Via (rotσ i m e) d d1) := Lib.hid ⟨permIn_mono _ _ _ _ _ _ (by omega) (by omega) (by omega) hp1, hv1⟩; clear hr1 hp1 hv1; dsimp only)
                      clear hrot
                      have HD1 : Hid (d1.size = N ∧ ∀ i, i < N → Q d1[i]!) := Lib.hid ⟨by rw [HV1.out.1.1]; exact hN0, allQ_perm hN0 (by omega) HV1.out.1 HQA.out⟩
                      have HCUT : Hid (Cut lt' (ltc cf) a i mid e b d1) := Lib.hid (by
                        have hc := sym_cut SO.out RUNS.out (s := i) (n := n) (mid := mid) (lo := a) (hi := m) HMID.out.1 HMID.out.2.1 HMID.out.2.2.1 HMID.out.2.2.2 hi0 hj0 HL.out HG.out (d' := d1) (by have := HV1.out.2; rw [HNE.out] at this; exact this)
                        rw [← HNE.out] at hc
                        exact hc)
                      obtain ⟨d2, HR2, HM2⟩ : ∃ d2, Hid (SRow w0 g 59 2 (fun z => cPt (pr z)) rest d2 wd) ∧ Hid (Merged lt' a mid d1 d2) := ⟨d1, HR1, Lib.hid ⟨permIn_refl _ _ _, HCUT.out.left_done (by omega)⟩⟩
                      go_upto_region 43 with fail
                      obtain ⟨we, hwe⟩ : ∃ we : World, we = wd := ⟨_, rfl⟩
                      subst hwe
                      have HD2 : Hid (d2.size = N ∧ ∀ i, i < N → Q d2[i]!) := Lib.hid ⟨by rw [HM2.out.1.1]; exact HD1.out.1, allQ_perm HD1.out.1 (by omega) HM2.out.1 HD1.out.2⟩
                      obtain ⟨d3, HR3, HM3⟩ : ∃ d3, Hid (SRow w0 g 59 2 (fun z => cPt (pr z)) rest d3 we) ∧ Hid (Merged lt' mid b d2 d3) := ⟨d2, HR2, Lib.hid ⟨permIn_refl _ _ _, HCUT.out.right_done HM2.out.1 (by omega)⟩⟩
                      go_wp2_with fail
                      go_end0
                      have hg := HCUT.out.glue HM2.out.1 HM2.out.2 HM3.out.1 HM3.out.2
                      exact ⟨rfl, d3, HR3.out, permIn_trans _ _ _ _ _ HV1.out.1 hg.1, hg.2⟩
                · have hR1 : ¬ (m : Int) < (e : Int) := by omega
                  have hR2 : ¬ (i : Int) < (mid : Int) := by omega
                  by_cases hA : a < i
                  · have hA1 : (a : Int) < (i : Int) := by omega
                    by_cases hB : e < b
                    · have hB1 : (e : Int) < (b : Int) := by omega
                      have hN0 : d.size = N := HNN.out
                      obtain ⟨d1, HR1, HV1⟩ : ∃ d1, Hid (SRow w0 g 59 2 (fun z => cPt (pr z)) rest d1 wr) ∧ Hid (PermIn a b d d1 ∧ Via (rotσ i m e) d d1) := ⟨d, HR, Lib.hid ⟨permIn_refl _ _ _, via_id (by omega) (by omega) (by omega)⟩⟩
                      go_upto_region 41 with fail
                      obtain ⟨wd, hwd⟩ : ∃ wd : World, wd = wr := ⟨_, rfl⟩
                      subst hwd
                      have HD1 : Hid (d1.size = N ∧ ∀ i, i < N → Q d1[i]!) := Lib.hid ⟨by rw [HV1.out.1.1]; exact hN0, allQ_perm hN0 (by omega) HV1.out.1 HQA.out⟩
                      have HCUT : Hid (Cut lt' (ltc cf) a i mid e b d1) := Lib.hid (by
                        have hc := sym_cut SO.out RUNS.out (s := i) (n := n) (mid := mid) (lo := a) (hi := m) HMID.out.1 HMID.out.2.1 HMID.out.2.2.1 HMID.out.2.2.2 hi0 hj0 HL.out HG.out (d' := d1) (by have := HV1.out.2; rw [HNE.out] at this; exact this)
                        rw [← HNE.out] at hc
                        exact hc)
                      obtain ⟨d2, HR2, HM2⟩ : ∃ d2, Hid (SRow w0 g 59 2 (fun z => cPt (pr z)) rest d2 wd) ∧ Hid (Merged lt' a mid d1 d2) := ⟨d1, HR1, Lib.hid ⟨permIn_refl _ _ _, HCUT.out.left_done (by omega)⟩⟩
                      go_upto_region 43 with fail
                      obtain ⟨we, hwe⟩ : ∃ we : World, we = wd := ⟨_, rfl⟩
                      subst hwe
                      have HD2 : Hid (d2.size = N ∧ ∀ i, i < N → Q d2[i]!) := Lib.hid ⟨by rw [HM2.out.1.1]; exact HD1.out.1, allQ_perm HD1.out.1 (by omega) HM2.out.1 HD1.out.2⟩
                      have hr := IH.out mid e b d2 we (by omega) HR2.out HD2.out.1 HD2.out.2 (HCUT.out.right HM2.out.1 (by omega) (by omega))
                      go_wp2_with (go_at_call 65; refine hr.mono ?_; rintro e1 wf ⟨rfl, d3, hr3, hm3⟩; have HR3 := Lib.hid hr3; have HM3 := Lib.hid hm3; clear hr3 hm3; dsimp only)
                      go_end0
                      have hg := HCUT.out.glue HM2.out.1 HM2.out.2 HM3.out.1 HM3.out.2
                      exact ⟨rfl, d3, HR3.out, permIn_trans _ _ _ _ _ HV1.out.1 hg.1, hg.2⟩
                    · have hB1 : ¬ (e : Int) < (b : Int) := by omega
                      have hN0 : d.size = N := HNN.out
                      obtain ⟨d1, HR1, HV1⟩ : ∃ d1, Hid (SRow w0 g 59 2 (fun z => cPt (pr z)) rest d1 wr) ∧ Hid (PermIn a b d d1 ∧ Via (rotσ i m e) d d1) := ⟨d, HR, Lib.hid ⟨permIn_refl _ _ _, via_id (by omega) (by omega) (by omega)⟩⟩
                      go_upto_region 41 with fail
                      obtain ⟨wd, hwd⟩ : ∃ wd : World, wd = wr := ⟨_, rfl⟩
                      subst hwd
                      have HD1 : Hid (d1.size = N ∧ ∀ i, i < N → Q d1[i]!) := Lib.hid ⟨by rw [HV1.out.1.1]; exact hN0, allQ_perm hN0 (by omega) HV1.out.1 HQA.out⟩
                      have HCUT : Hid (Cut lt' (ltc cf) a i mid e b d1) := Lib.hid (by
                        have hc := sym_cut SO.out RUNS.out (s := i) (n := n) (mid := mid) (lo := a) (hi := m) HMID.out.1 HMID.out.2.1 HMID.out.2.2.1 HMID.out.2.2.2 hi0 hj0 HL.out HG.out (d' := d1) (by have := HV1.out.2; rw [HNE.out] at this; exact this)
                        rw [← HNE.out] at hc
                        exact hc)
                      obtain ⟨d2, HR2, HM2⟩ : ∃ d2, Hid (SRow w0 g 59 2 (fun z => cPt (pr z)) rest d2 wd) ∧ Hid (Merged lt' a mid d1 d2) := ⟨d1, HR1, Lib.hid ⟨permIn_refl _ _ _, HCUT.out.left_done (by omega)⟩⟩
                      go_upto_region 43 with fail
                      obtain ⟨we, hwe⟩ : ∃ we : World, we = wd := ⟨_, rfl⟩
                      subst hwe
                      have HD2 : Hid (d2.size = N ∧ ∀ i, i < N → Q d2[i]!) := Lib.hid ⟨by rw [HM2.out.1.1]; exact HD1.out.1, allQ_perm HD1.out.1 (by omega) HM2.out.1 HD1.out.2⟩
                      obtain ⟨d3, HR3, HM3⟩ : ∃ d3, Hid (SRow w0 g 59 2 (fun z => cPt (pr z)) rest d3 we) ∧ Hid (Merged lt' mid b d2 d3) := ⟨d2, HR2, Lib.hid ⟨permIn_refl _ _ _, HCUT.out.right_done HM2.out.1 (by omega)⟩⟩
                      go_wp2_with fail
                      go_end0
                      have hg := HCUT.out.glue HM2.out.1 HM2.out.2 HM3.out.1 HM3.out.2
                      exact ⟨rfl, d3, HR3.out, permIn_trans _ _ _ _ _ HV1.out.1 hg.1, hg.2⟩
                  · have hA1 : ¬ (a : Int) < (i : Int) := by omega
                    by_cases hB : e < b
                    · have hB1 : (e : Int) < (b : Int) := by omega
                      have hN0 : d.size = N := HNN.out
                      obtain ⟨d1, HR1, HV1⟩ : ∃ d1, Hid (SRow w0 g 59 2 (fun z => cPt (pr z)) rest d1 wr) ∧ Hid (PermIn a b d d1 ∧ Via (rotσ i m e) d d1) := ⟨d, HR, Lib.hid ⟨permIn_refl _ _ _, via_id (by omega) (by omega) (by omega)⟩⟩
                      go_upto_region 41 with fail
                      obtain ⟨wd, hwd⟩ : ∃ wd : World, wd = wr := ⟨_, rfl⟩
                      subst hwd
                      have HD1 : Hid (d1.size = N ∧ ∀ i, i < N → Q d1[i]!) := Lib.hid ⟨by rw [HV1.out.1.1]; exact hN0, allQ_perm hN0 (by omega) HV1.out.1 HQA.out⟩
                      have HCUT : Hid (Cut lt' (ltc cf) a i mid e b d1) := Lib.hid (by
                        have hc := sym_cut SO.out RUNS.out (s := i) (n := n) (mid := mid) (lo := a) (hi := m) HMID.out.1 HMID.out.2.1 HMID.out.2.2.1 HMID.out.2.2.2 hi0 hj0 HL.out HG.out (d' := d1) (by have := HV1.out.2; rw [HNE.out] at this; exact this)
                        rw [← HNE.out] at hc
                        exact hc)
                      obtain ⟨d2, HR2, HM2⟩ : ∃ d2, Hid (SRow w0 g 59 2 (fun z => cPt (pr z)) rest d2 wd) ∧ Hid (Merged lt' a mid d1 d2) := ⟨d1, HR1, Lib.hid ⟨permIn_refl _ _ _, HCUT.out.left_done (by omega)⟩⟩
                      go_upto_region 43 with fail
                      obtain ⟨we, hwe⟩ : ∃ we : World, we = wd := ⟨_, rfl⟩
                      subst hwe
                      have HD2 : Hid (d2.size = N ∧ ∀ i, i < N → Q d2[i]!) := Lib.hid ⟨by rw [HM2.out.1.1]; exact HD1.out.1, allQ_perm HD1.out.1 (by omega) HM2.out.1 HD1.out.2⟩
                      have hr := IH.out mid e b d2 we (by omega) HR2.out HD2.out.1 HD2.out.2 (HCUT.out.right HM2.out.1 (by omega) (by omega))
                      go_wp2_with (go_at_call 65; refine hr.mono ?_; rintro e1 wf ⟨rfl, d3, hr3, hm3⟩; have HR3 := Lib.hid hr3; have HM3 := Lib.hid hm3; clear hr3 hm3; dsimp only)
                      go_end0
                      have hg := HCUT.out.glue HM2.out.1 HM2.out.2 HM3.out.1 HM3.out.2
                      exact ⟨rfl, d3, HR3.out, permIn_trans _ _ _ _ _ HV1.out.1 hg.1, hg.2⟩
                    · have hB1 : ¬ (e : Int) < (b : Int) := by omega
                      have hN0 : d.size = N := HNN.out
                      obtain ⟨d1, HR1, HV1⟩ : ∃ d1, Hid (SRow w0 g 59 2 (fun z => cPt (pr z)) rest d1 wr) ∧ Hid (PermIn a b d d1 ∧ Via (rotσ i m e) d d1) := ⟨d, HR, Lib.hid ⟨permIn_refl _ _ _, via_id (by omega) (by omega) (by omega)⟩⟩
                      go_upto_region 41 with fail
                      obtain ⟨wd, hwd⟩ : ∃ wd : World, wd = wr := ⟨_, rfl⟩
                      subst hwd
                      have HD1 : Hid (d1.size = N ∧ ∀ i, i < N → Q d1[i]!) := Lib.hid ⟨by rw [HV1.out.1.1]; exact hN0, allQ_perm hN0 (by omega) HV1.out.1 HQA.out⟩
                      have HCUT : Hid (Cut lt' (ltc cf) a i mid e b d1) := Lib.hid (by
                        have hc := sym_cut SO.out RUNS.out (s := i) (n := n) (mid := mid) (lo := a) (hi := m) HMID.out.1 HMID.out.2.1 HMID.out.2.2.1 HMID.out.2.2.2 hi0 hj0 HL.out HG.out (d' := d1) (by have := HV1.out.2; rw [HNE.out] at this; exact this)
                        rw [← HNE.out] at hc
                        exact hc)
                      obtain ⟨d2, HR2, HM2⟩ : ∃ d2, Hid (SRow w0 g 59 2 (fun z => cPt (pr z)) rest d2 wd) ∧ Hid (Merged lt' a mid d1 d2) := ⟨d1, HR1, Lib.hid ⟨permIn_refl _ _ _, HCUT.out.left_done (by omega)⟩⟩
                      go_upto_region 43 with fail
                      obtain ⟨we, hwe⟩ : ∃ we : World, we = wd := ⟨_, rfl⟩
                      subst hwe
                      have HD2 : Hid (d2.size = N ∧ ∀ i, i < N → Q d2[i]!) := Lib.hid ⟨by rw [HM2.out.1.1]; exact HD1.out.1, allQ_perm HD1.out.1 (by omega) HM2.out.1 HD1.out.2⟩
                      obtain ⟨d3, HR3, HM3⟩ : ∃ d3, Hid (SRow w0 g 59 2 (fun z => cPt (pr z)) rest d3 we) ∧ Hid (Merged lt' mid b d2 d3) := ⟨d2, HR2, Lib.hid ⟨permIn_refl _ _ _, HCUT.out.right_done HM2.out.1 (by omega)⟩⟩
                      go_wp2_with fail
                      go_end0
                      have hg := HCUT.out.glue HM2.out.1 HM2.out.2 HM3.out.1 HM3.out.2
                      exact ⟨rfl, d3, HR3.out, permIn_trans _ _ _ _ _ HV1.out.1 hg.1, hg.2⟩
              · have hP1 : ¬ (i : Int) < (m : Int) := by omega
                have hP2 : ¬ (mid : Int) < (e : Int) := by omega
                by_cases hR : m < e
                · have hR1 : (m : Int) < (e : Int) := by omega
                  have hR2 : (i : Int) < (mid : Int) := by omega
                  by_cases hA : a < i
                  · have hA1 : (a : Int) < (i : Int) := by omega
                    by_cases hB : e < b
                    · have hB1 : (e : Int) < (b : Int) := by omega
                      have hN0 : d.size = N := HNN.out
                      obtain ⟨d1, HR1, HV1⟩ : ∃ d1, Hid (SRow w0 g 59 2 (fun z => cPt (pr z)) rest d1 wr) ∧ Hid (PermIn a b d d1 ∧ Via (rotσ i m e) d d1) := ⟨d, HR, Lib.hid ⟨permIn_refl _ _ _, via_id (by omega) (by omega) (by omega)⟩⟩
                      go_upto_region 41 with fail
                      obtain ⟨wd, hwd⟩ : ∃ wd : World, wd = wr := ⟨_, rfl⟩
                      subst hwd
                      have HD1 : Hid (d1.size = N ∧ ∀ i, i < N → Q d1[i]!) := Lib.hid ⟨by rw [HV1.out.1.1]; exact hN0, allQ_perm hN0 (by omega) HV1.out.1 HQA.out⟩
                      have HCUT : Hid (Cut lt' (ltc cf) a i mid e b d1) := Lib.hid (by
                        have hc := sym_cut SO.out RUNS.out (s := i) (n := n) (mid := mid) (lo := a) (hi := m) HMID.out.1 HMID.out.2.1 HMID.out.2.2.1 HMID.out.2.2.2 hi0 hj0 HL.out HG.out (d' := d1) (by have := HV1.out.2; rw [HNE.out] at this; exact this)
                        rw [← HNE.out] at hc
                        exact hc)
                      have hl := IH.out a i mid d1 wd (by omega) HR1.out HD1.out.1 HD1.out.2 (HCUT.out.left (by omega) (by omega))
                      go_upto_region 43 with (go_at_call 65; refine hl.mono ?_; rintro e1 we ⟨rfl, d2, hr2, hm2⟩; have HR2 := Lib.hid hr2; have HM2 := Lib.hid hm2; clear hr2 hm2; dsimp only)
                      clear hl
                      have HD2 : Hid (d2.size = N ∧ ∀ i, i < N → Q d2[i]!) := Lib.hid ⟨by rw [HM2.out.1.1]; exact HD1.out.1, allQ_perm HD1.out.1 (by omega) HM2.out.1 HD1.out.2⟩
                      obtain ⟨d3, HR3, HM3⟩ : ∃ d3, Hid (SRow w0 g 59 2 (fun z => cPt (pr z)) rest d3 we) ∧ Hid (Merged lt' mid b d2 d3) := ⟨d2, HR2, Lib.hid ⟨permIn_refl _ _ _, HCUT.out.right_done HM2.out.1 (by omega)⟩⟩
                      go_wp2_with fail
                      go_end0
                      have hg := HCUT.out.glue HM2.out.1 HM2.out.2 HM3.out.1 HM3.out.2
                      exact ⟨rfl, d3, HR3.out, permIn_trans _ _ _ _ _ HV1.out.1 hg.1, hg.2⟩
                    · have hB1 : ¬ (e : Int) < (b : Int) := by omega
                      have hN0 : d.size = N := HNN.out
                      obtain ⟨d1, HR1, HV1⟩ : ∃ d1, Hid (SRow w0 g 59 2 (fun z => cPt (pr z)) rest d1 wr) ∧ Hid (PermIn a b d d1 ∧ Via (rotσ i m e) d d1) := ⟨d, HR, Lib.hid ⟨permIn_refl _ _ _, via_id (by omega) (by omega) (by omega)⟩⟩
                      go_upto_region 41 with fail
                      obtain ⟨wd, hwd⟩ : ∃ wd : World, wd = wr := ⟨_, rfl⟩
                      subst hwd
                      have HD1 : Hid (d1.size = N ∧ ∀ i, i < N → Q d1[i]!) := Lib.hid ⟨by rw [HV1.out.1.1]; exact hN0, allQ_perm hN0 (by omega) HV1.out.1 HQA.out⟩
                      have HCUT : Hid (Cut lt' (ltc cf) a i mid e b d1) := Lib.hid (by
                        have hc := sym_cut SO.out RUNS.out (s := i) (n := n) (mid := mid) (lo := a) (hi := m) HMID.out.1 HMID.out.2.1 HMID.out.2.2.1 HMID.out.2.2.2 hi0 hj0 HL.out HG.out (d' := d1) (by have := HV1.out.2; rw [HNE.out] at this; exact this)
                        rw [← HNE.out] at hc
                        exact hc)
                      have hl := IH.out a i mid d1 wd (by omega) HR1.out HD1.out.1 HD1.out.2 (HCUT.out.left (by omega) (by omega))
                      go_upto_region 43 with (go_at_call 65; refine hl.mono ?_; rintro e1 we ⟨rfl, d2, hr2, hm2⟩; have HR2 := Lib.hid hr2; have HM2 := Lib.hid hm2; clear hr2 hm2; dsimp only)
                      clear hl
                      have HD2 : Hid (d2.size = N ∧ ∀ i, i < N → Q d2[i]!) := Lib.hid ⟨by rw [HM2.out.1.1]; exact HD1.out.1, allQ_perm HD1.out.1 (by omega) HM2.out.1 HD1.out.2⟩
                      obtain ⟨d3, HR3, HM3⟩ : ∃ d3, Hid (SRow w0 g 59 2 (fun z => cPt (pr z)) rest d3 we) ∧ Hid (Merged lt' mid b d2 d3) := ⟨d2, HR2, Lib.hid ⟨permIn_refl _ _ _, HCUT.out.right_done HM2.out.1 (by omega)⟩⟩
                      go_wp2_with fail
                      go_end0
                      have hg := HCUT.out.glue HM2.out.1 HM2.out.2 HM3.out.1 HM3.out.2
                      exact ⟨rfl, d3, HR3.out, permIn_trans _ _ _ _ _ HV1.out.1 hg.1, hg.2⟩
                  · have hA1 : ¬ (a : Int) < (i : Int) := by omega
                    by_cases hB : e < b
                    · have hB1 : (e : Int) < (b : Int) := by omega
                      have hN0 : d.size = N := HNN.out
                      obtain ⟨d1, HR1, HV1⟩ : ∃ d1, Hid (SRow w0 g 59 2 (fun z => cPt (pr z)) rest d1 wr) ∧ Hid (PermIn a b d d1 ∧ Via (rotσ i m e) d d1) := ⟨d, HR, Lib.hid ⟨permIn_refl _ _ _, via_id (by omega) (by omega) (by omega)⟩⟩
                      go_upto_region 41 with fail
                      obtain ⟨wd, hwd⟩ : ∃ wd : World, wd = wr := ⟨_, rfl⟩
                      subst hwd
                      have HD1 : Hid (d1.size = N ∧ ∀ i, i < N → Q d1[i]!) := Lib.hid ⟨by rw [HV1.out.1.1]; exact hN0, allQ_perm hN0 (by omega) HV1.out.1 HQA.out⟩
                      have HCUT : Hid (Cut lt' (ltc cf) a i mid e b d1) := Lib.hid (by
                        have hc := sym_cut SO.out RUNS.out (s := i) (n := n) (mid := mid) (lo := a) (hi := m) HMID.out.1 HMID.out.2.1 HMID.out.2.2.1 HMID.out.2.2.2 hi0 hj0 HL.out HG.out (d' := d1) (by have := HV1.out.2; rw [HNE.out] at this; exact this)
                        rw [← HNE.out] at hc
                        exact hc)
                      obtain ⟨d2, HR2, HM2⟩ : ∃ d2, Hid (SRow w0 g 59 2 (fun z => cPt (pr z)) rest d2 wd) ∧ Hid (Merged lt' a mid d1 d2) := ⟨d1, HR1, Lib.hid ⟨permIn_refl _ _ _, HCUT.out.left_done (by omega)⟩⟩
                      go_upto_region 43 with fail
                      obtain ⟨we, hwe⟩ : ∃ we : World, we = wd := ⟨_, rfl⟩
                      subst hwe
                      have HD2 : Hid (d2.size = N ∧ ∀ i, i < N → Q d2[i]!) := Lib.hid ⟨by rw [HM2.out.1.1]; exact HD1.out.1, allQ_perm HD1.out.1 (by omega) HM2.out.1 HD1.out.2⟩
                      obtain ⟨d3, HR3, HM3⟩ : ∃ d3, Hid (SRow w0 g 59 2 (fun z => cPt (pr z)) rest d3 we) ∧ Hid (Merged lt' mid b d2 d3) := ⟨d2, HR2, Lib.hid ⟨permIn_refl _ _ _, HCUT.out.right_done HM2.out.1 (by omega)⟩⟩
                      go_wp2_with fail
                      go_end0
                      have hg := HCUT.out.glue HM2.out.1 HM2.out.2 HM3.out.1 HM3.out.2
                      exact ⟨rfl, d3, HR3.out, permIn_trans _ _ _ _ _ HV1.out.1 hg.1, hg.2⟩
                    · have hB1 : ¬ (e : Int) < (b : Int) := by omega
                      have hN0 : d.size = N := HNN.out
                      obtain ⟨d1, HR1, HV1⟩ : ∃ d1, Hid (SRow w0 g 59 2 (fun z => cPt (pr z)) rest d1 wr) ∧ Hid (PermIn a b d d1 ∧ Via (rotσ i m e) d d1) := ⟨d, HR, Lib.hid ⟨permIn_refl _ _ _, via_id (by omega) (by omega) (by omega)⟩⟩
                      go_upto_region 41 with fail
                      obtain ⟨wd, hwd⟩ : ∃ wd : World, wd = wr := ⟨_, rfl⟩
                      subst hwd
                      have HD1 : Hid (d1.size = N ∧ ∀ i, i < N → Q d1[i]!) := Lib.hid ⟨by rw [HV1.out.1.1]; exact hN0, allQ_perm hN0 (by omega) HV1.out.1 HQA.out⟩
                      have HCUT : Hid (Cut lt' (ltc cf) a i mid e b d1) := Lib.hid (by
                        have hc := sym_cut SO.out RUNS.out (s := i) (n := n) (mid := mid) (lo := a) (hi := m) HMID.out.1 HMID.out.2.1 HMID.out.2.2.1 HMID.out.2.2.2 hi0 hj0 HL.out HG.out (d' := d1) (by have := HV1.out.2; rw [HNE.out] at this; exact this)
                        rw [← HNE.out] at hc
                        exact hc)
                      obtain ⟨d2, HR2, HM2⟩ : ∃ d2, Hid (SRow w0 g 59 2 (fun z => cPt (pr z)) rest d2 wd) ∧ Hid (Merged lt' a mid d1 d2) := ⟨d1, HR1, Lib.hid ⟨permIn_refl _ _ _, HCUT.out.left_done (by omega)⟩⟩
                      go_upto_region 43 with fail
                      obtain ⟨we, hwe⟩ : ∃ we : World, we = wd := ⟨_, rfl⟩
                      subst hwe
                      have HD2 : Hid (d2.size = N ∧ ∀ i, i < N → Q d2[i]!) := Lib.hid ⟨by rw [HM2.out.1.1]; exact HD1.out.1, allQ_perm HD1.out.1 (by omega) HM2.out.1 HD1.out.2⟩
                      obtain ⟨d3, HR3, HM3⟩ : ∃ d3, Hid (SRow w0 g 59 2 (fun z => cPt (pr z)) rest d3 we) ∧ Hid (Merged lt' mid b d2 d3) := ⟨d2, HR2, Lib.hid ⟨permIn_refl _ _ _, HCUT.out.right_done HM2.out.1 (by omega)⟩⟩
                      go_wp2_with fail
                      go_end0
                      have hg := HCUT.out.glue HM2.out.1 HM2.out.2 HM3.out.1 HM3.out.2
                      exact ⟨rfl, d3, HR3.out, permIn_trans _ _ _ _ _ HV1.out.1 hg.1, hg.2⟩
                · have hR1 : ¬ (m : Int) < (e : Int) := by omega
                  have hR2 : ¬ (i : Int) < (mid : Int) := by omega
                  by_cases hA : a < i
                  · have hA1 : (a : Int) < (i : Int) := by omega
                    by_cases hB : e < b
                    · have hB1 : (e : Int) < (b : Int) := by omega
                      have hN0 : d.size = N := HNN.out
                      obtain ⟨d1, HR1, HV1⟩ : ∃ d1, Hid (SRow w0 g 59 2 (fun z => cPt (pr z)) rest d1 wr) ∧ Hid (PermIn a b d d1 ∧ Via (rotσ i m e) d d1) := ⟨d, HR, Lib.hid ⟨permIn_refl _ _ _, via_id (by omega) (by omega) (by omega)⟩⟩
                      go_upto_region 41 with fail
                      obtain ⟨wd, hwd⟩ : ∃ wd : World, wd = wr := ⟨_, rfl⟩
                      subst hwd
                      have HD1 : Hid (d1.size = N ∧ ∀ i, i < N → Q d1[i]!) := Lib.hid ⟨by rw [HV1.out.1.1]; exact hN0, allQ_perm hN0 (by omega) HV1.out.1 HQA.out⟩
                      have HCUT : Hid (Cut lt' (ltc cf) a i mid e b d1) := Lib.hid (by
                        have hc := sym_cut SO.out RUNS.out (s := i) (n := n) (mid := mid) (lo := a) (hi := m) HMID.out.1 HMID.out.2.1 HMID.out.2.2.1 HMID.out.2.2.2 hi0 hj0 HL.out HG.out (d' := d1) (by have := HV1.out.2; rw [HNE.out] at this; exact this)
                        rw [← HNE.out] at hc
                        exact hc)
                      obtain ⟨d2, HR2, HM2⟩ : ∃ d2, Hid (SRow w0 g 59 2 (fun z => cPt (pr z)) rest d2 wd) ∧ Hid (Merged lt' a mid d1 d2) := ⟨d1, HR1, Lib.hid ⟨permIn_refl _ _ _, HCUT.out.left_done (by omega)⟩⟩
                      go_upto_region 43 with fail
                      obtain ⟨we, hwe⟩ : ∃ we : World, we = wd := ⟨_, rfl⟩
                      subst hwe
                      have HD2 : Hid (d2.size = N ∧ ∀ i, i < N → Q d2[i]!) := Lib.hid ⟨by rw [HM2.out.1.1]; exact HD1.out.1, allQ_perm HD1.out.1 (by omega) HM2.out.1 HD1.out.2⟩
                      obtain ⟨d3, HR3, HM3⟩ : ∃ d3, Hid (SRow w0 g 59 2 (fun z => cPt (pr z)) rest d3 we) ∧ Hid (Merged lt' mid b d2 d3) := ⟨d2, HR2, Lib.hid ⟨permIn_refl _ _ _, HCUT.out.right_done HM2.out.1 (by omega)⟩⟩
                      go_wp2_with fail
                      go_end0
                      have hg := HCUT.out.glue HM2.out.1 HM2.out.2 HM3.out.1 HM3.out.2
                      exact ⟨rfl, d3, HR3.out, permIn_trans _ _ _ _ _ HV1.out.1 hg.1, hg.2⟩
                    · have hB1 : ¬ (e : Int) < (b : Int) := by omega
                      have hN0 : d.size = N := HNN.out
                      obtain ⟨d1, HR1, HV1⟩ : ∃ d1, Hid (SRow w0 g 59 2 (fun z => cPt (pr z)) rest d1 wr) ∧ Hid (PermIn a b d d1 ∧ Via (rotσ i m e) d d1) := ⟨d, HR, Lib.hid ⟨permIn_refl _ _ _, via_id (by omega) (by omega) (by omega)⟩⟩
                      go_upto_region 41 with fail
                      obtain ⟨wd, hwd⟩ : ∃ wd : World, wd = wr := ⟨_, rfl⟩
                      subst hwd
                      have HD1 : Hid (d1.size = N ∧ ∀ i, i < N → Q d1[i]!) := Lib.hid ⟨by rw [HV1.out.1.1]; exact hN0, allQ_perm hN0 (by omega) HV1.out.1 HQA.out⟩
                      have HCUT : Hid (Cut lt' (ltc cf) a i mid e b d1) := Lib.hid (by
                        have hc := sym_cut SO.out RUNS.out (s := i) (n := n) (mid := mid) (lo := a) (hi := m) HMID.out.1 HMID.out.2.1 HMID.out.2.2.1 HMID.out.2.2.2 hi0 hj0 HL.out HG.out (d' := d1) (by have := HV1.out.2; rw [HNE.out] at this; exact this)
                        rw [← HNE.out] at hc
                        exact hc)
                      obtain ⟨d2, HR2, HM2⟩ : ∃ d2, Hid (SRow w0 g 59 2 (fun z => cPt (pr z)) rest d2 wd) ∧ Hid (Merged lt' a mid d1 d2) := ⟨d1, HR1, Lib.hid ⟨permIn_refl _ _ _, HCUT.out.left_done (by omega)⟩⟩
                      go_upto_region 43 with fail
                      obtain ⟨we, hwe⟩ : ∃ we : World, we = wd := ⟨_, rfl⟩
                      subst hwe
                      have HD2 : Hid (d2.size = N ∧ ∀ i, i < N → Q d2[i]!) := Lib.hid ⟨by rw [HM2.out.1.1]; exact HD1.out.1, allQ_perm HD1.out.1 (by omega) HM2.out.1 HD1.out.2⟩
                      obtain ⟨d3, HR3, HM3⟩ : ∃ d3, Hid (SRow w0 g 59 2 (fun z => cPt (pr z)) rest d3 we) ∧ Hid (Merged lt' mid b d2 d3) := ⟨d2, HR2, Lib.hid ⟨permIn_refl _ _ _, HCUT.out.right_done HM2.out.1 (by omega)⟩⟩
                      go_wp2_with fail
                      go_end0
                      have hg := HCUT.out.glue HM2.out.1 HM2.out.2 HM3.out.1 HM3.out.2
                      exact ⟨rfl, d3, HR3.out, permIn_trans _ _ _ _ _ HV1.out.1 hg.1, hg.2⟩
                  · have hA1 : ¬ (a : Int) < (i : Int) := by omega
                    by_cases hB : e < b
                    · have hB1 : (e : Int) < (b : Int) := by omega
                      have hN0 : d.size = N := HNN.out
                      obtain ⟨d1, HR1, HV1⟩ : ∃ d1, Hid (SRow w0 g 59 2 (fun z => cPt (pr z)) rest d1 wr) ∧ Hid (PermIn a b d d1 ∧ Via (rotσ i m e) d d1) := ⟨d, HR, Lib.hid ⟨permIn_refl _ _ _, via_id (by omega) (by omega) (by omega)⟩⟩
                      go_upto_region 41 with fail
                      obtain ⟨wd, hwd⟩ : ∃ wd : World, wd = wr := ⟨_, rfl⟩
                      subst hwd
                      have HD1 : Hid (d1.size = N ∧ ∀ i, i < N → Q d1[i]!) := Lib.hid ⟨by rw [HV1.out.1.1]; exact hN0, allQ_perm hN0 (by omega) HV1.out.1 HQA.out⟩
                      have HCUT : Hid (Cut lt' (ltc cf) a i mid e b d1) := Lib.hid (by
                        have hc := sym_cut SO.out RUNS.out (s := i) (n := n) (mid := mid) (lo := a) (hi := m) HMID.out.1 HMID.out.2.1 HMID.out.2.2.1 HMID.out.2.2.2 hi0 hj0 HL.out HG.out (d' := d1) (by have := HV1.out.2; rw [HNE.out] at this; exact this)
                        rw [← HNE.out] at hc
                        exact hc)
                      obtain ⟨d2, HR2, HM2⟩ : ∃ d2, Hid (SRow w0 g 59 2 (fun z => cPt (pr z)) rest d2 wd) ∧ Hid (Merged lt' a mid d1 d2) := ⟨d1, HR1, Lib.hid ⟨permIn_refl _ _ _, HCUT.out.left_done (by omega)⟩⟩
                      go_upto_region 43 with fail
                      obtain ⟨we, hwe⟩ : ∃ we : World, we = wd := ⟨_, rfl⟩
                      subst hwe
                      have HD2 : Hid (d2.size = N ∧ ∀ i, i < N → Q d2[i]!) := Lib.hid ⟨by rw [HM2.out.1.1]; exact HD1.out.1, allQ_perm HD1.out.1 (by omega) HM2.out.1 HD1.out.2⟩
                      obtain ⟨d3, HR3, HM3⟩ : ∃ d3, Hid (SRow w0 g 59 2 (fun z => cPt (pr z)) rest d3 we) ∧ Hid (Merged lt' mid b d2 d3) := ⟨d2, HR2, Lib.hid ⟨permIn_refl _ _ _, HCUT.out.right_done HM2.out.1 (by omega)⟩⟩
                      go_wp2_with fail
                      go_end0
                      have hg := HCUT.out.glue HM2.out.1 HM2.out.2 HM3.out.1 HM3.out.2
                      exact ⟨rfl, d3, HR3.out, permIn_trans _ _ _ _ _ HV1.out.1 hg.1, hg.2⟩
                    · have hB1 : ¬ (e : Int) < (b : Int) := by omega
                      have hN0 : d.size = N := HNN.out
                      obtain ⟨d1, HR1, HV1⟩ : ∃ d1, Hid (SRow w0 g 59 2 (fun z => cPt (pr z)) rest d1 wr) ∧ Hid (PermIn a b d d1 ∧ Via (rotσ i m e) d d1) := ⟨d, HR, Lib.hid ⟨permIn_refl _ _ _, via_id (by omega) (by omega) (by omega)⟩⟩
                      go_upto_region 41 with fail
                      obtain ⟨wd, hwd⟩ : ∃ wd : World, wd = wr := ⟨_, rfl⟩
                      subst hwd
                      have HD1 : Hid (d1.size = N ∧ ∀ i, i < N → Q d1[i]!) := Lib.hid ⟨by rw [HV1.out.1.1]; exact hN0, allQ_perm hN0 (by omega) HV1.out.1 HQA.out⟩
                      have HCUT : Hid (Cut lt' (ltc cf) a i mid e b d1) := Lib.hid (by
                        have hc := sym_cut SO.out RUNS.out (s := i) (n := n) (mid := mid) (lo := a) (hi := m) HMID.out.1 HMID.out.2.1 HMID.out.2.2.1 HMID.out.2.2.2 hi0 hj0 HL.out HG.out (d' := d1) (by have := HV1.out.2; rw [HNE.out] at this; exact this)
                        rw [← HNE.out] at hc
                        exact hc)
                      obtain ⟨d2, HR2, HM2⟩ : ∃ d2, Hid (SRow w0 g 59 2 (fun z => cPt (pr z)) rest d2 wd) ∧ Hid (Merged lt' a mid d1 d2) := ⟨d1, HR1, Lib.hid ⟨permIn_refl _ _ _, HCUT.out.left_done (by omega)⟩⟩
                      go_upto_region 43 with fail
                      obtain ⟨we, hwe⟩ : ∃ we : World, we = wd := ⟨_, rfl⟩
                      subst hwe
                      have HD2 : Hid (d2.size = N ∧ ∀ i, i < N → Q d2[i]!) := Lib.hid ⟨by rw [HM2.out.1.1]; exact HD1.out.1, allQ_perm HD1.out.1 (by omega) HM2.out.1 HD1.out.2⟩
                      obtain ⟨d3, HR3, HM3⟩ : ∃ d3, Hid (SRow w0 g 59 2 (fun z => cPt (pr z)) rest d3 we) ∧ Hid (Merged lt' mid b d2 d3) := ⟨d2, HR2, Lib.hid ⟨permIn_refl _ _ _, HCUT.out.right_done HM2.out.1 (by omega)⟩⟩
                      go_wp2_with fail
                      go_end0
                      have hg := HCUT.out.glue HM2.out.1 HM2.out.2 HM3.out.1 HM3.out.2
                      exact ⟨rfl, d3, HR3.out, permIn_trans _ _ _ _ _ HV1.out.1 hg.1, hg.2⟩
end
end Go.Proofs.Ytofaghcnkppmbaa
