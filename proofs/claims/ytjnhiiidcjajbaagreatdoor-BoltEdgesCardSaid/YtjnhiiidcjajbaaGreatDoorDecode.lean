/-
  image.Decode: the image that the bytes tell, or what is wrong.
-/
import Derived.Test.YtjnhiiidcjajbaaGreatDoorDecOpen
import Derived.Test.YtjnhiiidcjajbaaGreatDoorImgCheck
import Derived.Test.YtjnhiiidcjajbaaGreatDoorFlowCore
import Derived.Test.YtjnhiiidcjajbaaGreatDoorSame
import Derived.Deep.RegionHeld3
import Derived.Deep.DeepCutAuto
import Derived.Deep.CutBlock
import Derived.Deep.RegionLaw
import Derived.Deep.QuietTactic
import Derived.BigQuiet
namespace Go.Proofs.YtjnhiiidcjajbaaGreatDoor
open Go.RowKit BH
set_option maxHeartbeats 4000000
set_option maxRecDepth 100000
theorem magic0 : (ByteArray.extract ⟨#[98, 104, 49, 10]⟩ 0 0).toList = sign.take 0 := by kernel_rfl
theorem magic1 : (ByteArray.extract ⟨#[98, 104, 49, 10]⟩ 0 1).toList = sign.take 1 := by kernel_rfl
theorem magic2 : (ByteArray.extract ⟨#[98, 104, 49, 10]⟩ 0 2).toList = sign.take 2 := by kernel_rfl
theorem magic3 : (ByteArray.extract ⟨#[98, 104, 49, 10]⟩ 0 3).toList = sign.take 3 := by kernel_rfl
theorem magic4 : (ByteArray.extract ⟨#[98, 104, 49, 10]⟩ 0 4).toList = sign.take 4 := by kernel_rfl
theorem magic_take (n : Nat) (h : n ≤ 4) : (ByteArray.extract ⟨#[98, 104, 49, 10]⟩ 0 n).toList = sign.take n :=
  match n, h with
  | 0, _ => magic0
  | 1, _ => magic1
  | 2, _ => magic2
  | 3, _ => magic3
  | 4, _ => magic4
theorem imgDecode_any (v : Value) (l : List UInt8) (w : World) (hv : Bytes w v l) :
    Calls Tryz.prog 15 #[v] w (GivesN (fun v' w' => ImgAt w' v' (decImg l).1) (decImg l).2 w) := by
  obtain ⟨av, cv, e, q1, q2, q3, q4⟩ := id hv
  subst e
  unfold maxLen at q2
  generalize hD : decImg l = R
  obtain ⟨mi, er⟩ := R
  have HD := Lib.hid hD
  clear hD
  dsimp only
  obtain ⟨W, hW, hB0, hkW⟩ : ∃ W : World, W = w.alloc (.cells #[.slice none 0 0, .slice none 0 0, .slice none 0 0, .slice none 0 0, .slice none 0 0, .int .i64 0] 47) ∧ Blk W w.heap.size (.cells #[.slice none 0 0, .slice none 0 0, .slice none 0 0, .slice none 0 0, .slice none 0 0, .int .i64 0] 47) ∧ Keeps w W := ⟨_, rfl, Blk.top _ _, (Keeps.refl w).alloc _⟩
  have HW := Lib.hid hW
  have HB0 := Lib.hid hB0
  have HKW := Lib.hid hkW
  have hsz : w.heap.size < W.heap.size := by rw [hW, sz_alloc]; exact Nat.lt_succ_self _
  have hsz1 : W.heap.size = w.heap.size + 1 := by rw [hW, sz_alloc]
  have HSZ := Lib.hid hsz1
  have d0 := (hB0).cell (j := 0) rfl
  have d1 := (hB0).cell (j := 1) rfl
  have d2 := (hB0).cell (j := 2) rfl
  have d3 := (hB0).cell (j := 3) rfl
  have d4 := (hB0).cell (j := 4) rfl
  have d5 := (hB0).cell (j := 5) rfl
  have u0 := (hB0).thawed 0
  have u1 := (hB0).thawed 1
  have u2 := (hB0).thawed 2
  have u3 := (hB0).thawed 3
  have u4 := (hB0).thawed 4
  have u5 := (hB0).thawed 5
  have HV := Lib.hid (Arr.keep hv hkW : Bytes W _ l)
  clear hW hB0 hkW hv hsz1 q4
  go_enter Tryz.func15, Tryz.ntmps15
  go_upto_region 1 with fail
  rw [← HW.out]
  clear HW
  by_cases hbig : 100000 < l.length
  · have hx := HD.out.symm.trans (dec_big hbig)
    injection hx with hx1 hx2
    subst hx1 hx2
    go_wp2_with fail
    obtain ⟨wf, hwf⟩ : ∃ wf : World, wf = ((((((((((((W).setCell ⟨w.heap.size, 0, none⟩ (.slice none 0 0))).setCell ⟨w.heap.size, 1, none⟩ (.slice none 0 0))).setCell ⟨w.heap.size, 2, none⟩ (.slice none 0 0))).setCell ⟨w.heap.size, 3, none⟩ (.slice none 0 0))).setCell ⟨w.heap.size, 4, none⟩ (.slice none 0 0))).setCell ⟨w.heap.size, 5, none⟩ (.int .i64 0)) := ⟨_, rfl⟩
    rw [← hwf]
    obtain ⟨hBf, hgf⟩ := put6 (HB0.out) _ _ _ _ _ _ hwf
    have HK := Lib.hid (keeps_put (HKW.out) (Nat.le_refl _) hgf)
    have HGF := Lib.hid hgf
    have e0 := (hBf).cell (j := 0) rfl
    have e1 := (hBf).cell (j := 1) rfl
    have e2 := (hBf).cell (j := 2) rfl
    have e3 := (hBf).cell (j := 3) rfl
    have e4 := (hBf).cell (j := 4) rfl
    have e5 := (hBf).cell (j := 5) rfl
    clear hwf hBf hgf
    exact bodyPost_ret (v := .tuple #[.agg #[.slice none 0 0, .slice none 0 0, .slice none 0 0, .slice none 0 0, .slice none 0 0, .int .i64 0], .int .i64 1]) (by simp [results, Tryz.results15, go_sem, e0, e1, e2, e3, e4, e5]) rfl ⟨_, rfl, zimg_at _, HK.out⟩

  · obtain ⟨r, hr⟩ : ∃ r, r = W.heap.size := ⟨_, rfl⟩
    obtain ⟨W1, hW1, hR1, hkW1⟩ : ∃ W1 : World, W1 = W.alloc (.cells #[.slice av l.length cv, .bool false] 85) ∧ RdAt W r (some l) W1 ∧ Keeps W W1 := ⟨_, rfl, ⟨av, _, cv, false, Blk.top' _ _ hr, by omega, rfl, HV.out⟩, (Keeps.refl W).alloc _⟩
    have HW1 := Lib.hid hW1
    have HR1 := Lib.hid hR1
    have HK1 := Lib.hid hkW1
    have HR := Lib.hid hr
    have hrW : W.heap.size ≤ r := Nat.le_of_eq hr.symm
    clear hW1 hR1 hkW1
    go_upto_region 4 with fail
    rw [← hr, ← HW1.out]
    clear hr HW1 u0 u1 u2 u3 u4 u5 d0 d1 d2 d3 d4 d5
    have hb : l.length ≤ 100000 := by omega
    clear hbig
    rcases Nat.lt_or_ge l.length 4 with h4 | h4
    · go_wp2_with fail
      refine (take_any W r _ (some l) _ HK1.out HR1.out (by omega) (by omega)).mono ?_
      rintro e w2 ⟨v2, rfl, hv2, hn2, hg2, hr2⟩
      rw [tk_ok (Int.le_refl _), Int.toNat_natCast] at hv2 hr2
      obtain ⟨a2, c2, e2, q5, q6, -, -⟩ := id hv2
      have HC := run_string_of (P := Tryz.prog) hv2 Tryz.underlying32 Tryz.underlying5 Tryz.underlying9
      rw [List.take_length] at hv2 e2
      subst e2
      have HCn : ∀ m, (convert 32 9 (.slice a2 l.length c2)).run Tryz.prog (w2.drewN m) = .ok (.string ⟨l.toArray⟩) (w2.drewN m) := fun m => run_string_of (Arr.keep hv2 ((Keeps.refl _).drewN m)) Tryz.underlying32 Tryz.underlying5 Tryz.underlying9
      have HC1 : (convert 32 9 (.slice a2 l.length c2)).run Tryz.prog w2.drew = .ok (.string ⟨l.toArray⟩) w2.drew := run_string_of (Arr.keep hv2 ((Keeps.refl _).drew)) Tryz.underlying32 Tryz.underlying5 Tryz.underlying9
      have hgw := keeps_put HK1.out (Nat.le_of_eq HR.out.symm) hg2
      have HGW := Lib.hid hgw
      clear hgw
      have hmk := magic_take l.length (by omega)
      by_cases hs : l = sign.take l.length
      · have te : (l == (ByteArray.extract ⟨#[98, 104, 49, 10]⟩ 0 l.length).toList) = true := by rw [hmk]; simpa using hs
        have hx := HD.out.symm.trans (dec_few (by omega) (by rw [List.take_of_length_le (by omega)]; exact hs) h4)
        injection hx with hx1 hx2
        subst hx1 hx2
        clear hs hmk
        go_wp2_with fail
        go_quiet (fail)
        have hBz := HB0.out.keep (HGW.out.drewN nq)
        have d0 := (hBz).cell (j := 0) rfl
        have d1 := (hBz).cell (j := 1) rfl
        have d2 := (hBz).cell (j := 2) rfl
        have d3 := (hBz).cell (j := 3) rfl
        have d4 := (hBz).cell (j := 4) rfl
        have d5 := (hBz).cell (j := 5) rfl
        have u0 := (hBz).thawed 0
        have u1 := (hBz).thawed 1
        have u2 := (hBz).thawed 2
        have u3 := (hBz).thawed 3
        have u4 := (hBz).thawed 4
        have u5 := (hBz).thawed 5
        have hzs : w.heap.size < (w2.drewN nq).heap.size := hBz.lt
        clear hBz
        go_wp2_with fail
        obtain ⟨wf, hwf⟩ : ∃ wf : World, wf = (((((((((((((w2.drewN nq)).setCell ⟨w.heap.size, 0, none⟩ (.slice none 0 0))).setCell ⟨w.heap.size, 1, none⟩ (.slice none 0 0))).setCell ⟨w.heap.size, 2, none⟩ (.slice none 0 0))).setCell ⟨w.heap.size, 3, none⟩ (.slice none 0 0))).setCell ⟨w.heap.size, 4, none⟩ (.slice none 0 0))).setCell ⟨w.heap.size, 5, none⟩ (.int .i64 0)) := ⟨_, rfl⟩
        rw [← hwf]
        obtain ⟨hBf, hgf⟩ := put6 (HB0.out.keep (HGW.out.drewN nq)) _ _ _ _ _ _ hwf
        have HK := Lib.hid (keeps_put (HKW.out.trans (HGW.out.drewN nq)) (Nat.le_refl _) hgf)
        have HGF := Lib.hid hgf
        have e0 := (hBf).cell (j := 0) rfl
        have e1 := (hBf).cell (j := 1) rfl
        have e2 := (hBf).cell (j := 2) rfl
        have e3 := (hBf).cell (j := 3) rfl
        have e4 := (hBf).cell (j := 4) rfl
        have e5 := (hBf).cell (j := 5) rfl
        clear hwf hBf hgf
        exact bodyPost_ret (v := .tuple #[.agg #[.slice none 0 0, .slice none 0 0, .slice none 0 0, .slice none 0 0, .slice none 0 0, .int .i64 0], .int .i64 5]) (by simp [results, Tryz.results15, go_sem, e0, e1, e2, e3, e4, e5]) rfl ⟨_, rfl, zimg_at _, HK.out⟩
      · have te : (l == (ByteArray.extract ⟨#[98, 104, 49, 10]⟩ 0 l.length).toList) = false := by rw [hmk]; simpa using hs
        have hx := HD.out.symm.trans (dec_sign (by omega) (by rw [List.take_of_length_le (by omega)]; exact hs))
        injection hx with hx1 hx2
        subst hx1 hx2
        clear hs hmk
        go_wp2_with fail
        go_quiet (fail)
        have hBz := HB0.out.keep (HGW.out.drewN nq)
        have d0 := (hBz).cell (j := 0) rfl
        have d1 := (hBz).cell (j := 1) rfl
        have d2 := (hBz).cell (j := 2) rfl
        have d3 := (hBz).cell (j := 3) rfl
        have d4 := (hBz).cell (j := 4) rfl
        have d5 := (hBz).cell (j := 5) rfl
        have u0 := (hBz).thawed 0
        have u1 := (hBz).thawed 1
        have u2 := (hBz).thawed 2
        have u3 := (hBz).thawed 3
        have u4 := (hBz).thawed 4
        have u5 := (hBz).thawed 5
        have hzs : w.heap.size < (w2.drewN nq).heap.size := hBz.lt
        clear hBz
        go_wp2_with fail
        obtain ⟨wf, hwf⟩ : ∃ wf : World, wf = (((((((((((((w2.drewN nq)).setCell ⟨w.heap.size, 0, none⟩ (.slice none 0 0))).setCell ⟨w.heap.size, 1, none⟩ (.slice none 0 0))).setCell ⟨w.heap.size, 2, none⟩ (.slice none 0 0))).setCell ⟨w.heap.size, 3, none⟩ (.slice none 0 0))).setCell ⟨w.heap.size, 4, none⟩ (.slice none 0 0))).setCell ⟨w.heap.size, 5, none⟩ (.int .i64 0)) := ⟨_, rfl⟩
        rw [← hwf]
        obtain ⟨hBf, hgf⟩ := put6 (HB0.out.keep (HGW.out.drewN nq)) _ _ _ _ _ _ hwf
        have HK := Lib.hid (keeps_put (HKW.out.trans (HGW.out.drewN nq)) (Nat.le_refl _) hgf)
        have HGF := Lib.hid hgf
        have e0 := (hBf).cell (j := 0) rfl
        have e1 := (hBf).cell (j := 1) rfl
        have e2 := (hBf).cell (j := 2) rfl
        have e3 := (hBf).cell (j := 3) rfl
        have e4 := (hBf).cell (j := 4) rfl
        have e5 := (hBf).cell (j := 5) rfl
        clear hwf hBf hgf
        exact bodyPost_ret (v := .tuple #[.agg #[.slice none 0 0, .slice none 0 0, .slice none 0 0, .slice none 0 0, .slice none 0 0, .int .i64 0], .int .i64 4]) (by simp [results, Tryz.results15, go_sem, e0, e1, e2, e3, e4, e5]) rfl ⟨_, rfl, zimg_at _, HK.out⟩
    · go_wp2_with fail
      refine (take_any W r _ (some l) _ HK1.out HR1.out (by omega) (by omega)).mono ?_
      rintro e w2 ⟨v2, rfl, hv2, hn2, hg2, hr2⟩
      rw [tk_ok (by omega)] at hv2 hr2
      have hl4 : (l.take 4).length = 4 := by rw [List.length_take]; omega
      have hs0 : sign.take l.length = sign := List.take_of_length_le h4
      have hv2 : Bytes w2 v2 (l.take 4) := hv2
      have hr2 : RdAt W r (some (l.drop 4)) w2 := hr2
      obtain ⟨L4, hL4⟩ : ∃ L, L = l.take 4 := ⟨_, rfl⟩
      rw [← hL4] at hv2 hl4
      obtain ⟨a2, c2, e2, q5, q6, -, -⟩ := id hv2
      rw [hl4] at e2 q5
      subst e2
      have HCn : ∀ m, (convert 32 9 (.slice a2 4 c2)).run Tryz.prog (w2.drewN m) = .ok (.string ⟨L4.toArray⟩) (w2.drewN m) := fun m => run_string_of (Arr.keep hv2 ((Keeps.refl _).drewN m)) Tryz.underlying32 Tryz.underlying5 Tryz.underlying9
      have HC1 : (convert 32 9 (.slice a2 4 c2)).run Tryz.prog w2.drew = .ok (.string ⟨L4.toArray⟩) w2.drew := run_string_of (Arr.keep hv2 ((Keeps.refl _).drew)) Tryz.underlying32 Tryz.underlying5 Tryz.underlying9
      have HGW := Lib.hid (keeps_put HK1.out (Nat.le_of_eq HR.out.symm) hg2)
      have hmk := magic_take 4 (by omega)
      have HR2 := Lib.hid hr2
      have HL4 := Lib.hid hL4
      have HS0 := Lib.hid hs0
      clear hr2 hL4 hs0
      by_cases hs : L4 = sign
      · have hd1 : l.take 4 = sign.take l.length := by rw [← HL4.out, hs, HS0.out]
        have HD1 := Lib.hid hd1
        have te : (L4 == (ByteArray.extract ⟨#[98, 104, 49, 10]⟩ 0 4).toList) = true := by rw [hmk]; simpa [sign] using hs
        clear hs hmk hd1 hv2 hl4 hn2 hg2
        go_wp2_with fail
        go_quiet (fail)
        go_upto_region 9 with fail
        obtain ⟨w3, hw3, hr3, hk3⟩ : ∃ w3, w3 = w2.drewN nq ∧ RdAt W r (some (l.drop 4)) w3 ∧ Keeps W w3 := ⟨_, rfl, RdAt.grown HR2.out (((Keeps.refl w2).drewN nq).grown none) (fun e => by cases e), HGW.out.drewN nq⟩
        rw [← hw3]
        have HR3 := Lib.hid hr3
        have HK3 := Lib.hid hk3
        clear hw3 hr3 hk3 HR2 HGW te HC1 HCn HS0 HL4
        go_wp2_with fail
        refine (number_rd W r 2 _ _ HK3.out HR3.out (by decide) (by decide)).mono ?_
        rintro e w4 ⟨rfl, hg4, hr4⟩
        have HK4 := Lib.hid (keeps_put HK3.out (Nat.le_of_eq HR.out.symm) hg4)
        have hb4 := nm2_bd (some (l.drop 4))
        have HR4 := Lib.hid (show RdAt W r (dTextN l).2 w4 from hr4)
        have hb4 : 0 ≤ (dTextN l).1 ∧ (dTextN l).1 ≤ 65535 := hb4
        clear HR3 HK3 hg4 hr4
        go_wp2_with fail
        refine (take_any W r (dTextN l).1 _ _ HK4.out HR4.out hb4.1 (by omega)).mono ?_
        rintro e w5 ⟨v5, rfl, hv5, hn5, hg5, hr5⟩
        have HK5 := Lib.hid (keeps_put HK4.out (Nat.le_of_eq HR.out.symm) hg5)
        have HR5 := Lib.hid (show RdAt W r (dText l).2 w5 from hr5)
        have hv5 : Bytes w5 v5 (dText l).1 := hv5
        obtain ⟨a0, n0, c0, e5⟩ : ∃ a n c, v5 = .slice a n c := by obtain ⟨a, c, h, _⟩ := hv5; exact ⟨a, _, c, h⟩
        subst e5
        have HV5 := Lib.hid hv5
        have HN5 := Lib.hid hn5
        have HS5 := Lib.hid hg5.size
        have HS4 := Lib.hid HK4.out.size
        have HRL := Lib.hid HR4.out.lt
        clear HR4 HK4 hg5 hr5 hv5 hn5 hb4
        go_upto_region 10 with fail
        obtain ⟨w6, hw6⟩ : ∃ w6, w6 = w5.alloc (.cells #[(.slice a0 n0 c0), .slice none 0 0, .slice none 0 0, .slice none 0 0, .slice none 0 0, .int .i64 0] 47) := ⟨_, rfl⟩
        rw [← hw6]
        obtain ⟨g, hg⟩ : ∃ g, g = w5.heap.size := ⟨_, rfl⟩
        rw [← hg]
        have hk56 : Keeps w5 w6 := by rw [hw6]; exact (Keeps.refl w5).alloc _
        have hr56 := RdAt.grown HR5.out (hk56.grown none) (fun e => by cases e)
        have hrs := HRL.out
        have hb0 : Bld W.heap.size W g 47 (fun b => b = r) _ _ 89 3 cfu #[(.slice a0 n0 c0), .slice none 0 0, .slice none 0 0, .slice none 0 0, .slice none 0 0, .int .i64 0] (.slice none 0 0) ([] : List Fu) w6 :=
          bld_text (HK5.out.trans hk56) (by rw [hw6, hg]; exact Blk.top _ _) (Arr.keep HV5.out hk56) HN5.out HS4.out hrs (fun b hb hm ho hn e => by
            have := (Arr.foot HV5.out (by decide)).1 b ⟨hn, ho⟩
            omega) (by have := HS4.out; have := HS5.out; omega) (by have := HS5.out; omega) hr56.lt
        obtain ⟨S0, hS0⟩ : ∃ Sx : Nat → Prop, Sx = (fun b => 0 < (dText l).1.length ∧ (Value.slice a0 n0 c0).ownBlock = some b) := ⟨_, rfl⟩
        obtain ⟨F0, hF0⟩ : ∃ Fx : World → Prop, Fx = (fun w => Bytes w (.slice a0 n0 c0) (dText l).1) := ⟨_, rfl⟩
        rw [← hS0, ← hF0] at hb0
        have HB6 := Lib.hid hb0
        have HR6 := Lib.hid hr56
        have HF0 := Lib.hid hF0
        clear hw6 hg hk56 hr56 hrs hb0 hS0 hF0 HV5 HN5 HS5 HK5 HR5 HS4 HRL
        go_wp2_with fail
        refine (number_rd W r 1 _ _ HB6.out.keep HR6.out (by decide) (by decide)).mono ?_
        rintro e w7 ⟨rfl, hg7, hr7⟩
        have hb7 := nm1_bd (dText l).2
        have HR7 := Lib.hid (show RdAt W r (dFunN l).2 w7 from hr7)
        have HB7 := Lib.hid (HB6.out.else hg7 rfl (Nat.le_of_eq HR.out.symm))
        obtain ⟨N1, hN1⟩ : ∃ N : Nat, (dFunN l).1 = N := ⟨(dFunN l).1.toNat, (Int.toNat_of_nonneg hb7.1).symm⟩
        have hN1' : (nm 1 (dText l).2).1 = N1 := hN1
        have hN2 : N1 ≤ 255 := by rw [hN1'] at hb7; omega
        rw [hN1']
        have HN1 := Lib.hid hN1
        clear hg7 hr7 hb7 HB6 HR6 hN1 hN1'
        go_upto_block 0 with fail
        go_cut [] (fun wx => ∃ x, Bld W.heap.size W g 47 (fun b => b = r) S0 F0 89 3 cfu #[(.slice a0 n0 c0), x, .slice none 0 0, .slice none 0 0, .slice none 0 0, .int .i64 0] x (dFuns l).1 wx ∧ RdAt W r (dFuns l).2 wx)
        case first =>
          go_wp2_with fail
          go_loopw [7, 8] (fun s7 s8 wr => ∃ (k : Nat) (a : Int) (x : Value) (p : PS) (acc : List Fu), s7 = .int .i64 a ∧ s8 = .int .i64 k ∧ Hid (fnP k a p acc = dFuns l) ∧ k ≤ 255 ∧ 0 ≤ a ∧ a + k * 65535 ≤ 16711425 ∧ acc.length + k ≤ 255 ∧ Bld W.heap.size W g 47 (fun b => b = r) S0 F0 89 3 cfu #[(.slice a0 n0 c0), x, .slice none 0 0, .slice none 0 0, .slice none 0 0, .int .i64 0] x acc wr ∧ RdAt W r p wr) (fun _ s8 _ => (intOf s8).toNat)
          case atStart =>
            refine ⟨N1, 0, _, _, [], rfl, rfl, Lib.hid ?_, hN2, Int.le_refl _, by omega, by simpa using hN2, HB7.out, HR7.out⟩
            show fnP N1 0 (dFunN l).2 [] = fnP (dFunN l).1.toNat 0 (dFunN l).2 []
            rw [HN1.out, Int.toNat_natCast]
          case round =>
            obtain ⟨k, a, x, p, acc, rfl, rfl, HF, hk, ha0, ha1, hac, hb, hrd⟩ := hrel
            have HBR := Lib.hid hb
            have HRR := Lib.hid hrd
            obtain ⟨_, _, _, o, hbr, -, hro⟩ := hrd
            have r1 := hbr.cell (j := 1) rfl
            have hrl := hbr.lt
            clear hb hbr
            cases k with
            | zero =>
              clear hro
              go_wp2_with fail
              go_meet
              case rel =>
                have e := HF.out
                rw [fnP_zero] at e
                exact ⟨x, by rw [← e]; exact HBR.out, by rw [← e]; exact HRR.out⟩
            | succ k =>
              cases p with
              | none =>
                have hro : o = true := hro
                subst hro
                go_wp2_with fail
                go_meet
                case rel =>
                  have e := HF.out
                  rw [fnP_stop] at e
                  exact ⟨x, by rw [← e]; exact HBR.out, by rw [← e]; exact HRR.out⟩
              | some q =>
                have hro : o = false := hro.1
                subst hro
                have HS := Lib.hid (fnP_step k a q acc)
                go_upto_region 14 with fail
                have HKr : Hid (Keeps W wr) := Lib.hid HBR.out.keep
                have b1 := nm1_bd (some q)
                have hrw := HKr.out.size
                have hrr := HRR.out.lt
                have qs := nm2_bd (fn2 (some q)).2
                have qs : 0 ≤ (fn3 (some q)).1 ∧ (fn3 (some q)).1 ≤ 65535 := qs
                go_cut [9] (fun s9 wx => ∃ f : Nat, s9 = .pointer (some ⟨f, 0, none⟩) ∧ Blk wx f (.cells #[.string (str (fn2 (some q)).1), .int .i64 a, .int .i64 (fn3 (some q)).1] 89) ∧ wr.grownBy wx (some r) ∧ RdAt W r (fn3 (some q)).2 wx)
                case first =>
                  go_region_law (first
                    | ((try go_simp); go_at_call 38; (with_reducible show Calls _ _ #[_, .int .i64 2] _ _); refine (number_rd W r 2 (fn2 (some q)).2 _ (Keeps.trans (keeps_put HKr.out (Nat.le_of_eq HR.out.symm) HGb.out) (by repeat (with_reducible (first | assumption | exact Keeps.refl _ | refine Keeps.alloc ?_ _ | refine Keeps.drew ?_ | refine Keeps.drewN ?_ _)))) (RdAt.grown HRb.out (Keeps.grown (by repeat (with_reducible (first | assumption | exact Keeps.refl _ | refine Keeps.alloc ?_ _ | refine Keeps.drew ?_ | refine Keeps.drewN ?_ _))) none) (fun e => by cases e)) (by decide) (by decide)).mono ?_; rintro e wc ⟨rfl, hgc, hrc⟩; have HGc := Lib.hid (grown_trans (grown_trans HGb.out (Keeps.grown (by repeat (with_reducible (first | assumption | exact Keeps.refl _ | refine Keeps.alloc ?_ _ | refine Keeps.drew ?_ | refine Keeps.drewN ?_ _))) (some r))) hgc); have HRc := Lib.hid (show RdAt W r (fn3 (some q)).2 wc from hrc); have hlc := hrc.lt; (first | (have hbf := blk_top_grown hgc hlb) | (have hbf := blk_top_grown' hgc hlb) | (have hbf := Blk.grown hbf hgc (by intro e; injection e with e; (try simp only [sz_drew, sz_drewN] at e); omega)) | skip); (first | (have y0 := hbf.cell (j := 0) rfl; have y1 := hbf.cell (j := 1) rfl; have y2 := hbf.cell (j := 2) rfl; have z0 := hbf.thawed 0; have z1 := hbf.thawed 1; have z2 := hbf.thawed 2; have hbl := hbf.lt) | skip); have HVc := Lib.hid (show Bytes wc (.slice a2 n2 c2) (fn2 (some q)).1 from Bytes.grown (HVb.out.keep (by repeat (with_reducible (first | assumption | exact Keeps.refl _ | refine Keeps.alloc ?_ _ | refine Keeps.drew ?_ | refine Keeps.drewN ?_ _)))) hgc HNb.out); have hcvwc0 : (convert 32 9 (.slice a2 n2 c2)).run Tryz.prog wc = .ok (.string (str (fn2 (some q)).1)) wc := run_string_of HVc.out Tryz.underlying32 Tryz.underlying5 Tryz.underlying9; have hcvwc1 : ∀ o, (convert 32 9 (.slice a2 n2 c2)).run Tryz.prog (wc.alloc o) = .ok (.string (str (fn2 (some q)).1)) (wc.alloc o) := fun o => run_string_of (HVc.out.keep ((Keeps.refl _).alloc o)) Tryz.underlying32 Tryz.underlying5 Tryz.underlying9;  clear hgc hrc)
                    | ((try go_simp); go_at_call 37; refine (take_any W r (nm 1 (some q)).1 (fn1 (some q)) _ (Keeps.trans (keeps_put HKr.out (Nat.le_of_eq HR.out.symm) HGa.out) (by repeat (with_reducible (first | assumption | exact Keeps.refl _ | refine Keeps.alloc ?_ _ | refine Keeps.drew ?_ | refine Keeps.drewN ?_ _)))) (RdAt.grown HRa.out (Keeps.grown (by repeat (with_reducible (first | assumption | exact Keeps.refl _ | refine Keeps.alloc ?_ _ | refine Keeps.drew ?_ | refine Keeps.drewN ?_ _))) none) (fun e => by cases e)) b1.1 (by omega)).mono ?_; rintro e wb ⟨v2, rfl, hv2, hn2, hgb, hrb⟩; obtain ⟨a2, n2, c2, e2⟩ := bytes_form hv2; subst e2; have HGb := Lib.hid (grown_trans (grown_trans HGa.out (Keeps.grown (by repeat (with_reducible (first | assumption | exact Keeps.refl _ | refine Keeps.alloc ?_ _ | refine Keeps.drew ?_ | refine Keeps.drewN ?_ _))) (some r))) hgb); have HRb := Lib.hid (show RdAt W r (fn2 (some q)).2 wb from hrb); have hlb := hrb.lt; (first | (have hbf := blk_top_grown hgb hla) | (have hbf := blk_top_grown' hgb hla) | (have hbf := Blk.grown hbf hgb (by intro e; injection e with e; (try simp only [sz_drew, sz_drewN] at e); omega)) | skip); have HVb := Lib.hid (show Bytes wb (.slice a2 n2 c2) (fn2 (some q)).1 from hv2); have hcvwb0 : (convert 32 9 (.slice a2 n2 c2)).run Tryz.prog wb = .ok (.string (str (fn2 (some q)).1)) wb := run_string_of HVb.out Tryz.underlying32 Tryz.underlying5 Tryz.underlying9; have hcvwb1 : ∀ o, (convert 32 9 (.slice a2 n2 c2)).run Tryz.prog (wb.alloc o) = .ok (.string (str (fn2 (some q)).1)) (wb.alloc o) := fun o => run_string_of (HVb.out.keep ((Keeps.refl _).alloc o)) Tryz.underlying32 Tryz.underlying5 Tryz.underlying9;  have HNb := Lib.hid (NewAt.ne' hn2 (w := wa) (by repeat (with_reducible (first | assumption | exact Keeps.refl _ | refine Keeps.alloc ?_ _ | refine Keeps.drew ?_ | refine Keeps.drewN ?_ _))) HRa.out.lt); clear hv2 hn2 hgb hrb)
                    | ((try go_simp); go_at_call 38; (with_reducible show Calls _ _ #[_, .int .i64 1] _ _); refine (number_rd W r 1 (some q) _ (Keeps.trans HKr.out (by repeat (with_reducible (first | assumption | exact Keeps.refl _ | refine Keeps.alloc ?_ _ | refine Keeps.drew ?_ | refine Keeps.drewN ?_ _)))) (RdAt.grown HRR.out (Keeps.grown (by repeat (with_reducible (first | assumption | exact Keeps.refl _ | refine Keeps.alloc ?_ _ | refine Keeps.drew ?_ | refine Keeps.drewN ?_ _))) none) (fun e => by cases e)) (by decide) (by decide)).mono ?_; rintro e wa ⟨rfl, hga, hra'⟩; have HGa := Lib.hid (show wr.grownBy wa (some r) from grown_trans (Keeps.grown (by repeat (with_reducible (first | assumption | exact Keeps.refl _ | refine Keeps.alloc ?_ _ | refine Keeps.drew ?_ | refine Keeps.drewN ?_ _))) (some r)) hga); have HRa := Lib.hid (show RdAt W r (fn1 (some q)) wa from hra'); have hla := hra'.lt; (first | (have hbf := blk_top_grown' hga hrr) | (have hbf := blk_top_grown hga (by first | exact hrr | simpa only [sz_drew, sz_drewN] using hrr); (try simp only [sz_drew, sz_drewN] at hbf)) | skip); clear hga hra'))
                  all_goals
                    go_wp2_with fail
                    go_meet
                    case rel =>
                      have hs1 := HGa.out.size
                      have hs2 := HGb.out.size
                      first
                        | ((with_reducible refine ⟨_, rfl, Blk.top _ _, ?_, ?_⟩); exact grown_trans HGc.out (((Keeps.refl _).alloc _).grown _); exact RdAt.grown HRc.out (((Keeps.refl _).alloc _).grown none) (fun e => by cases e))
                        | exact ⟨_, rfl, ((hbf.set 0 _).set 1 _).set 2 _, grown_new HGc.out (by omega) (grown_trans (grown_trans (grown_setCell _ _ _ _) (grown_setCell _ _ _ _)) (grown_setCell _ _ _ _)), RdAt.grown HRc.out (grown_trans (grown_trans (grown_setCell _ _ _ _) (grown_setCell _ _ _ _)) (grown_setCell _ _ _ _)) (by intro e; injection e with e; omega)⟩
                case rest =>
                  obtain ⟨f, rfl, hbf, hgx, hrx⟩ := hcut
                  have HB14 := Lib.hid (HBR.out.else hgx rfl hrW)
                  have HR14 := Lib.hid hrx
                  have g1 := HB14.out.blk.cell (j := 1) rfl
                  have f1 := HB14.out.blk.thawed 1
                  have hgl := HB14.out.blk.lt
                  have hsw := HB14.out.Bw
                  have y0 := hbf.cell (j := 0) rfl
                  have y1 := hbf.cell (j := 1) rfl
                  have y2 := hbf.cell (j := 2) rfl
                  have hfl := hbf.lt
                  clear hbf hgx hrx r1
                  obtain ⟨ax7, cx7, e7⟩ := own_form' HB14.out.own
                  subst e7
                  generalize hz : (fn3 (some q)).1 = sz at *
                  generalize hst : str (fn2 (some q)).1 = st at *
                  have HZ := Lib.hid hz
                  have HST := Lib.hid hst
                  clear hz hst
                  go_wp2_with (at_builtin; refine wpList_pushes (by rfl) (.tmp 72) (.tmp 74) 44 (by rfl) Tryz.underlying44 info_fun (by rfl) (by decide) (base := W.heap.size) (f := cfu) (l := acc) (by rfl) (by exact HB14.out.own.keep (by repeat (with_reducible (first | assumption | exact Keeps.refl _ | refine Keeps.alloc ?_ _ | refine Keeps.drew ?_ | refine Keeps.drewN ?_ _ | refine Keeps.trans' ?_ (by assumption) (by assumption))))) [⟨st, a, sz⟩] _ _ (by rfl) (by exact Blk.top' _ _ (by first | rfl | simp)) cfu_len cfu_one (by skip; simp only [List.length_cons, List.length_nil]; omega) (by skip; simp only [List.length_cons, List.length_nil]; unfold maxLen; omega) (by first | omega | (simp only [sz_alloc]; omega) | (simp only [sz_drew]; omega) | (simp only [sz_alloc, sz_drew]; omega) | (simp only [sz_alloc, sz_drewN]; omega)) ?_; intro v7 wp7 hown7 hbel7 hgr7 hfr7; obtain ⟨ap7, cp7, rfl⟩ := own_form' hown7; have hB7 := Blk.grown (Blk.keep HB14.out.blk (by repeat (with_reducible (first | assumption | exact Keeps.refl _ | refine Keeps.alloc ?_ _ | refine Keeps.drew ?_ | refine Keeps.drewN ?_ _ | refine Keeps.trans' ?_ (by assumption) (by assumption))))) hgr7 (fun e => HB14.out.vg e.symm); have hc7 := hB7.cell (j := 1) rfl; have hf7 := hB7.thawed 1; have hl7 := hB7.lt; have HB7 := Lib.hid hB7; have HO7 := Lib.hid hown7; have HG7 := Lib.hid hgr7; have HF7 := Lib.hid hfr7; clear hB7 hown7 hbel7 hgr7 hfr7)
                  go_roundw
                  case rel =>
                    have e := HS.out
                    (try rw [HZ.out, HST.out] at e)
                    have hp := Bld.push HB14.out (by repeat (with_reducible (first | assumption | exact Keeps.refl _ | refine Keeps.alloc ?_ _ | refine Keeps.drew ?_ | refine Keeps.drewN ?_ _))) HO7.out HG7.out HF7.out 1
                    rw [show (acc ++ [(⟨st, a, sz⟩ : Fu)]).length = acc.length + 1 by simp] at hp
                    exact ⟨k, a + sz, .slice ap7 (acc.length + 1) cp7, (fn3 (some q)).2, acc ++ [(⟨st, a, sz⟩ : Fu)], rfl, rfl, Lib.hid (e.symm.trans HF.out), by omega, by omega, by omega, by simp only [List.length_append, List.length_cons, List.length_nil]; omega, hp, RdAt.grown (RdAt.grown (RdAt.grown HR14.out (Keeps.grown (by repeat (with_reducible (first | assumption | exact Keeps.refl _ | refine Keeps.alloc ?_ _ | refine Keeps.drew ?_ | refine Keeps.drewN ?_ _))) none) (fun e => by cases e)) HG7.out (HB14.out.Av r rfl)) (grown_setCell _ _ _ _) (fun e => HB14.out.Ag (by injection e))⟩
                  case measure => simp [intOf]
        case rest =>
          obtain ⟨x, hb, hrd⟩ := hcut
          obtain ⟨ax1, cx1, e7⟩ := own_form' hb.own
          subst e7
          have hnx := hb.next (β := Sle) (e' := 24) (k' := 1) (f' := sle)
          obtain ⟨S1, hS1⟩ : ∃ Sx : Nat → Prop, Sx = (fun b => S0 b ∨ ((.slice ax1 (dFuns l).1.length cx1) : Value).ownBlock = some b) := ⟨_, rfl⟩
          obtain ⟨F1, hF1⟩ : ∃ Fx : World → Prop, Fx = (fun w => F0 w ∧ Own w W.heap.size 89 3 cfu (.slice ax1 (dFuns l).1.length cx1) (dFuns l).1) := ⟨_, rfl⟩
          rw [← hS1, ← hF1] at hnx
          have HF1 := Lib.hid hF1
          have HBN := Lib.hid hnx
          have HRN := Lib.hid hrd
          clear hnx hS1 hF1 hb hrd
          go_wp2_with fail
          refine (number_rd W r 1 _ _ HBN.out.keep HRN.out (by decide) (by decide)).mono ?_
          rintro e w8 ⟨rfl, hg7, hr7⟩
          have hr8 : RdAt W r (dEntry l).2 w8 := hr7
          have hb8 := HBN.out.else hg7 rfl (Nat.le_of_eq HR.out.symm)
          have g5 := hb8.blk.cell (j := 5) rfl
          have f5 := hb8.blk.thawed 5
          have hgl := hb8.blk.lt
          have HB8 := Lib.hid hb8
          have HR8 := Lib.hid hr8
          clear hg7 hr7 hr8 hb8 HBN HRN
          go_upto_region 18 with fail
          rw [show (nm 1 (dFuns l).2).1 = (dEntry l).1 from rfl]
          obtain ⟨w9, hw9⟩ : ∃ w9, w9 = w8.setCell ⟨g, 5, none⟩ (.int .i64 (dEntry l).1) := ⟨_, rfl⟩
          rw [← hw9]
          have hbn : Bld W.heap.size W g 47 (fun b => b = r) S1 F1 24 1 sle #[(.slice a0 n0 c0), (.slice ax1 (dFuns l).1.length cx1), .slice none 0 0, .slice none 0 0, .slice none 0 0, .int .i64 (dEntry l).1] (.slice none 0 0) ([] : List Sle) w9 := by rw [hw9]; exact HB8.out.put 5 _
          have hrn : RdAt W r (dEntry l).2 w9 := by rw [hw9]; exact RdAt.grown HR8.out (grown_setCell _ _ _ _) (fun e => HB8.out.Ag (by injection e))
          have HBN := Lib.hid hbn
          have HRN := Lib.hid hrn
          clear hw9 hbn hrn g5 f5 hgl HB8 HR8
          go_wp2_with fail
          refine (number_rd W r 1 _ _ HBN.out.keep HRN.out (by decide) (by decide)).mono ?_
          rintro e w10 ⟨rfl, hg7, hr7⟩
          have hb7 := nm1_bd (dEntry l).2
          have HR10 := Lib.hid (show RdAt W r (dTabN l).2 w10 from hr7)
          have HB10 := Lib.hid (HBN.out.else hg7 rfl (Nat.le_of_eq HR.out.symm))
          obtain ⟨N2, hN⟩ : ∃ N : Nat, (dTabN l).1 = N := ⟨(dTabN l).1.toNat, (Int.toNat_of_nonneg hb7.1).symm⟩
          have hN' : (nm 1 (dEntry l).2).1 = N2 := hN
          have hN22 : N2 ≤ 255 := by rw [hN'] at hb7; omega
          rw [hN']
          have HN2 := Lib.hid hN
          clear hg7 hr7 hb7 HBN HRN hN hN'
          go_upto_block 2 with fail
          go_cut [] (fun wx => ∃ (x : Value) (vs : List Sle) (S' : Nat → Prop), Bld W.heap.size W g 47 (fun b => b = r) S' (fun w => F1 w ∧ RowsAt vs (dTabs l).1 w) 24 1 sle #[(.slice a0 n0 c0), (.slice ax1 (dFuns l).1.length cx1), x, .slice none 0 0, .slice none 0 0, .int .i64 (dEntry l).1] x vs wx ∧ RdAt W r (dTabs l).2 wx)
          case first =>
            go_wp2_with fail
            go_loopw [10] (fun s10 wr => ∃ (k : Nat) (x : Value) (p : PS) (vs : List Sle) (ls : List (List Int)) (S' : Nat → Prop), s10 = .int .i64 k ∧ Hid (tabP k p ls = dTabs l) ∧ k ≤ 255 ∧ ls.length + k ≤ 255 ∧ Bld W.heap.size W g 47 (fun b => b = r) S' (fun w => F1 w ∧ RowsAt vs ls w) 24 1 sle #[(.slice a0 n0 c0), (.slice ax1 (dFuns l).1.length cx1), x, .slice none 0 0, .slice none 0 0, .int .i64 (dEntry l).1] x vs wr ∧ RdAt W r p wr) (fun s10 _ => (intOf s10).toNat)
            case atStart =>
              refine ⟨N2, _, _, [], [], _, rfl, Lib.hid ?_, hN22, by simpa using hN22, HB10.out.weak fun w h => ⟨h, rowsAt_nil w⟩, HR10.out⟩
              show tabP N2 (dTabN l).2 [] = tabP (dTabN l).1.toNat (dTabN l).2 []
              rw [HN2.out, Int.toNat_natCast]
            case round =>
              obtain ⟨k, x, p, vs, ls, S', rfl, HF, hk, hac, hb, hrd⟩ := hrel
              have HBR := Lib.hid hb
              have HRR := Lib.hid hrd
              obtain ⟨_, _, _, o, hbr, -, hro⟩ := hrd
              have r1 := hbr.cell (j := 1) rfl
              have hrl := hbr.lt
              clear hb hbr
              cases k with
              | zero =>
                clear hro
                go_wp2_with fail
                go_meet
                case rel =>
                  have e := HF.out
                  exact ⟨x, vs, S', by rw [← e]; exact HBR.out, by rw [← e]; exact HRR.out⟩
              | succ k =>
                cases p with
                | none =>
                  have hro : o = true := hro
                  subst hro
                  go_wp2_with fail
                  go_meet
                  case rel =>
                    have e := HF.out
                    rw [tabP_stop] at e
                    exact ⟨x, vs, S', by rw [← e]; exact HBR.out, by rw [← e]; exact HRR.out⟩
                | some q =>
                  have hro : o = false := hro.1
                  subst hro
                  have HS := Lib.hid (tabP_step k q ls)
                  obtain ⟨wi, hwi⟩ : ∃ wi : World, wi = wr := ⟨_, rfl⟩
                  subst hwi
                  have hrl2 := HRR.out.lt
                  go_upto_region 22 with fail
                  go_wp2_with fail
                  refine (number_rd W r 1 (some q) _ HBR.out.keep HRR.out (by decide) (by decide)).mono ?_
                  rintro e wj ⟨rfl, hgj, hrj⟩
                  have hbj := nm1_bd (some q)
                  obtain ⟨M, hM⟩ : ∃ M : Nat, (nm 1 (some q)).1 = M := ⟨(nm 1 (some q)).1.toNat, (Int.toNat_of_nonneg hbj.1).symm⟩
                  have hM2 : M ≤ 255 := by rw [hM] at hbj; omega
                  rw [hM]
                  have HM := Lib.hid hM
                  have HGJ := Lib.hid hgj
                  have HRJ := Lib.hid (show RdAt W r (tb1 (some q)).2 wj from hrj)
                  have hjs := hgj.size
                  clear hM hbj hgj hrj r1
                  go_upto_block 4 with fail
                  go_cut [11] (fun s11 wx => ∃ (a c : _) (acc : List Int), s11 = .slice a acc.length c ∧ acc = (tb2 (some q)).1 ∧ acc.length ≤ 255 ∧ Own wx wj.heap.size 3 1 ci (.slice a acc.length c) acc ∧ wj.grownBy wx (some r) ∧ RdAt W r (tb2 (some q)).2 wx)
                  case first =>
                    go_wp2_with fail
                    go_loopw [11, 12] (fun s11 s12 wr => ∃ (k : Nat) (a c : _) (p : PS) (acc : List Int), s11 = .slice a acc.length c ∧ s12 = .int .i64 k ∧ Hid (nmP 2 k p acc = tb2 (some q)) ∧ k ≤ 255 ∧ acc.length + k ≤ 255 ∧ Own wr wj.heap.size 3 1 ci (.slice a acc.length c) acc ∧ wj.grownBy wr (some r) ∧ RdAt W r p wr) (fun _ s12 _ => (intOf s12).toNat)
                    case atStart =>
                      refine ⟨M, none, 0, _, [], rfl, rfl, Lib.hid ?_, hM2, by simpa using hM2, Own.nil _ _ _ _ _, (Keeps.refl _).grown _, HRJ.out⟩
                      show nmP 2 M (tb1 (some q)).2 [] = nmP 2 (nm 1 (some q)).1.toNat (tb1 (some q)).2 []
                      rw [HM.out, Int.toNat_natCast]
                    case round =>
                      obtain ⟨k2, aa, ca, p2, acc, rfl, rfl, HF2, hk2, hac2, ho, hgw, hrd⟩ := hrel
                      have HO := Lib.hid ho
                      have HGW := Lib.hid hgw
                      have HRR2 := Lib.hid hrd
                      obtain ⟨_, _, _, o2, hbr, -, hro⟩ := hrd
                      have r1 := hbr.cell (j := 1) rfl
                      have hrl3 := hbr.lt
                      clear ho hgw hbr
                      cases k2 with
                      | zero =>
                        clear hro
                        go_wp2_with fail
                        go_meet
                        case rel =>
                          have e := HF2.out
                          exact ⟨aa, ca, acc, rfl, by rw [← e]; rfl, by omega, HO.out, HGW.out, by rw [← e]; exact HRR2.out⟩
                      | succ k2 =>
                        cases p2 with
                        | none =>
                          have hro : o2 = true := hro
                          subst hro
                          go_wp2_with fail
                          go_meet
                          case rel =>
                            have e := HF2.out
                            rw [nmP_stop] at e
                            exact ⟨aa, ca, acc, rfl, by rw [← e], by omega, HO.out, HGW.out, by rw [← e]; exact HRR2.out⟩
                        | some q2 =>
                          have hro : o2 = false := hro.1
                          subst hro
                          have HS2 := Lib.hid (nmP_step 2 k2 q2 acc)
                          go_wp2_with fail
                          refine (number_rd W r 2 (some q2) _ (keeps_put (keeps_put HBR.out.keep hrW HGJ.out) hrW HGW.out) HRR2.out (by decide) (by decide)).mono ?_
                          rintro e wn ⟨rfl, hgn, hrn⟩
                          have ho2 : Own wn wj.heap.size 3 1 ci (.slice aa acc.length ca) acc := HO.out.other hgn (fun b hb e => by
                            cases e
                            have h1 := HO.out.row _ hb
                            have h2 := HRJ.out.lt
                            omega)
                          have hgn2 := grown_trans HGW.out hgn
                          have hjn := hgn2.size
                          have HGN := Lib.hid hgn2
                          have HO2 := Lib.hid ho2
                          have HRN := Lib.hid hrn
                          clear hgn hrn ho2 hgn2 r1
                          generalize hxx : (nm 2 (some q2)).1 = xx at *
                          have HXX := Lib.hid hxx
                          clear hxx
                          go_wp2_with (at_builtin; refine wpList_pushes (by rfl) (.tmp 106) (.tmp 109) 24 (by rfl) Tryz.underlying24 info_int (by rfl) (by decide) (base := wj.heap.size) (f := ci) (l := acc) (by rfl) (by exact HO2.out.keep (by repeat (with_reducible (first | assumption | exact Keeps.refl _ | refine Keeps.alloc ?_ _ | refine Keeps.drew ?_ | refine Keeps.drewN ?_ _ | refine Keeps.trans' ?_ (by assumption) (by assumption))))) [xx] _ _ (by rfl) (by exact Blk.top' _ _ (by first | rfl | simp)) ci_len ci_one (by skip; simp only [List.length_cons, List.length_nil]; omega) (by skip; simp only [List.length_cons, List.length_nil]; unfold maxLen; omega) (by first | omega | (simp only [sz_alloc]; omega) | (simp only [sz_drew]; omega) | (simp only [sz_alloc, sz_drew]; omega) | (simp only [sz_alloc, sz_drewN]; omega)) ?_; intro v7 wp7 hown7 hbel7 hgr7 hfr7; obtain ⟨ap7, cp7, rfl⟩ := own_form' hown7; have HO7 := Lib.hid hown7; have HG7 := Lib.hid hgr7; have HF7 := Lib.hid hfr7; clear hown7 hbel7 hgr7 hfr7)
                          go_roundw
                          case rel =>
                            have e := HS2.out
                            (try rw [HXX.out] at e)
                            exact ⟨k2, ap7, cp7, (nm 2 (some q2)).2, acc ++ [xx], by simp, rfl, Lib.hid (e.symm.trans HF2.out), by omega, by simp only [List.length_append, List.length_cons, List.length_nil]; omega, HO7.out, grown_own (grown_trans HGN.out (Keeps.grown (by repeat (with_reducible (first | assumption | exact Keeps.refl _ | refine Keeps.alloc ?_ _ | refine Keeps.drew ?_ | refine Keeps.drewN ?_ _))) _)) HG7.out HO2.out.row, RdAt.grown (RdAt.grown HRN.out (Keeps.grown (by repeat (with_reducible (first | assumption | exact Keeps.refl _ | refine Keeps.alloc ?_ _ | refine Keeps.drew ?_ | refine Keeps.drewN ?_ _))) none) (fun e => by cases e)) HG7.out (fun e => by
                              have h1 := HO2.out.row _ e
                              have h2 := HRJ.out.lt
                              omega)⟩
                          case measure => simp [intOf]
                  case rest =>
                    obtain ⟨aa, ca, acc, rfl, hacc, hal, ho, hgw, hrd⟩ := hcut
                    have HB14 := Lib.hid (HBR.out.else (grown_trans HGJ.out hgw) rfl hrW)
                    have HR14 := Lib.hid hrd
                    have HO := Lib.hid ho
                    have HAC := Lib.hid hacc
                    obtain ⟨ax7, cx7, e7⟩ := own_form' HB14.out.own
                    subst e7
                    have g2 := HB14.out.blk.cell (j := 2) rfl
                    have f2 := HB14.out.blk.thawed 2
                    have hgl := HB14.out.blk.lt
                    have hsw := HB14.out.Bw
                    have hvl : vs.length ≤ 254 := by have := HBR.out.foot.here.2.1; omega
                    clear hgw hrd ho hacc
                    go_wp2_with (at_builtin; refine wpList_pushes (by rfl) (.tmp 112) (.tmp 114) 23 (by rfl) Tryz.underlying23 info_ints (by rfl) (by decide) (base := W.heap.size) (f := sle) (l := vs) (by rfl) (by exact HB14.out.own.keep (by repeat (with_reducible (first | assumption | exact Keeps.refl _ | refine Keeps.alloc ?_ _ | refine Keeps.drew ?_ | refine Keeps.drewN ?_ _ | refine Keeps.trans' ?_ (by assumption) (by assumption))))) [⟨aa, acc.length, ca⟩] _ _ (by rfl) (by exact Blk.top' _ _ (by first | rfl | simp)) sle_len sle_one (by skip; simp only [List.length_cons, List.length_nil]; omega) (by skip; simp only [List.length_cons, List.length_nil]; unfold maxLen; omega) (by first | omega | (simp only [sz_alloc]; omega) | (simp only [sz_drew]; omega) | (simp only [sz_alloc, sz_drew]; omega) | (simp only [sz_alloc, sz_drewN]; omega)) ?_; intro v7 wp7 hown7 hbel7 hgr7 hfr7; obtain ⟨ap7, cp7, rfl⟩ := own_form' hown7; have hB7 := Blk.grown (Blk.keep HB14.out.blk (by repeat (with_reducible (first | assumption | exact Keeps.refl _ | refine Keeps.alloc ?_ _ | refine Keeps.drew ?_ | refine Keeps.drewN ?_ _ | refine Keeps.trans' ?_ (by assumption) (by assumption))))) hgr7 (fun e => HB14.out.vg e.symm); have hc7 := hB7.cell (j := 2) rfl; have hf7 := hB7.thawed 2; have hl7 := hB7.lt; have HB7 := Lib.hid hB7; have HO7 := Lib.hid hown7; have HG7 := Lib.hid hgr7; have HF7 := Lib.hid hfr7; clear hB7 hown7 hbel7 hgr7 hfr7)
                    go_roundw
                    case rel =>
                      have hWj : W.heap.size ≤ wj.heap.size := by have := (HBR.out.keep).size; omega
                      have hj := HB14.out.join (HO.out.foot.imp fun _ h => Own.ints h) (fun b hb => Nat.le_trans hWj (HO.out.row b hb)) (fun e => by have := HO.out.row _ e; have := HBR.out.blk.lt; omega) (fun b hb e => by have := HO.out.row _ hb; have := own_lt' HBR.out.own e; omega) (fun b hb e => by subst hb; have := HO.out.row _ e; omega)
                      have hp := (hj.push (by repeat (with_reducible (first | assumption | exact Keeps.refl _ | refine Keeps.alloc ?_ _ | refine Keeps.drew ?_ | refine Keeps.drewN ?_ _))) HO7.out HG7.out HF7.out 2).weak (G := fun w => F1 w ∧ RowsAt (vs ++ [⟨aa, acc.length, ca⟩]) (ls ++ [acc]) w) (fun w h => ⟨h.1.1, rowsAt_snoc (s := ⟨aa, acc.length, ca⟩) h.1.2 h.2⟩)
                      rw [show (vs ++ [(⟨aa, acc.length, ca⟩ : Sle)]).length = vs.length + 1 by simp] at hp
                      have e := HS.out
                      rw [← HAC.out] at e
                      exact ⟨k, .slice ap7 (vs.length + 1) cp7, (tb2 (some q)).2, vs ++ [(⟨aa, acc.length, ca⟩ : Sle)], ls ++ [acc], _, rfl, Lib.hid (e.symm.trans HF.out), by omega, by simp only [List.length_append, List.length_cons, List.length_nil]; omega, hp, RdAt.grown (RdAt.grown (RdAt.grown HR14.out (Keeps.grown (by repeat (with_reducible (first | assumption | exact Keeps.refl _ | refine Keeps.alloc ?_ _ | refine Keeps.drew ?_ | refine Keeps.drewN ?_ _))) none) (fun e => by cases e)) HG7.out (HB14.out.Av r rfl)) (grown_setCell _ _ _ _) (fun e => HB14.out.Ag (by injection e))⟩
                    case measure => simp [intOf]
          case rest =>
            obtain ⟨x, vs, S2', hb, hrd⟩ := hcut
            obtain ⟨ax2, cx2, e7⟩ := own_form' hb.own
            subst e7
            have hnx := hb.next (β := Int) (e' := 3) (k' := 1) (f' := ci)
            obtain ⟨S2, hS2⟩ : ∃ Sx : Nat → Prop, Sx = (fun b => S2' b ∨ ((.slice ax2 vs.length cx2) : Value).ownBlock = some b) := ⟨_, rfl⟩
            obtain ⟨F2, hF2⟩ : ∃ Fx : World → Prop, Fx = (fun w => (F1 w ∧ RowsAt vs (dTabs l).1 w) ∧ Own w W.heap.size 24 1 sle (.slice ax2 vs.length cx2) vs) := ⟨_, rfl⟩
            rw [← hS2, ← hF2] at hnx
            have HF2 := Lib.hid hF2
            have HBN := Lib.hid hnx
            have HRN := Lib.hid hrd
            clear hnx hS2 hF2 hb hrd
            go_wp2_with fail
            refine (number_rd W r 1 _ _ HBN.out.keep HRN.out (by decide) (by decide)).mono ?_
            rintro e w20 ⟨rfl, hg7, hr7⟩
            have hb7 := nm1_bd (dTabs l).2
            have HR20 := Lib.hid (show RdAt W r (dDataN l).2 w20 from hr7)
            have HB20 := Lib.hid (HBN.out.else hg7 rfl (Nat.le_of_eq HR.out.symm))
            obtain ⟨N3, hN⟩ : ∃ N : Nat, (dDataN l).1 = N := ⟨(dDataN l).1.toNat, (Int.toNat_of_nonneg hb7.1).symm⟩
            have hN' : (nm 1 (dTabs l).2).1 = N3 := hN
            have hN23 : N3 ≤ 255 := by rw [hN'] at hb7; omega
            rw [hN']
            have HN3 := Lib.hid hN
            clear hg7 hr7 hb7 HBN HRN hN hN'
            go_upto_block 6 with fail
            go_cut [] (fun wx => ∃ x, Bld W.heap.size W g 47 (fun b => b = r) S2 F2 3 1 ci #[(.slice a0 n0 c0), (.slice ax1 (dFuns l).1.length cx1), (.slice ax2 vs.length cx2), x, .slice none 0 0, .int .i64 (dEntry l).1] x (dData l).1 wx ∧ RdAt W r (dData l).2 wx)
            case first =>
              go_wp2_with fail
              go_loopw [13] (fun s13 wr => ∃ (k : Nat) (x : Value) (p : PS) (acc : List Int), s13 = .int .i64 k ∧ Hid (nmP 8 k p acc = dData l) ∧ k ≤ 255 ∧ acc.length + k ≤ 255 ∧ Bld W.heap.size W g 47 (fun b => b = r) S2 F2 3 1 ci #[(.slice a0 n0 c0), (.slice ax1 (dFuns l).1.length cx1), (.slice ax2 vs.length cx2), x, .slice none 0 0, .int .i64 (dEntry l).1] x acc wr ∧ RdAt W r p wr) (fun s13 _ => (intOf s13).toNat)
              case atStart =>
                refine ⟨N3, _, _, [], rfl, Lib.hid ?_, hN23, by simpa using hN23, HB20.out, HR20.out⟩
                show nmP 8 N3 (dDataN l).2 [] = nmP 8 (dDataN l).1.toNat (dDataN l).2 []
                rw [HN3.out, Int.toNat_natCast]
              case round =>
                obtain ⟨k, x, p, acc, rfl, HF, hk, hac, hb, hrd⟩ := hrel
                have HBR := Lib.hid hb
                have HRR := Lib.hid hrd
                obtain ⟨_, _, _, o, hbr, -, hro⟩ := hrd
                have r1 := hbr.cell (j := 1) rfl
                have hrl := hbr.lt
                clear hb hbr
                cases k with
                | zero =>
                  clear hro
                  go_wp2_with fail
                  go_meet
                  case rel =>
                    have e := HF.out
                    exact ⟨x, by rw [← e]; exact HBR.out, by rw [← e]; exact HRR.out⟩
                | succ k =>
                  cases p with
                  | none =>
                    have hro : o = true := hro
                    subst hro
                    go_wp2_with fail
                    go_meet
                    case rel =>
                      have e := HF.out
                      rw [nmP_stop] at e
                      exact ⟨x, by rw [← e]; exact HBR.out, by rw [← e]; exact HRR.out⟩
                  | some q =>
                    have hro : o = false := hro.1
                    subst hro
                    have HS := Lib.hid (nmP_step 8 k q acc)
                    have HKr : Hid (Keeps W wr) := Lib.hid HBR.out.keep
                    obtain ⟨ax7, cx7, e7⟩ := own_form' HBR.out.own
                    subst e7
                    have g3 := HBR.out.blk.cell (j := 3) rfl
                    have hgl := HBR.out.blk.lt
                    generalize hxx : (nm 8 (some q)).1 = xx at *
                    have HXX := Lib.hid hxx
                    clear hxx
                    go_wp2_with fail
                    go_region_law (first
                        | (refine step_pushes (by rfl) (.tmp 131) (.tmp 134) 24 (by rfl) Tryz.underlying24 info_int (by rfl) (by decide) (base := W.heap.size) (f := ci) (l := acc) (by rfl) (by exact HBa.out.own.keep (by repeat (with_reducible (first | assumption | exact Keeps.refl _ | refine Keeps.alloc ?_ _ | refine Keeps.drew ?_ | refine Keeps.drewN ?_ _ | refine Keeps.trans' ?_ (by assumption) (by assumption))))) [xx] _ _ (by rfl) (by exact Blk.top' _ _ (by first | rfl | simp)) ci_len ci_one (by skip; simp only [List.length_cons, List.length_nil]; omega) (by skip; simp only [List.length_cons, List.length_nil]; unfold maxLen; omega) (by first | omega | (simp only [sz_alloc]; omega) | (simp only [sz_drew]; omega) | (simp only [sz_alloc, sz_drew]; omega) | (simp only [sz_alloc, sz_drewN]; omega)) ?_; intro v7 wp7 hown7 hbel7 hgr7 hfr7; obtain ⟨ap7, cp7, rfl⟩ := own_form' hown7; have hB7 := Blk.grown (Blk.keep HBa.out.blk (by repeat (with_reducible (first | assumption | exact Keeps.refl _ | refine Keeps.alloc ?_ _ | refine Keeps.drew ?_ | refine Keeps.drewN ?_ _ | refine Keeps.trans' ?_ (by assumption) (by assumption))))) hgr7 (fun e => HBa.out.vg e.symm); have hc7 := hB7.cell (j := 3) rfl; have hf7 := hB7.thawed 3; have hl7 := hB7.lt; have HB7 := Lib.hid hB7; have HO7 := Lib.hid hown7; have HG7 := Lib.hid hgr7; have HF7 := Lib.hid hfr7; clear hB7 hown7 hbel7 hgr7 hfr7)
                        | ((try go_simp); go_at_call 38; refine (number_rd W r 8 (some q) _ (Keeps.trans HKr.out (by repeat (with_reducible (first | assumption | exact Keeps.refl _ | refine Keeps.alloc ?_ _ | refine Keeps.drew ?_ | refine Keeps.drewN ?_ _)))) (RdAt.grown HRR.out (Keeps.grown (by repeat (with_reducible (first | assumption | exact Keeps.refl _ | refine Keeps.alloc ?_ _ | refine Keeps.drew ?_ | refine Keeps.drewN ?_ _))) none) (fun e => by cases e)) (by decide) (by decide)).mono ?_; rintro e wa ⟨rfl, hga, hra'⟩; (try rw [HXX.out]); have HGa := Lib.hid (show wr.grownBy wa (some r) from grown_trans (Keeps.grown (by repeat (with_reducible (first | assumption | exact Keeps.refl _ | refine Keeps.alloc ?_ _ | refine Keeps.drew ?_ | refine Keeps.drewN ?_ _))) (some r)) hga); have HRa := Lib.hid hra'; have HBa := Lib.hid (HBR.out.else HGa.out rfl hrW); have h3 := HBa.out.blk.cell (j := 3) rfl; have h4 := HBa.out.blk.thawed 3; have h5 := HBa.out.blk.lt; have h6 := HBa.out.Bw; clear hga hra'))
                    all_goals
                      go_wp2_with fail
                      go_roundw
                      case rel =>
                        have e := HS.out
                        (try rw [HXX.out] at e)
                        have hp := Bld.push HBa.out (by repeat (with_reducible (first | assumption | exact Keeps.refl _ | refine Keeps.alloc ?_ _ | refine Keeps.drew ?_ | refine Keeps.drewN ?_ _))) HO7.out HG7.out HF7.out 3
                        rw [show (acc ++ [xx]).length = acc.length + 1 by simp] at hp
                        exact ⟨k, .slice ap7 (acc.length + 1) cp7, (nm 8 (some q)).2, acc ++ [xx], rfl, Lib.hid (e.symm.trans HF.out), by omega, by simp only [List.length_append, List.length_cons, List.length_nil]; omega, hp, RdAt.grown (RdAt.grown (RdAt.grown HRa.out (Keeps.grown (by repeat (with_reducible (first | assumption | exact Keeps.refl _ | refine Keeps.alloc ?_ _ | refine Keeps.drew ?_ | refine Keeps.drewN ?_ _))) none) (fun e => by cases e)) HG7.out (HBa.out.Av r rfl)) (grown_setCell _ _ _ _) (fun e => HBa.out.Ag (by injection e))⟩
                      case measure => simp [intOf]
            case rest =>
              obtain ⟨x, hb, hrd⟩ := hcut
              obtain ⟨ax3, cx3, e7⟩ := own_form' hb.own
              subst e7
              have hnx := hb.next (β := Ln) (e' := 91) (k' := 2) (f' := cln)
              obtain ⟨S3, hS3⟩ : ∃ Sx : Nat → Prop, Sx = (fun b => S2 b ∨ ((.slice ax3 (dData l).1.length cx3) : Value).ownBlock = some b) := ⟨_, rfl⟩
              obtain ⟨F3, hF3⟩ : ∃ Fx : World → Prop, Fx = (fun w => F2 w ∧ Own w W.heap.size 3 1 ci (.slice ax3 (dData l).1.length cx3) (dData l).1) := ⟨_, rfl⟩
              rw [← hS3, ← hF3] at hnx
              have HF3 := Lib.hid hF3
              have HBN := Lib.hid hnx
              have HRN := Lib.hid hrd
              clear hnx hS3 hF3 hb hrd
              go_wp2_with fail
              refine (number_rd W r 2 _ _ HBN.out.keep HRN.out (by decide) (by decide)).mono ?_
              rintro e w30 ⟨rfl, hg7, hr7⟩
              have hb7 := nm2_bd (dData l).2
              have HR30 := Lib.hid (show RdAt W r (dLineN l).2 w30 from hr7)
              have HB30 := Lib.hid (HBN.out.else hg7 rfl (Nat.le_of_eq HR.out.symm))
              obtain ⟨N4, hN⟩ : ∃ N : Nat, (dLineN l).1 = N := ⟨(dLineN l).1.toNat, (Int.toNat_of_nonneg hb7.1).symm⟩
              have hN' : (nm 2 (dData l).2).1 = N4 := hN
              have hN24 : N4 ≤ 65535 := by rw [hN'] at hb7; omega
              rw [hN']
              have HN4 := Lib.hid hN
              clear hg7 hr7 hb7 HBN HRN hN hN'
              go_upto_block 8 with fail
              go_cut [] (fun wx => ∃ x, Bld W.heap.size W g 47 (fun b => b = r) S3 F3 91 2 cln #[(.slice a0 n0 c0), (.slice ax1 (dFuns l).1.length cx1), (.slice ax2 vs.length cx2), (.slice ax3 (dData l).1.length cx3), x, .int .i64 (dEntry l).1] x (dLines l).1 wx ∧ RdAt W r (dLines l).2 wx)
              case first =>
                go_wp2_with fail
                go_loopw [14] (fun s14 wr => ∃ (k : Nat) (x : Value) (p : PS) (acc : List Ln), s14 = .int .i64 k ∧ Hid (lnP k p acc = dLines l) ∧ k ≤ 65535 ∧ acc.length + k ≤ 65535 ∧ Bld W.heap.size W g 47 (fun b => b = r) S3 F3 91 2 cln #[(.slice a0 n0 c0), (.slice ax1 (dFuns l).1.length cx1), (.slice ax2 vs.length cx2), (.slice ax3 (dData l).1.length cx3), x, .int .i64 (dEntry l).1] x acc wr ∧ RdAt W r p wr) (fun s14 _ => (intOf s14).toNat)
                case atStart =>
                  refine ⟨N4, _, _, [], rfl, Lib.hid ?_, hN24, by simpa using hN24, HB30.out, HR30.out⟩
                  show lnP N4 (dLineN l).2 [] = lnP (dLineN l).1.toNat (dLineN l).2 []
                  rw [HN4.out, Int.toNat_natCast]
                case round =>
                  obtain ⟨k, x, p, acc, rfl, HF, hk, hac, hb, hrd⟩ := hrel
                  have HBR := Lib.hid hb
                  have HRR := Lib.hid hrd
                  obtain ⟨_, _, _, o, hbr, -, hro⟩ := hrd
                  have r1 := hbr.cell (j := 1) rfl
                  have hrl := hbr.lt
                  clear hb hbr
                  cases k with
                  | zero =>
                    clear hro
                    go_wp2_with fail
                    go_meet
                    case rel =>
                      have e := HF.out
                      exact ⟨x, by rw [← e]; exact HBR.out, by rw [← e]; exact HRR.out⟩
                  | succ k =>
                    cases p with
                    | none =>
                      have hro : o = true := hro
                      subst hro
                      go_wp2_with fail
                      go_meet
                      case rel =>
                        have e := HF.out
                        rw [lnP_stop] at e
                        exact ⟨x, by rw [← e]; exact HBR.out, by rw [← e]; exact HRR.out⟩
                    | some q =>
                      have hro : o = false := hro.1
                      subst hro
                      have HS := Lib.hid (lnP_step k q acc)
                      have HKr : Hid (Keeps W wr) := Lib.hid HBR.out.keep
                      obtain ⟨ax7, cx7, e7⟩ := own_form' HBR.out.own
                      subst e7
                      have hrr := HRR.out.lt
                      go_wp2_with fail
                      refine (number_rd W r 2 (some q) _ HKr.out HRR.out (by decide) (by decide)).mono ?_
                      rintro e wa ⟨rfl, hga, hra'⟩
                      have hsa := hga.size
                      have HGa := Lib.hid hga
                      have HRa := Lib.hid hra'
                      generalize hx1 : (nm 2 (some q)).1 = x1 at *
                      clear hga hra' r1
                      go_upto_region 35 with fail
                      obtain ⟨wb, hwb, hbf, hkb⟩ : ∃ wb, wb = wa.alloc (.cells #[.int .i64 x1, .int .i64 0] 91) ∧ Blk wb wa.heap.size (.cells #[.int .i64 x1, .int .i64 0] 91) ∧ Keeps wa wb := ⟨_, rfl, Blk.top _ _, (Keeps.refl _).alloc _⟩
                      rw [← hwb]
                      obtain ⟨f, hf⟩ : ∃ f, f = wa.heap.size := ⟨_, rfl⟩
                      rw [← hf] at hbf ⊢
                      have hf1 : wr.heap.size ≤ f := by omega
                      have HGB := Lib.hid (grown_trans HGa.out (hkb.grown (some r)))
                      have HRB := Lib.hid (RdAt.grown HRa.out (hkb.grown none) (fun e => by cases e))
                      clear hwb hf hkb
                      go_wp2_with fail
                      refine (number_rd W r 2 (nm 2 (some q)).2 _ (keeps_put HKr.out hrW HGB.out) HRB.out (by decide) (by decide)).mono ?_
                      rintro e wd ⟨rfl, hgd, hrd⟩
                      have hbf2 := hbf.grown hgd (fun e => by injection e with e; omega)
                      have HGD := Lib.hid (grown_trans HGB.out hgd)
                      have HRD := Lib.hid (show RdAt W r (ln2 (some q)).2 wd from hrd)
                      have y1 := hbf2.cell (j := 1) rfl
                      have z1 := hbf2.thawed 1
                      have hfl := hbf2.lt
                      have HBF := Lib.hid hbf2
                      rw [show (nm 2 (nm 2 (some q)).2).1 = (ln2 (some q)).1 from rfl]
                      generalize hx2 : (ln2 (some q)).1 = x2 at *
                      clear hbf hgd hrd hbf2
                      go_upto_region 36 with fail
                      obtain ⟨we, hwe, hbe, hge⟩ : ∃ we, we = wd.setCell ⟨f, 1, none⟩ (.int .i64 x2) ∧ Blk we f (.cells #[.int .i64 x1, .int .i64 x2] 91) ∧ wd.grownBy we (some f) := ⟨_, rfl, HBF.out.set 1 _, grown_setCell _ _ _ _⟩
                      rw [← hwe]
                      have HB14 := Lib.hid (HBR.out.else (grown_new HGD.out hf1 hge) rfl hrW)
                      have HR14 := Lib.hid (RdAt.grown HRD.out hge (fun e => by injection e with e; omega))
                      have y0 := hbe.cell (j := 0) rfl
                      have y1 := hbe.cell (j := 1) rfl
                      have hfl := hbe.lt
                      have g4 := HB14.out.blk.cell (j := 4) rfl
                      have f4 := HB14.out.blk.thawed 4
                      have hgl := HB14.out.blk.lt
                      have hsw := HB14.out.Bw
                      have HX1 := Lib.hid hx1
                      have HX2 := Lib.hid hx2
                      clear hwe hbe hge z1 hx1 hx2
                      go_wp2_with (at_builtin; refine wpList_pushes (by rfl) (.tmp 157) (.tmp 159) 45 (by rfl) Tryz.underlying45 info_line (by rfl) (by decide) (base := W.heap.size) (f := cln) (l := acc) (by rfl) (by exact HB14.out.own.keep (by repeat (with_reducible (first | assumption | exact Keeps.refl _ | refine Keeps.alloc ?_ _ | refine Keeps.drew ?_ | refine Keeps.drewN ?_ _ | refine Keeps.trans' ?_ (by assumption) (by assumption))))) [⟨x1, x2⟩] _ _ (by rfl) (by exact Blk.top' _ _ (by first | rfl | simp)) cln_len cln_one (by skip; simp only [List.length_cons, List.length_nil]; omega) (by skip; simp only [List.length_cons, List.length_nil]; unfold maxLen; omega) (by first | omega | (simp only [sz_alloc]; omega) | (simp only [sz_drew]; omega) | (simp only [sz_alloc, sz_drew]; omega) | (simp only [sz_alloc, sz_drewN]; omega)) ?_; intro v7 wp7 hown7 hbel7 hgr7 hfr7; obtain ⟨ap7, cp7, rfl⟩ := own_form' hown7; have hB7 := Blk.grown (Blk.keep HB14.out.blk (by repeat (with_reducible (first | assumption | exact Keeps.refl _ | refine Keeps.alloc ?_ _ | refine Keeps.drew ?_ | refine Keeps.drewN ?_ _ | refine Keeps.trans' ?_ (by assumption) (by assumption))))) hgr7 (fun e => HB14.out.vg e.symm); have hc7 := hB7.cell (j := 4) rfl; have hf7 := hB7.thawed 4; have hl7 := hB7.lt; have HB7 := Lib.hid hB7; have HO7 := Lib.hid hown7; have HG7 := Lib.hid hgr7; have HF7 := Lib.hid hfr7; clear hB7 hown7 hbel7 hgr7 hfr7)
                      go_roundw
                      case rel =>
                        have e := HS.out
                        (try rw [HX1.out, HX2.out] at e)
                        have hp := Bld.push HB14.out (by repeat (with_reducible (first | assumption | exact Keeps.refl _ | refine Keeps.alloc ?_ _ | refine Keeps.drew ?_ | refine Keeps.drewN ?_ _))) HO7.out HG7.out HF7.out 4
                        rw [show (acc ++ [(⟨x1, x2⟩ : Ln)]).length = acc.length + 1 by simp] at hp
                        exact ⟨k, .slice ap7 (acc.length + 1) cp7, (ln2 (some q)).2, acc ++ [(⟨x1, x2⟩ : Ln)], rfl, Lib.hid (e.symm.trans HF.out), by omega, by simp only [List.length_append, List.length_cons, List.length_nil]; omega, hp, RdAt.grown (RdAt.grown (RdAt.grown HR14.out (Keeps.grown (by repeat (with_reducible (first | assumption | exact Keeps.refl _ | refine Keeps.alloc ?_ _ | refine Keeps.drew ?_ | refine Keeps.drewN ?_ _))) none) (fun e => by cases e)) HG7.out (HB14.out.Av r rfl)) (grown_setCell _ _ _ _) (fun e => HB14.out.Ag (by injection e))⟩
                      case measure => simp [intOf]
              case rest =>
                obtain ⟨x, hb, hrd⟩ := hcut
                obtain ⟨ax4, cx4, e7⟩ := own_form' hb.own
                subst e7
                have hkr : Keeps W wc := hb.keep
                have HKR := Lib.hid hkr
                have HBR := Lib.hid hb
                have hBz := HB0.out.keep hkr
                have d0 := (hBz).cell (j := 0) rfl
                have d1 := (hBz).cell (j := 1) rfl
                have d2 := (hBz).cell (j := 2) rfl
                have d3 := (hBz).cell (j := 3) rfl
                have d4 := (hBz).cell (j := 4) rfl
                have d5 := (hBz).cell (j := 5) rfl
                have u0 := (hBz).thawed 0
                have u1 := (hBz).thawed 1
                have u2 := (hBz).thawed 2
                have u3 := (hBz).thawed 3
                have u4 := (hBz).thawed 4
                have u5 := (hBz).thawed 5
                have hzs : w.heap.size < wc.heap.size := hBz.lt
                have HBZ := Lib.hid hBz
                obtain ⟨_, n9, _, o, hbr, -, hro⟩ := hrd
                have r0 := hbr.cell (j := 0) rfl
                have r1 := hbr.cell (j := 1) rfl
                have hrl := hbr.lt
                clear hb hbr hBz hkr
                cases hP : (dLines l).2 with
                | none =>
                  rw [hP] at hro
                  have hro : o = true := hro
                  subst hro
                  have hx := HD.out.symm.trans (dec_short (by omega) HD1.out (by omega) hP)
                  injection hx with hx1 hx2
                  subst hx1 hx2
                  clear hP
                  go_wp2_with fail
                  obtain ⟨wf, hwf⟩ : ∃ wf : World, wf = ((((((((((((wc).setCell ⟨w.heap.size, 0, none⟩ (.slice none 0 0))).setCell ⟨w.heap.size, 1, none⟩ (.slice none 0 0))).setCell ⟨w.heap.size, 2, none⟩ (.slice none 0 0))).setCell ⟨w.heap.size, 3, none⟩ (.slice none 0 0))).setCell ⟨w.heap.size, 4, none⟩ (.slice none 0 0))).setCell ⟨w.heap.size, 5, none⟩ (.int .i64 0)) := ⟨_, rfl⟩
                  rw [← hwf]
                  obtain ⟨hBf, hgf⟩ := put6 (HBZ.out) _ _ _ _ _ _ hwf
                  have HK := Lib.hid (keeps_put (HKW.out.trans HKR.out) (Nat.le_refl _) hgf)
                  have HGF := Lib.hid hgf
                  have e0 := (hBf).cell (j := 0) rfl
                  have e1 := (hBf).cell (j := 1) rfl
                  have e2 := (hBf).cell (j := 2) rfl
                  have e3 := (hBf).cell (j := 3) rfl
                  have e4 := (hBf).cell (j := 4) rfl
                  have e5 := (hBf).cell (j := 5) rfl
                  clear hwf hBf hgf
                  exact bodyPost_ret (v := .tuple #[.agg #[.slice none 0 0, .slice none 0 0, .slice none 0 0, .slice none 0 0, .slice none 0 0, .int .i64 0], .int .i64 5]) (by simp [results, Tryz.results15, go_sem, e0, e1, e2, e3, e4, e5]) rfl ⟨_, rfl, zimg_at _, HK.out⟩
                | some q =>
                  rw [hP] at hro
                  obtain ⟨ho, hqb⟩ := hro
                  subst ho
                  have hn9 : n9 = q.length := by obtain ⟨a, c, e, _⟩ := hqb; cases e; rfl
                  subst hn9
                  have HPP := Lib.hid hP
                  clear hP hqb
                  by_cases hq : 0 < q.length
                  · have hx := HD.out.symm.trans (dec_more (by omega) HD1.out (by omega) HPP.out hq)
                    injection hx with hx1 hx2
                    subst hx1 hx2
                    go_wp2_with fail
                    obtain ⟨wf, hwf⟩ : ∃ wf : World, wf = ((((((((((((wc).setCell ⟨w.heap.size, 0, none⟩ (.slice none 0 0))).setCell ⟨w.heap.size, 1, none⟩ (.slice none 0 0))).setCell ⟨w.heap.size, 2, none⟩ (.slice none 0 0))).setCell ⟨w.heap.size, 3, none⟩ (.slice none 0 0))).setCell ⟨w.heap.size, 4, none⟩ (.slice none 0 0))).setCell ⟨w.heap.size, 5, none⟩ (.int .i64 0)) := ⟨_, rfl⟩
                    rw [← hwf]
                    obtain ⟨hBf, hgf⟩ := put6 (HBZ.out) _ _ _ _ _ _ hwf
                    have HK := Lib.hid (keeps_put (HKW.out.trans HKR.out) (Nat.le_refl _) hgf)
                    have HGF := Lib.hid hgf
                    have e0 := (hBf).cell (j := 0) rfl
                    have e1 := (hBf).cell (j := 1) rfl
                    have e2 := (hBf).cell (j := 2) rfl
                    have e3 := (hBf).cell (j := 3) rfl
                    have e4 := (hBf).cell (j := 4) rfl
                    have e5 := (hBf).cell (j := 5) rfl
                    clear hwf hBf hgf
                    exact bodyPost_ret (v := .tuple #[.agg #[.slice none 0 0, .slice none 0 0, .slice none 0 0, .slice none 0 0, .slice none 0 0, .int .i64 0], .int .i64 4]) (by simp [results, Tryz.results15, go_sem, e0, e1, e2, e3, e4, e5]) rfl ⟨_, rfl, zimg_at _, HK.out⟩
                  · have hx := HD.out.symm.trans (dec_end (by omega) HD1.out (by omega) HPP.out hq)
                    have hF := HBR.out.foot.and HBR.out.own.foot
                    have hh := hF.here
                    rw [HF3.out, HF2.out, HF1.out, HF0.out] at hh
                    obtain ⟨⟨⟨⟨⟨hT, hFu⟩, hRows⟩, hTb⟩, hDa⟩, hLi⟩ := hh
                    have hI : ImgAt wc (.agg #[.slice a0 n0 c0, .slice ax1 (dFuns l).1.length cx1, .slice ax2 vs.length cx2, .slice ax3 (dData l).1.length cx3, .slice ax4 (dLines l).1.length cx4, .int .i64 (dEntry l).1]) (dImg l) := ⟨_, _, _, _, _, rfl, hT, hFu.funs, tabs_of hTb hRows, hDa.ints, hLi.lines⟩
                    have HI := Lib.hid hI
                    have HF := Lib.hid hF
                    have HX := Lib.hid hx
                    have g0 := (HBR.out.blk).cell (j := 0) rfl
                    have g1 := (HBR.out.blk).cell (j := 1) rfl
                    have g2 := (HBR.out.blk).cell (j := 2) rfl
                    have g3 := (HBR.out.blk).cell (j := 3) rfl
                    have g4 := (HBR.out.blk).cell (j := 4) rfl
                    have g5 := (HBR.out.blk).cell (j := 5) rfl
                    clear hx hF hT hFu hRows hTb hDa hLi hI
                    go_wp2_with fail
                    refine (imgCheck_any _ (dImg l) _ HI.out).mono ?_
                    rintro e wd ⟨rfl, hkd⟩
                    have hBz := HBZ.out.keep hkd
                    have d0 := (hBz).cell (j := 0) rfl
                    have d1 := (hBz).cell (j := 1) rfl
                    have d2 := (hBz).cell (j := 2) rfl
                    have d3 := (hBz).cell (j := 3) rfl
                    have d4 := (hBz).cell (j := 4) rfl
                    have d5 := (hBz).cell (j := 5) rfl
                    have u0 := (hBz).thawed 0
                    have u1 := (hBz).thawed 1
                    have u2 := (hBz).thawed 2
                    have u3 := (hBz).thawed 3
                    have u4 := (hBz).thawed 4
                    have u5 := (hBz).thawed 5
                    have hzs : w.heap.size < wd.heap.size := hBz.lt
                    have HBZ2 := Lib.hid hBz
                    have HKD := Lib.hid hkd
                    have hgb := HBR.out.blk.keep hkd
                    have g0 := (hgb).cell (j := 0) rfl
                    have g1 := (hgb).cell (j := 1) rfl
                    have g2 := (hgb).cell (j := 2) rfl
                    have g3 := (hgb).cell (j := 3) rfl
                    have g4 := (hgb).cell (j := 4) rfl
                    have g5 := (hgb).cell (j := 5) rfl
                    clear hBz hkd hgb r0 r1
                    generalize hfe : imgFault (dImg l) = fe at *
                    by_cases hz : fe = 0
                    · have hx := HX.out
                      (try rw [hfe] at hx)
                      rw [if_pos hz] at hx
                      injection hx with hx1 hx2
                      subst hx1 hx2
                      subst hz
                      have HFE := Lib.hid hfe
                      clear hfe
                      go_wp2_with fail
                      obtain ⟨wf, hwf⟩ : ∃ wf : World, wf = ((((((((((((wd).setCell ⟨w.heap.size, 0, none⟩ (.slice a0 n0 c0))).setCell ⟨w.heap.size, 1, none⟩ (.slice ax1 (dFuns l).1.length cx1))).setCell ⟨w.heap.size, 2, none⟩ (.slice ax2 vs.length cx2))).setCell ⟨w.heap.size, 3, none⟩ (.slice ax3 (dData l).1.length cx3))).setCell ⟨w.heap.size, 4, none⟩ (.slice ax4 (dLines l).1.length cx4))).setCell ⟨w.heap.size, 5, none⟩ (.int .i64 (dEntry l).1)) := ⟨_, rfl⟩
                      rw [← hwf]
                      obtain ⟨hBf, hgf⟩ := put6 (HBZ2.out) _ _ _ _ _ _ hwf
                      have HK := Lib.hid (keeps_put ((HKW.out.trans HKR.out).trans HKD.out) (Nat.le_refl _) hgf)
                      have HGF := Lib.hid hgf
                      have e0 := (hBf).cell (j := 0) rfl
                      have e1 := (hBf).cell (j := 1) rfl
                      have e2 := (hBf).cell (j := 2) rfl
                      have e3 := (hBf).cell (j := 3) rfl
                      have e4 := (hBf).cell (j := 4) rfl
                      have e5 := (hBf).cell (j := 5) rfl
                      clear hwf hBf hgf
                      have hF2 := (HF.out.keep HKD.out).grown HGF.out (fun b hb e => by
                        injection e with e
                        subst e
                        rcases hb with hb | hb
                        · have := HBR.out.SB _ hb; omega
                        · have := HBR.out.own.row _ hb; omega)
                      have hh := hF2.here
                      rw [HF3.out, HF2.out, HF1.out, HF0.out] at hh
                      obtain ⟨⟨⟨⟨⟨hT, hFu⟩, hRows⟩, hTb⟩, hDa⟩, hLi⟩ := hh
                      exact bodyPost_ret (v := .tuple #[.agg #[.slice a0 n0 c0, .slice ax1 (dFuns l).1.length cx1, .slice ax2 vs.length cx2, .slice ax3 (dData l).1.length cx3, .slice ax4 (dLines l).1.length cx4, .int .i64 (dEntry l).1], .int .i64 0]) (by simp [results, Tryz.results15, go_sem, e0, e1, e2, e3, e4, e5]) rfl ⟨_, rfl, (⟨_, _, _, _, _, rfl, hT, hFu.funs, tabs_of hTb hRows, hDa.ints, hLi.lines⟩ : ImgAt wf _ (dImg l)), HK.out⟩
                    · have hx := HX.out
                      (try rw [hfe] at hx)
                      rw [if_neg hz] at hx
                      injection hx with hx1 hx2
                      subst hx1
                      subst hx2
                      have tf : (er == 0) = false := by simpa using hz
                      have HFE := Lib.hid hfe
                      clear hfe
                      go_wp2_with fail
                      obtain ⟨wf, hwf⟩ : ∃ wf : World, wf = ((((((((((((wd).setCell ⟨w.heap.size, 0, none⟩ (.slice none 0 0))).setCell ⟨w.heap.size, 1, none⟩ (.slice none 0 0))).setCell ⟨w.heap.size, 2, none⟩ (.slice none 0 0))).setCell ⟨w.heap.size, 3, none⟩ (.slice none 0 0))).setCell ⟨w.heap.size, 4, none⟩ (.slice none 0 0))).setCell ⟨w.heap.size, 5, none⟩ (.int .i64 0)) := ⟨_, rfl⟩
                      rw [← hwf]
                      obtain ⟨hBf, hgf⟩ := put6 (HBZ2.out) _ _ _ _ _ _ hwf
                      have HK := Lib.hid (keeps_put ((HKW.out.trans HKR.out).trans HKD.out) (Nat.le_refl _) hgf)
                      have HGF := Lib.hid hgf
                      have e0 := (hBf).cell (j := 0) rfl
                      have e1 := (hBf).cell (j := 1) rfl
                      have e2 := (hBf).cell (j := 2) rfl
                      have e3 := (hBf).cell (j := 3) rfl
                      have e4 := (hBf).cell (j := 4) rfl
                      have e5 := (hBf).cell (j := 5) rfl
                      clear hwf hBf hgf
                      exact bodyPost_ret (v := .tuple #[.agg #[.slice none 0 0, .slice none 0 0, .slice none 0 0, .slice none 0 0, .slice none 0 0, .int .i64 0], .int .i64 er]) (by simp [results, Tryz.results15, go_sem, e0, e1, e2, e3, e4, e5]) rfl ⟨_, rfl, zimg_at _, HK.out⟩
      · have te : (L4 == (ByteArray.extract ⟨#[98, 104, 49, 10]⟩ 0 4).toList) = false := by rw [hmk]; simpa [sign] using hs
        have hx := HD.out.symm.trans (dec_sign (by omega) (by rw [← HL4.out, HS0.out]; exact hs))
        injection hx with hx1 hx2
        subst hx1 hx2
        clear hs hmk hv2 hl4 hn2 hg2
        go_wp2_with fail
        go_quiet (fail)
        have hBz := HB0.out.keep (HGW.out.drewN nq)
        have d0 := (hBz).cell (j := 0) rfl
        have d1 := (hBz).cell (j := 1) rfl
        have d2 := (hBz).cell (j := 2) rfl
        have d3 := (hBz).cell (j := 3) rfl
        have d4 := (hBz).cell (j := 4) rfl
        have d5 := (hBz).cell (j := 5) rfl
        have u0 := (hBz).thawed 0
        have u1 := (hBz).thawed 1
        have u2 := (hBz).thawed 2
        have u3 := (hBz).thawed 3
        have u4 := (hBz).thawed 4
        have u5 := (hBz).thawed 5
        have hzs : w.heap.size < (w2.drewN nq).heap.size := hBz.lt
        clear hBz
        go_wp2_with fail
        obtain ⟨wf, hwf⟩ : ∃ wf : World, wf = (((((((((((((w2.drewN nq)).setCell ⟨w.heap.size, 0, none⟩ (.slice none 0 0))).setCell ⟨w.heap.size, 1, none⟩ (.slice none 0 0))).setCell ⟨w.heap.size, 2, none⟩ (.slice none 0 0))).setCell ⟨w.heap.size, 3, none⟩ (.slice none 0 0))).setCell ⟨w.heap.size, 4, none⟩ (.slice none 0 0))).setCell ⟨w.heap.size, 5, none⟩ (.int .i64 0)) := ⟨_, rfl⟩
        rw [← hwf]
        obtain ⟨hBf, hgf⟩ := put6 (HB0.out.keep (HGW.out.drewN nq)) _ _ _ _ _ _ hwf
        have HK := Lib.hid (keeps_put (HKW.out.trans (HGW.out.drewN nq)) (Nat.le_refl _) hgf)
        have HGF := Lib.hid hgf
        have e0 := (hBf).cell (j := 0) rfl
        have e1 := (hBf).cell (j := 1) rfl
        have e2 := (hBf).cell (j := 2) rfl
        have e3 := (hBf).cell (j := 3) rfl
        have e4 := (hBf).cell (j := 4) rfl
        have e5 := (hBf).cell (j := 5) rfl
        clear hwf hBf hgf
        exact bodyPost_ret (v := .tuple #[.agg #[.slice none 0 0, .slice none 0 0, .slice none 0 0, .slice none 0 0, .slice none 0 0, .int .i64 0], .int .i64 4]) (by simp [results, Tryz.results15, go_sem, e0, e1, e2, e3, e4, e5]) rfl ⟨_, rfl, zimg_at _, HK.out⟩
end Go.Proofs.YtjnhiiidcjajbaaGreatDoor
