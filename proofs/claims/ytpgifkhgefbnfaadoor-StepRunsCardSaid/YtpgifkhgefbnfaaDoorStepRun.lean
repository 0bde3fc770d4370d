/-
  step.Run: what a run answers.
-/
import Derived.Test.YtpgifkhgefbnfaaDoorSameRun
import Derived.Deep.CutBlock
namespace Go.Proofs.YtpgifkhgefbnfaaDoor
open Go.RowKit BH
set_option maxHeartbeats 4000000
set_option maxRecDepth 100000
section
variable {m : Img} {inp : List Int} {fuel : Int}
theorem ran_bad (h : imgFault m ≠ 0) : ranS m inp fuel = (zRun, imgFault m) := if_pos h
theorem ran_fuel (h : imgFault m = 0) (h1 : fuel < 0 ∨ 100000 < fuel) : ranS m inp fuel = (zRun, 2) := by unfold ranS; rw [if_neg (by simpa using h), if_pos h1]
theorem ran_size (h : imgFault m = 0) (h1 : ¬ (fuel < 0 ∨ 100000 < fuel)) (h2 : 100 < inp.length) : ranS m inp fuel = (zRun, 1) := by unfold ranS; rw [if_neg (by simpa using h), if_neg h1, if_pos h2]
theorem ran_inp (h : imgFault m = 0) (h1 : ¬ (fuel < 0 ∨ 100000 < fuel)) (h2 : ¬ 100 < inp.length) (h3 : inpBad inp = true) : ranS m inp fuel = (zRun, 2) := by unfold ranS; rw [if_neg (by simpa using h), if_neg h1, if_neg h2, if_pos h3]
theorem ran_run (h : imgFault m = 0) (h1 : ¬ (fuel < 0 ∨ 100000 < fuel)) (h2 : ¬ 100 < inp.length) (h3 : inpBad inp = false) : ranS m inp fuel = (runR fuel (runS m fuel.toNat (mach0 m inp)), 0) := by unfold ranS; rw [if_neg (by simpa using h), if_neg h1, if_neg h2, if_neg (by simp [h3])]
end
theorem run_any (v vin : Value) (m : Img) (inp : List Int) (fuel : Int) (w : World) (ht : Tab w) (hs : Siz w) (hv : ImgAt w v m) (hi : Ints w vin inp) (hl : m.Text.length ≤ 140737488355328) :
    Calls Tryd.prog 14 #[v, vin, .int .i64 fuel] w (GivesN (fun v' w' => RunAt w.heap.size w' v' (ranS m inp fuel).1) (ranS m inp fuel).2 w) := by
  generalize hD : ranS m inp fuel = R
  obtain ⟨mi, er⟩ := R
  have HD := Lib.hid hD
  clear hD
  dsimp only
  have HTab := Lib.hid ht
  have HSiz := Lib.hid hs
  have HV := Lib.hid hv
  have HI := Lib.hid hi
  obtain ⟨v0, v1, v2, v3, v4, rfl, x0, x1, ⟨tv, x2, rv⟩, x3, x4⟩ := hv
  obtain ⟨o0, e0, rfl⟩ := Arr.form x0
  obtain ⟨o1, e1, rfl⟩ := Arr.form x1
  obtain ⟨o2, e2, rfl⟩ := Arr.form x2
  obtain ⟨o3, e3, rfl⟩ := Arr.form x3
  obtain ⟨o4, e4, rfl⟩ := Arr.form x4
  obtain ⟨oi, ei, rfl⟩ := Arr.form hi
  have HX0 : Hid (Bytes w _ m.Text) := Lib.hid x0
  have HX1 : Hid (Funs w _ m.Funcs) := Lib.hid x1
  have HX2 : Hid (Tabs w (.slice o2 m.Tables.length e2) m.Tables) := Lib.hid ⟨tv, x2, rv⟩
  have HX3 : Hid (Ints w _ m.Data) := Lib.hid x3
  clear x0 x1 x2 rv x3 x4 ht hs hi
  obtain ⟨E, hE⟩ : ∃ E, E = m.Entry := ⟨_, rfl⟩
  rw [← hE]
  rw [← hE] at HV
  have HE := Lib.hid hE
  obtain ⟨W, hW, hB3, hBz, hkW, hsz⟩ : ∃ W : World, W = (w.alloc (.cells #[.slice o0 m.Text.length e0, .slice o1 m.Funcs.length e1, .slice o2 m.Tables.length e2, .slice o3 m.Data.length e3, .slice o4 m.Lines.length e4, .int .i64 E] 35)).alloc (.cells #[.slice none 0 0, .int .i64 0, .int .i64 0, .int .i64 0] 46) ∧ Blk W w.heap.size (.cells #[.slice o0 m.Text.length e0, .slice o1 m.Funcs.length e1, .slice o2 m.Tables.length e2, .slice o3 m.Data.length e3, .slice o4 m.Lines.length e4, .int .i64 E] 35) ∧ Blk W (w.heap.size + 1) (.cells #[.slice none 0 0, .int .i64 0, .int .i64 0, .int .i64 0] 46) ∧ Keeps w W ∧ W.heap.size = w.heap.size + 2 :=
    ⟨_, rfl, (Blk.top _ _).keep ((Keeps.refl _).alloc _), Blk.top' _ _ (by rw [sz_alloc]), ((Keeps.refl w).alloc _).alloc _, by rw [sz_alloc, sz_alloc]⟩
  have g0 := (hB3).cell (j := 0) rfl
  have g1 := (hB3).cell (j := 1) rfl
  have g2 := (hB3).cell (j := 2) rfl
  have g3 := (hB3).cell (j := 3) rfl
  have g4 := (hB3).cell (j := 4) rfl
  have g5 := (hB3).cell (j := 5) rfl
  have HW := Lib.hid hW
  have HB3 := Lib.hid hB3
  have HBz := Lib.hid hBz
  have HKW := Lib.hid hkW
  have HSZ := Lib.hid hsz
  have hsz1 : w.heap.size + 1 < W.heap.size := by omega
  clear hW hB3 hBz hkW hsz hE
  go_enter Tryd.func14, Tryd.ntmps14
  go_upto_region 1 with fail
  rw [← HW.out]
  clear HW
  go_wp2_with fail
  refine (imgCheck_any _ m W (HV.out.keep HKW.out)).mono ?_
  rintro e w1 ⟨rfl, hk1⟩
  have HK1 := Lib.hid (HKW.out.trans hk1)
  have HB1 := Lib.hid (HBz.out.keep hk1)
  have HB31 := Lib.hid (HB3.out.keep hk1)
  have hs1 := hk1.size
  clear hk1 g0 g1 g2 g3 g4 g5
  by_cases hf : imgFault m = 0
  · have HF := Lib.hid hf
    generalize hfe : imgFault m = fe at hf ⊢
    subst hf
    clear hfe
    by_cases h1 : fuel < 0 ∨ 100000 < fuel
    · have hx := HD.out.symm.trans (ran_fuel HF.out h1)
      injection hx with hx1 hx2
      subst hx1 hx2
      have hBz := HB1.out
      have d0 := (hBz).cell (j := 0) rfl
      have d1 := (hBz).cell (j := 1) rfl
      have d2 := (hBz).cell (j := 2) rfl
      have d3 := (hBz).cell (j := 3) rfl
      have u0 := (hBz).thawed 0
      have u1 := (hBz).thawed 1
      have u2 := (hBz).thawed 2
      have u3 := (hBz).thawed 3
      have hzs : w.heap.size + 1 < w1.heap.size := hBz.lt
      clear hBz
      rcases h1 with h1 | h1
      · go_wp2_with fail
        obtain ⟨wf, hwf⟩ : ∃ wf : World, wf = ((((((((w1).setCell ⟨w.heap.size + 1, 0, none⟩ (.slice none 0 0))).setCell ⟨w.heap.size + 1, 1, none⟩ (.int .i64 0))).setCell ⟨w.heap.size + 1, 2, none⟩ (.int .i64 0))).setCell ⟨w.heap.size + 1, 3, none⟩ (.int .i64 0)) := ⟨_, rfl⟩
        rw [← hwf]
        obtain ⟨hBf, hgf⟩ := put4 (HB1.out) _ _ _ _ hwf
        have HK := Lib.hid (keeps_put (HK1.out) (Nat.le_succ _) hgf)
        have HGF := Lib.hid hgf
        have e0 := (hBf).cell (j := 0) rfl
        have e1 := (hBf).cell (j := 1) rfl
        have e2 := (hBf).cell (j := 2) rfl
        have e3 := (hBf).cell (j := 3) rfl
        clear hwf hBf hgf
        exact bodyPost_ret (v := .tuple #[.agg #[.slice none 0 0, .int .i64 0, .int .i64 0, .int .i64 0], .int .i64 2]) (by simp [results, Tryd.results14, go_sem, e0, e1, e2, e3]) rfl ⟨_, rfl, zrun_at _ _, HK.out⟩
      · go_wp2_with fail
        obtain ⟨wf, hwf⟩ : ∃ wf : World, wf = ((((((((w1).setCell ⟨w.heap.size + 1, 0, none⟩ (.slice none 0 0))).setCell ⟨w.heap.size + 1, 1, none⟩ (.int .i64 0))).setCell ⟨w.heap.size + 1, 2, none⟩ (.int .i64 0))).setCell ⟨w.heap.size + 1, 3, none⟩ (.int .i64 0)) := ⟨_, rfl⟩
        rw [← hwf]
        obtain ⟨hBf, hgf⟩ := put4 (HB1.out) _ _ _ _ hwf
        have HK := Lib.hid (keeps_put (HK1.out) (Nat.le_succ _) hgf)
        have HGF := Lib.hid hgf
        have e0 := (hBf).cell (j := 0) rfl
        have e1 := (hBf).cell (j := 1) rfl
        have e2 := (hBf).cell (j := 2) rfl
        have e3 := (hBf).cell (j := 3) rfl
        clear hwf hBf hgf
        exact bodyPost_ret (v := .tuple #[.agg #[.slice none 0 0, .int .i64 0, .int .i64 0, .int .i64 0], .int .i64 2]) (by simp [results, Tryd.results14, go_sem, e0, e1, e2, e3]) rfl ⟨_, rfl, zrun_at _ _, HK.out⟩
    · have hf0 : 0 ≤ fuel := by omega
      have hf1 : fuel ≤ 100000 := by omega
      have H1 := Lib.hid h1
      clear h1
      by_cases h2 : 100 < inp.length
      · have hx := HD.out.symm.trans (ran_size HF.out H1.out h2)
        injection hx with hx1 hx2
        subst hx1 hx2
        have hBz := HB1.out
        have d0 := (hBz).cell (j := 0) rfl
        have d1 := (hBz).cell (j := 1) rfl
        have d2 := (hBz).cell (j := 2) rfl
        have d3 := (hBz).cell (j := 3) rfl
        have u0 := (hBz).thawed 0
        have u1 := (hBz).thawed 1
        have u2 := (hBz).thawed 2
        have u3 := (hBz).thawed 3
        have hzs : w.heap.size + 1 < (w1).heap.size := hBz.lt
        have HBZ := Lib.hid hBz
        clear hBz
        go_wp2_with fail
        obtain ⟨wf, hwf⟩ : ∃ wf : World, wf = ((((((((w1).setCell ⟨w.heap.size + 1, 0, none⟩ (.slice none 0 0))).setCell ⟨w.heap.size + 1, 1, none⟩ (.int .i64 0))).setCell ⟨w.heap.size + 1, 2, none⟩ (.int .i64 0))).setCell ⟨w.heap.size + 1, 3, none⟩ (.int .i64 0)) := ⟨_, rfl⟩
        rw [← hwf]
        obtain ⟨hBf, hgf⟩ := put4 (HBZ.out) _ _ _ _ hwf
        have HK := Lib.hid (keeps_put (HK1.out) (Nat.le_succ _) hgf)
        have HGF := Lib.hid hgf
        have e0 := (hBf).cell (j := 0) rfl
        have e1 := (hBf).cell (j := 1) rfl
        have e2 := (hBf).cell (j := 2) rfl
        have e3 := (hBf).cell (j := 3) rfl
        clear hwf hBf hgf
        exact bodyPost_ret (v := .tuple #[.agg #[.slice none 0 0, .int .i64 0, .int .i64 0, .int .i64 0], .int .i64 1]) (by simp [results, Tryd.results14, go_sem, e0, e1, e2, e3]) rfl ⟨_, rfl, zrun_at _ _, HK.out⟩
      · have EG := Lib.hid (show ∀ args w, (callFunc 40 args).run Tryd.prog w = .ok (.enter 40 args) w from enters_of Tryd.func40 (by kernel_rfl) rfl)
        have HC := Lib.hid (fun w' (hk : Keeps w w') => containsFunc_int (.slice oi inp.length ei) inp.length (fun i _ => .int .i64 (nth inp i)) (fun i => outM (nth inp i)) 40 #[] w' (Arr.keep HI.out hk) EG.out (fun W i hi hW => (outM_any (nth inp i) W).mono fun e w' ⟨he, hw⟩ => ⟨he, hw ▸ Keeps.refl _⟩))
        have hq : inpBad inp = anyN (fun i => outM (nth inp i)) inp.length := rfl
        have H2 := Lib.hid h2
        cases hib : inpBad inp with
        | true =>
          rw [← hq, hib] at HC
          have hx := HD.out.symm.trans (ran_inp HF.out H1.out H2.out hib)
          injection hx with hx1 hx2
          subst hx1 hx2
          clear hib hq
          go_wp2_with (go_at_call 39; refine (HC.out _ (HK1.out)).mono ?_; rintro e w2 ⟨rfl, hk2⟩; have hBz := HB1.out.keep hk2; have d0 := (hBz).cell (j := 0) rfl; have d1 := (hBz).cell (j := 1) rfl; have d2 := (hBz).cell (j := 2) rfl; have d3 := (hBz).cell (j := 3) rfl; have u0 := (hBz).thawed 0; have u1 := (hBz).thawed 1; have u2 := (hBz).thawed 2; have u3 := (hBz).thawed 3; have hzs : w.heap.size + 1 < w2.heap.size := hBz.lt; have HBZ := Lib.hid hBz; have HK2 := Lib.hid hk2; clear hBz hk2)
          obtain ⟨wf, hwf⟩ : ∃ wf : World, wf = ((((((((w2).setCell ⟨w.heap.size + 1, 0, none⟩ (.slice none 0 0))).setCell ⟨w.heap.size + 1, 1, none⟩ (.int .i64 0))).setCell ⟨w.heap.size + 1, 2, none⟩ (.int .i64 0))).setCell ⟨w.heap.size + 1, 3, none⟩ (.int .i64 0)) := ⟨_, rfl⟩
          rw [← hwf]
          obtain ⟨hBf, hgf⟩ := put4 (HBZ.out) _ _ _ _ hwf
          have HK := Lib.hid (keeps_put (HK1.out.trans HK2.out) (Nat.le_succ _) hgf)
          have HGF := Lib.hid hgf
          have e0 := (hBf).cell (j := 0) rfl
          have e1 := (hBf).cell (j := 1) rfl
          have e2 := (hBf).cell (j := 2) rfl
          have e3 := (hBf).cell (j := 3) rfl
          clear hwf hBf hgf
          exact bodyPost_ret (v := .tuple #[.agg #[.slice none 0 0, .int .i64 0, .int .i64 0, .int .i64 0], .int .i64 2]) (by simp [results, Tryd.results14, go_sem, e0, e1, e2, e3]) rfl ⟨_, rfl, zrun_at _ _, HK.out⟩
        | false =>
          rw [← hq, hib] at HC
          have HIB := Lib.hid hib
          clear hib hq
          go_wp2_with (go_at_call 39; refine (HC.out _ (HK1.out)).mono ?_; rintro e w2 ⟨rfl, hk2⟩)
          clear HC
          have hg := imgGood m HF.out
          have HG := Lib.hid hg
          have hfn := hg.funcs
          have hdn := hg.data
          obtain ⟨n, rfl⟩ : ∃ n : Nat, E = n := ⟨E.toNat, by have := hg.entry; have := HE.out; omega⟩
          have hnl : n < m.Funcs.length := by have := hg.entry; have := HE.out; omega
          have hnl2 : (n : Int) < (m.Funcs.length : Int) := by omega
          obtain ⟨a9, c9, e9, q1, q2, q3, q4⟩ := HX1.out
          cases e9
          obtain ⟨fb, foff, rfl, hc⟩ := q4 (by omega)
          have s0 : w2.cell? ⟨fb, foff + n * 3 + 1, none⟩ = some (.int .i64 (nth m.Funcs n).Start) := (HK1.out.trans hk2).cell (hc n 1 hnl (by omega))
          have hB2 := HB31.out.keep hk2
          have g0 := (hB2).cell (j := 0) rfl
          have g1 := (hB2).cell (j := 1) rfl
          have g2 := (hB2).cell (j := 2) rfl
          have g3 := (hB2).cell (j := 3) rfl
          have g4 := (hB2).cell (j := 4) rfl
          have g5 := (hB2).cell (j := 5) rfl
          have HK2 := Lib.hid (HK1.out.trans hk2)
          have HBZ2 := Lib.hid (HB1.out.keep hk2)
          have HB32 := Lib.hid hB2
          clear hc q1 q2 q3 q4 hg hB2 hk2 hs1
          go_wp2_with fail
          go_cut [9] (fun s9 wx => ∃ (W3 : World) (g : Nat), s9 = .pointer (some ⟨g, 0, none⟩) ∧ Keeps w2 W3 ∧ MAt W3.heap.size W3 g [.slice o0 m.Text.length e0, .slice (some ⟨fb, foff, none⟩) m.Funcs.length e1, .slice o2 m.Tables.length e2, .slice o3 m.Data.length e3, .slice o4 m.Lines.length e4, .int .i64 (n : Int)] ⟨List.replicate 8 ⟨0, false⟩, [], inp, (nth m.Funcs n).Start, []⟩ (.slice none 0 0) (.slice oi inp.length ei) (.slice none 0 0) 0 0 0 wx)
          case first =>
            go_region_law (fail)
            all_goals
              go_wp2_with fail
              go_meet
              case rel =>
                first
                  | exact ⟨w2.drew, _, rfl, (Keeps.refl _).drew, mat0 rfl (Arr.keep HI.out (HK2.out.drew)) rfl⟩
                  | exact ⟨w2, _, rfl, Keeps.refl _, (mat0 rfl (Arr.keep HI.out HK2.out) rfl).keeps ((Keeps.refl _).drew)⟩
          case rest =>
            obtain ⟨W3, g, rfl, hk3, hm⟩ := hcut
            have hkw3 : Keeps w W3 := HK2.out.trans hk3
            have HT3 := Lib.hid (HTab.out.keep hkw3)
            have HS3 := Lib.hid (HSiz.out.keep hkw3)
            have HX03 : Hid (Bytes W3 _ m.Text) := Lib.hid (Arr.keep HX0.out hkw3)
            have HX23 := Lib.hid (HX2.out.keep hkw3)
            have HX33 : Hid (Ints W3 _ m.Data) := Lib.hid (Arr.keep HX3.out hkw3)
            have HBZ3 := Lib.hid (HBZ2.out.keep hk3)
            have HB33 := Lib.hid (HB32.out.keep hk3)
            have HKW3 := Lib.hid hkw3
            have HM0 := Lib.hid hm
            have hkc : Keeps W3 wc := hm.keep
            have g0 := (HB33.out.keep hkc).cell (j := 0) rfl
            have g1 := (HB33.out.keep hkc).cell (j := 1) rfl
            have g2 := (HB33.out.keep hkc).cell (j := 2) rfl
            have g3 := (HB33.out.keep hkc).cell (j := 3) rfl
            have g4 := (HB33.out.keep hkc).cell (j := 4) rfl
            have g5 := (HB33.out.keep hkc).cell (j := 5) rfl
            clear hm hk3 hkw3 s0 HBZ2 HB32 HK2 HB31 HB1 HK1 hkc
            go_wp2_with fail
            go_loopw [50] (fun s50 wr => ∃ (k : Nat) (vd : Value), k ≤ m.Data.length ∧ s50 = .int .i64 k ∧ MAt W3.heap.size W3 g [.slice o0 m.Text.length e0, .slice (some ⟨fb, foff, none⟩) m.Funcs.length e1, .slice o2 m.Tables.length e2, .slice o3 m.Data.length e3, .slice o4 m.Lines.length e4, .int .i64 (n : Int)] ⟨List.replicate 8 ⟨0, false⟩, (m.Data.take k).map mkV, inp, (nth m.Funcs n).Start, []⟩ vd (.slice oi inp.length ei) (.slice none 0 0) 0 0 0 wr) (fun s50 _ => m.Data.length - (intOf s50).toNat)
            case atStart => exact ⟨0, _, Nat.zero_le _, rfl, HM0.out⟩
            case round =>
              obtain ⟨k, vd, hk, rfl, hm⟩ := hrel
              have hkr : Keeps W3 wr := hm.keep
              obtain ⟨LK, hLK⟩ : ∃ L, L = (m.Data.take k).map mkV := ⟨_, rfl⟩
              rw [← hLK] at hm
              obtain ⟨ad, cd, ed⟩ := own_form' hm.dat
              subst ed
              have hlen2 : LK.length ≤ 64 := by rw [hLK]; simp; omega
              have hsw := hm.Bw
              have x0 := hm.tail rfl 0 rfl
              have y0 := hm.blk.thawed 22
              have hgl := hm.blk.lt
              have HM := Lib.hid hm
              have HLK := Lib.hid hLK
              clear hm hLK
              by_cases hlt : k < m.Data.length
              · have c0 : ∃ db doff, o3 = some ⟨db, doff, none⟩ ∧ wr.cell? ⟨db, doff + k, none⟩ = some (.int .i64 (nth m.Data k)) := by
                  obtain ⟨a9, c9, e9, -, -, -, q4⟩ := HX33.out
                  cases e9
                  obtain ⟨db, doff, rfl, hc⟩ := q4 (by omega)
                  exact ⟨db, doff, rfl, hkr.cell (by simpa using hc k 0 hlt (by omega))⟩
                obtain ⟨db, doff, rfl, c0⟩ := c0
                have HS := Lib.hid (take_map m.Data k hlt)
                go_wp2_with (at_builtin; refine wpList_pushes (by rfl) (.tmp 58) (.tmp 61) 102 (by rfl) Tryd.underlying102 info_val (by rfl) (by decide) (base := W3.heap.size) (f := cvl) (l := LK) (by rfl) (by exact HM.out.dat.keep (by repeat (with_reducible (first | assumption | exact Keeps.refl _ | refine Keeps.alloc ?_ _ | refine Keeps.drew ?_ | refine Keeps.drewN ?_ _ | refine Keeps.trans' ?_ (by assumption) (by assumption))))) [⟨nth m.Data k, false⟩] _ _ (by rfl) (by exact Blk.top' _ _ (by first | rfl | simp)) cvl_len cvl_one (by simp only [List.length_cons, List.length_nil]; omega) (by simp only [List.length_cons, List.length_nil]; unfold maxLen; omega) (by first | omega | (simp only [sz_alloc]; omega) | (simp only [sz_drew]; omega) | (simp only [sz_alloc, sz_drew]; omega) | (simp only [sz_alloc, sz_drewN]; omega)) ?_; intro v7 wp7 hown7 hbel7 hgr7 hfr7; obtain ⟨ap7, cp7, rfl⟩ := own_form' hown7; have hB7 := Blk.grown (Blk.keep HM.out.blk (by repeat (with_reducible (first | assumption | exact Keeps.refl _ | refine Keeps.alloc ?_ _ | refine Keeps.drew ?_ | refine Keeps.drewN ?_ _ | refine Keeps.trans' ?_ (by assumption) (by assumption))))) hgr7 (fun e => HM.out.dg e.symm); have hc7 := hB7.cell (mCells_tail HM.out.hh rfl 0); have hf7 := hB7.thawed 22; have hl7 := hB7.lt; have HO7 := Lib.hid hown7; have HG7 := Lib.hid hgr7; have HF7 := Lib.hid hfr7; clear hB7 hown7 hbel7 hgr7 hfr7)
                go_roundw
                case rel =>
                  have hp := HM.out.grow rfl (by repeat (with_reducible (first | assumption | exact Keeps.refl _ | refine Keeps.alloc ?_ _ | refine Keeps.drew ?_ | refine Keeps.drewN ?_ _))) HO7.out HG7.out HF7.out
                  rw [show (LK ++ [(⟨nth m.Data k, false⟩ : Vl)]).length = LK.length + 1 by simp] at hp
                  have e := HS.out
                  rw [← HLK.out] at e
                  rw [← e] at hp
                  exact ⟨k + 1, _, by omega, by go_num, hp⟩
                case measure => simp [intOf]; omega
              · obtain rfl : k = m.Data.length := by omega
                rw [List.take_length] at HLK
                have hen : m.Entry.toNat = n := by rw [← HE.out]; exact Int.toNat_natCast n
                have em0 : mach0 m inp = ⟨List.replicate 8 ⟨0, false⟩, m.Data.map mkV, inp, (nth m.Funcs n).Start, []⟩ := by unfold mach0; rw [hen]; rfl
                have hm0 : MAt W3.heap.size W3 g [.slice o0 m.Text.length e0, .slice (some ⟨fb, foff, none⟩) m.Funcs.length e1, .slice o2 m.Tables.length e2, .slice o3 m.Data.length e3, .slice o4 m.Lines.length e4, .int .i64 (n : Int)] (mach0 m inp) (.slice ad LK.length cd) (.slice oi inp.length ei) (.slice none 0 0) 0 0 0 wr := by rw [em0, ← HLK.out]; exact HM.out
                have hok0 := (mach0_ok HG.out HIB.out).1
                obtain ⟨F, rfl⟩ : ∃ F : Nat, fuel = F := ⟨fuel.toNat, by omega⟩
                obtain ⟨R, hR⟩ : ∃ R, runS m F (mach0 m inp) = R := ⟨_, rfl⟩
                have hx := HD.out.symm.trans (ran_run HF.out H1.out H2.out HIB.out)
                rw [Int.toNat_natCast, hR] at hx
                injection hx with hx1 hx2
                subst hx2
                have HMI := Lib.hid hx1
                have HR0 := Lib.hid hR
                have HM00 := Lib.hid hm0
                have HOK0 := Lib.hid hok0
                have HSZ3 := Lib.hid (show w.heap.size + 1 < W3.heap.size from HBZ3.out.lt)
                have hF : F ≤ 100000 := by omega
                have hF2 : (F : Int) ≤ 100000 := by omega
                clear hx1 hR hm0 hok0 em0 hen HM x0 y0 hgl g0 g1 g2 g3 g4 g5 hlen2 hsw hf0 hf1
                go_wp2_with fail
                go_loopw [] (fun wr => ∃ (k : Nat) (s : Mach) (en : Int) (vi vt : Value), k ≤ F ∧ MAt W3.heap.size W3 g [.slice o0 m.Text.length e0, .slice (some ⟨fb, foff, none⟩) m.Funcs.length e1, .slice o2 m.Tables.length e2, .slice o3 m.Data.length e3, .slice o4 m.Lines.length e4, .int .i64 (n : Int)] s (.slice ad LK.length cd) vi vt en ((F : Int) - k) 0 wr ∧ MachOk s ∧ s.told.length + k ≤ F ∧ ((en = 0 ∧ Hid (runS m k s = R)) ∨ (en ≠ 0 ∧ Hid ((en, k, s) = R)))) (fun wr => meas g wr)
                case atStart => exact ⟨F, mach0 m inp, 0, _, _, Nat.le_refl _, by rw [Int.sub_self]; exact HM00.out, HOK0.out, by show 0 + F ≤ F; omega, Or.inl ⟨rfl, HR0⟩⟩
                case round =>
                  obtain ⟨k, s, en, vi, vt, hkF, hm, hok, htl, hcase⟩ := hrel
                  obtain ⟨st, hst⟩ : ∃ st : Int, st = (F : Int) - k := ⟨_, rfl⟩
                  rw [← hst] at hm
                  have hst0 : 0 ≤ st := by omega
                  have hst1 : st ≤ F := by omega
                  have HST := Lib.hid hst
                  have h8 := hok.regs
                  have hkr : Keeps W3 wr := hm.keep
                  have HKR := Lib.hid hkr
                  have HMR := Lib.hid hm
                  have HOK := Lib.hid hok
                  have x24 : wr.cell? ⟨g, 24, none⟩ = some (.int .i64 s.pc) := MAt.tail hm h8 2 rfl
                  have x26 : wr.cell? ⟨g, 26, none⟩ = some (.int .i64 en) := MAt.tail hm h8 4 rfl
                  have x27 : wr.cell? ⟨g, 27, none⟩ = some (.int .i64 st) := MAt.tail hm h8 5 rfl
                  have z24 : wr.frozen? ⟨g, 24, none⟩ = false := (MAt.blk hm).thawed 24
                  have z26 : wr.frozen? ⟨g, 26, none⟩ = false := (MAt.blk hm).thawed 26
                  have z27 : wr.frozen? ⟨g, 27, none⟩ = false := (MAt.blk hm).thawed 27
                  have hgl := (MAt.blk hm).lt
                  have g0 := (HB33.out.keep hkr).cell (j := 0) rfl
                  have g1 := (HB33.out.keep hkr).cell (j := 1) rfl
                  have g2 := (HB33.out.keep hkr).cell (j := 2) rfl
                  have g3 := (HB33.out.keep hkr).cell (j := 3) rfl
                  have g4 := (HB33.out.keep hkr).cell (j := 4) rfl
                  have g5 := (HB33.out.keep hkr).cell (j := 5) rfl
                  have hbl3 : w.heap.size < wr.heap.size := (HB33.out.keep hkr).lt
                  rcases hcase with ⟨rfl, HR⟩ | ⟨hne, HR⟩
                  · obtain ⟨⟨⟨K, D, A, Q, N, Lg⟩, nn, ee⟩, hda⟩ : ∃ r, decAns m.Text s.pc = r := ⟨_, rfl⟩
                    have hdec := fun w' (hk : Keeps W3 w') => decode_any _ m.Text s.pc w' (HT3.out.keep hk) (HS3.out.keep hk) (Arr.keep HX03.out hk) hl
                    rw [hda] at hdec
                    unfold DecAns Ins.v insV at hdec
                    have HDEC := Lib.hid hdec
                    have HDA := Lib.hid hda
                    clear hdec hda hst hm hok hkr
                    go_upto_region 17 with fail
                    go_cut [12, 13, 14] (fun s12 s13 s14 wx => ∃ f : Nat, s12 = .pointer (some ⟨f, 0, none⟩) ∧ s13 = .int .i64 nn ∧ s14 = .int .i64 ee ∧ Blk wx f (.cells #[.int .i64 K, .int .i64 D, .int .i64 A, .int .i64 Q, .int .i64 N, .bool Lg] 24) ∧ Keeps wr wx)
                    case first =>
                      go_region_law ((try go_simp); go_at_call 6; refine (HDEC.out _ (Keeps.trans HKR.out (by repeat (with_reducible (first | assumption | exact Keeps.refl _ | refine Keeps.alloc ?_ _ | refine Keeps.drew ?_ | refine Keeps.drewN ?_ _))))).mono ?_; rintro e wa ⟨rfl, hka⟩; have HKA := Lib.hid (show Keeps wr wa from Keeps.trans (by repeat (with_reducible (first | assumption | exact Keeps.refl _ | refine Keeps.alloc ?_ _ | refine Keeps.drew ?_ | refine Keeps.drewN ?_ _))) hka); (first | (have hbf := blk_up' hka; (try simp only [sz_drew, sz_drewN] at hbf)) | (have hbf := blk_up_drew hka) | skip); (first | (have y0 := hbf.cell (j := 0) rfl; have y1 := hbf.cell (j := 1) rfl; have y2 := hbf.cell (j := 2) rfl; have y3 := hbf.cell (j := 3) rfl; have y4 := hbf.cell (j := 4) rfl; have y5 := hbf.cell (j := 5) rfl; have u0 := hbf.thawed 0; have u1 := hbf.thawed 1; have u2 := hbf.thawed 2; have u3 := hbf.thawed 3; have u4 := hbf.thawed 4; have u5 := hbf.thawed 5; have hbl := hbf.lt) | skip); clear hka)
                      all_goals
                        go_wp2_with fail
                        go_meet
                        case rel =>
                          first
                            | ((with_reducible refine ⟨_, rfl, rfl, rfl, Blk.top _ _, ?_⟩); exact HKA.out.alloc _)
                            | exact ⟨_, rfl, rfl, rfl, (((((hbf.set 0 _).set 1 _).set 2 _).set 3 _).set 4 _).set 5 _, keeps_put HKA.out (by omega) (grown_trans (grown_trans (grown_trans (grown_trans (grown_trans (grown_setCell _ _ _ _) (grown_setCell _ _ _ _)) (grown_setCell _ _ _ _)) (grown_setCell _ _ _ _)) (grown_setCell _ _ _ _)) (grown_setCell _ _ _ _))⟩
                    case rest =>
                      obtain ⟨f, rfl, rfl, rfl, hbf, hkc⟩ := hcut
                      have hmc := HMR.out.keeps hkc
                      have x24 : wc.cell? ⟨g, 24, none⟩ = some (.int .i64 s.pc) := MAt.tail hmc h8 2 rfl
                      have x26 : wc.cell? ⟨g, 26, none⟩ = some (.int .i64 0) := MAt.tail hmc h8 4 rfl
                      have x27 : wc.cell? ⟨g, 27, none⟩ = some (.int .i64 st) := MAt.tail hmc h8 5 rfl
                      have z24 : wc.frozen? ⟨g, 24, none⟩ = false := (MAt.blk hmc).thawed 24
                      have z26 : wc.frozen? ⟨g, 26, none⟩ = false := (MAt.blk hmc).thawed 26
                      have z27 : wc.frozen? ⟨g, 27, none⟩ = false := (MAt.blk hmc).thawed 27
                      have hgl := (MAt.blk hmc).lt
                      have y0 := (hbf).cell (j := 0) rfl
                      have y1 := (hbf).cell (j := 1) rfl
                      have y2 := (hbf).cell (j := 2) rfl
                      have y3 := (hbf).cell (j := 3) rfl
                      have y4 := (hbf).cell (j := 4) rfl
                      have y5 := (hbf).cell (j := 5) rfl
                      have HMC := Lib.hid hmc
                      have HBF := Lib.hid hbf
                      clear hmc hkc hbf g0 g1 g2 g3 g4 g5
                      cases k with
                      | zero =>
                        have tq : (st == (F : Int)) = true := by have := HST.out; simp; omega
                        go_wp2_with fail
                        go_roundw
                        case rel =>
                          have hp := HMC.out.setEnd h8 3
                          rw [HST.out] at hp
                          exact ⟨0, s, 3, vi, vt, hkF, hp, HOK.out, htl, Or.inr ⟨by decide, Lib.hid HR.out⟩⟩
                        case measure =>
                          rw [meas_eq (HMC.out.setEnd h8 3) h8, meas_eq HMR.out h8]; first | (simp only [if_true]; omega) | (split <;> split <;> omega)
                      | succ k =>
                        have tq : (st == (F : Int)) = false := by have := HST.out; simp; omega
                        by_cases he : ee = 0
                        · subst he
                          have hz := decAns_ok (l := m.Text) (x := s.pc) (by rw [HDA.out])
                          rw [HDA.out] at hz
                          have hiok : InsOk ⟨K, D, A, Q, N, Lg⟩ := hz.2.2.1
                          have hnb : -32768 ≤ N ∧ N ≤ 32767 := ⟨hz.2.2.2.1, hz.2.2.2.2.1⟩
                          have htx := HG.out.text
                          have hp0 : 0 ≤ s.pc := hz.1
                          have hp1 : s.pc < 8000 := by have := hz.2.1; omega
                          have hn0 : 0 ≤ nn := hz.2.2.2.2.2.1
                          have hn1 : nn ≤ 5 := hz.2.2.2.2.2.2
                          have hfl0 := fun w' => flows_any ⟨K, D, A, Q, N, Lg⟩ w'
                          unfold Ins.v insV at hfl0
                          dsimp only at hfl0
                          have HIO := Lib.hid hiok
                          have hnx : InM (s.pc + nn) := by unfold InM; omega
                          have s1 : IntKind.i64.wrap (s.pc + nn) = s.pc + nn := IntWalk.i64_in _ (by omega)
                          have hk1 : st + 1 = (F : Int) - k := by have := HST.out; omega
                          have HK1 := Lib.hid hk1
                          have htlc : s.told.length ≤ 100000 := by omega
                          cases hK : flowsN K with
                          | true =>
                            rw [hK] at hfl0
                            have HFL := Lib.hid hfl0
                            obtain ⟨⟨e', p', s'⟩, hfl⟩ : ∃ r, flowS m s ⟨K, D, A, Q, N, Lg⟩ (s.pc + nn) = r := ⟨_, rfl⟩
                            have hflow := fun w' (hm' : MAt W3.heap.size W3 g [.slice o0 m.Text.length e0, .slice (some ⟨fb, foff, none⟩) m.Funcs.length e1, .slice o2 m.Tables.length e2, .slice o3 m.Data.length e3, .slice o4 m.Lines.length e4, .int .i64 (n : Int)] s (.slice ad LK.length cd) vi vt 0 st 0 w') => flow_any w' hm' HOK.out m _ rfl HX23.out ⟨K, D, A, Q, N, Lg⟩ hiok hnb hK (s.pc + nn)
                            have h8' : s'.regs.length = 8 := by have := (flowS_ok HG.out (i := ⟨K, D, A, Q, N, Lg⟩) HOK.out hiok hnx).regs; rw [hfl] at this; exact this
                            have hgo : e' = 0 → runS m (k + 1) s = runS m k { s' with pc := p' } ∧ MachOk { s' with pc := p' } ∧ s'.told.length ≤ s.told.length + 1 := by
                              intro h0
                              have e1 : (flowS m s ⟨K, D, A, Q, N, Lg⟩ (s.pc + nn)).1 = 0 := by rw [hfl]; exact h0
                              have r1 := run_flow_go HDA.out hK e1 (k := k)
                              have r2 := flow_ok HG.out HOK.out HDA.out hK e1
                              rw [hfl] at r1 r2
                              exact ⟨r1, r2⟩
                            have hend : e' ≠ 0 → runS m (k + 1) s = (e', k + 1, s) ∧ s' = s := by
                              intro h0
                              have e1 : (flowS m s ⟨K, D, A, Q, N, Lg⟩ (s.pc + nn)).1 ≠ 0 := by rw [hfl]; exact h0
                              have r1 := run_flow_end HDA.out hK e1 (k := k)
                              have r2 := flowS_end e1
                              rw [hfl] at r1 r2
                              exact ⟨r1, r2⟩
                            rw [hfl] at hflow
                            unfold Ins.v insV at hflow
                            dsimp only at hflow
                            have HFLOW := Lib.hid hflow
                            have HGO := Lib.hid hgo
                            have HEND := Lib.hid hend
                            clear hz hiok hfl0 hflow hgo hend hfl hK hnx hk1
                            go_wp2_with (go_at_call 41; refine (HFL.out _).mono ?_; rintro e wd ⟨rfl, hkd⟩; have hmd := HMC.out.keeps hkd; have x24 : wd.cell? ⟨g, 24, none⟩ = some (.int .i64 s.pc) := MAt.tail hmd h8 2 rfl; have x26 : wd.cell? ⟨g, 26, none⟩ = some (.int .i64 0) := MAt.tail hmd h8 4 rfl; have x27 : wd.cell? ⟨g, 27, none⟩ = some (.int .i64 st) := MAt.tail hmd h8 5 rfl; have z24 : wd.frozen? ⟨g, 24, none⟩ = false := (MAt.blk hmd).thawed 24; have z26 : wd.frozen? ⟨g, 26, none⟩ = false := (MAt.blk hmd).thawed 26; have z27 : wd.frozen? ⟨g, 27, none⟩ = false := (MAt.blk hmd).thawed 27; have hgl := (MAt.blk hmd).lt; have y0 := hkd.cell y0; have y1 := hkd.cell y1; have y2 := hkd.cell y2; have y3 := hkd.cell y3; have y4 := hkd.cell y4; have y5 := hkd.cell y5; have HMD := Lib.hid hmd; clear hmd hkd)
                            go_cut [15] (fun s15 wx => s15 = .int .i64 p' ∧ MAt W3.heap.size W3 g [.slice o0 m.Text.length e0, .slice (some ⟨fb, foff, none⟩) m.Funcs.length e1, .slice o2 m.Tables.length e2, .slice o3 m.Data.length e3, .slice o4 m.Lines.length e4, .int .i64 (n : Int)] s' (.slice ad LK.length cd) vi vt e' st 0 wx)
                            case first =>
                              go_region_law ((try go_simp); go_at_call 42; refine (HFLOW.out _ (HMD.out.keeps (by repeat (with_reducible (first | assumption | exact Keeps.refl _ | refine Keeps.alloc ?_ _ | refine Keeps.drew ?_ | refine Keeps.drewN ?_ _))))).mono ?_; rintro e we ⟨rfl, hme⟩; have x26 : we.cell? ⟨g, 26, none⟩ = some (.int .i64 0) := MAt.tail hme h8' 4 rfl; have z26 : we.frozen? ⟨g, 26, none⟩ = false := (MAt.blk hme).thawed 26; have hgl := (MAt.blk hme).lt; have HME := Lib.hid hme; clear hme)
                              all_goals
                                go_wp2_with fail
                                go_meet
                                case rel =>
                                  first
                                    | exact ⟨rfl, HME.out.setEnd h8' e'⟩
                                    | exact ⟨rfl, (HME.out.setEnd h8' e').keeps ((Keeps.refl _).drew)⟩
                            case rest =>
                              obtain ⟨rfl, hm5⟩ := hcut
                              have x24 : wc.cell? ⟨g, 24, none⟩ = some (.int .i64 s'.pc) := MAt.tail hm5 h8' 2 rfl
                              have x26 : wc.cell? ⟨g, 26, none⟩ = some (.int .i64 e') := MAt.tail hm5 h8' 4 rfl
                              have x27 : wc.cell? ⟨g, 27, none⟩ = some (.int .i64 st) := MAt.tail hm5 h8' 5 rfl
                              have z24 : wc.frozen? ⟨g, 24, none⟩ = false := (MAt.blk hm5).thawed 24
                              have z26 : wc.frozen? ⟨g, 26, none⟩ = false := (MAt.blk hm5).thawed 26
                              have z27 : wc.frozen? ⟨g, 27, none⟩ = false := (MAt.blk hm5).thawed 27
                              have hgl := (MAt.blk hm5).lt
                              have HM5 := Lib.hid hm5
                              clear hm5
                              by_cases he0 : e' = 0
                              · subst he0
                                obtain ⟨r1, r2, r3⟩ := HGO.out rfl
                                have HRG := Lib.hid (r1.symm.trans HR.out)
                                have HOG := Lib.hid r2
                                clear r1 r2
                                go_wp2_with fail
                                go_roundw
                                case rel =>
                                  have hp := (HM5.out.setPc h8' p').setSteps h8' (st + 1)
                                  exact ⟨k, { s' with pc := p' }, 0, vi, vt, by omega, by rw [← HK1.out]; exact hp, HOG.out, by show s'.told.length + k ≤ F; omega, Or.inl ⟨rfl, HRG⟩⟩
                                case measure =>
                                  rw [meas_eq ((HM5.out.setPc h8' p').setSteps h8' (st + 1)) h8', meas_eq HMR.out h8]
                                  simp only [if_true]
                                  omega
                              · have te : (e' == 0) = false := by simpa using he0
                                obtain ⟨r1, r2⟩ := HEND.out he0
                                have HRG := Lib.hid (r1.symm.trans HR.out)
                                have HNE := Lib.hid he0
                                subst r2
                                clear r1 he0
                                go_wp2_with fail
                                go_roundw
                                case rel =>
                                  have hp := HM5.out
                                  rw [HST.out] at hp
                                  exact ⟨k + 1, s', e', vi, vt, hkF, hp, HOK.out, htl, Or.inr ⟨HNE.out, HRG⟩⟩
                                case measure =>
                                  rw [meas_eq HM5.out h8', meas_eq HMR.out h8, if_neg HNE.out, if_pos rfl]
                                  omega
                          | false =>
                            rw [hK] at hfl0
                            have HFL := Lib.hid hfl0
                            obtain ⟨⟨e', s'⟩, hfl⟩ : ∃ r, doS s ⟨K, D, A, Q, N, Lg⟩ = r := ⟨_, rfl⟩
                            have hdo := fun w' (hm' : MAt W3.heap.size W3 g [.slice o0 m.Text.length e0, .slice (some ⟨fb, foff, none⟩) m.Funcs.length e1, .slice o2 m.Tables.length e2, .slice o3 m.Data.length e3, .slice o4 m.Lines.length e4, .int .i64 (n : Int)] s (.slice ad LK.length cd) vi vt 0 st 0 w') => do_any w' hm' HOK.out ⟨K, D, A, Q, N, Lg⟩ hiok hnb hK htlc
                            have h8' : s'.regs.length = 8 := by have := (doS_ok (i := ⟨K, D, A, Q, N, Lg⟩) HOK.out hiok).regs; rw [hfl] at this; exact this
                            have hpc' : s'.pc = s.pc := by have := doS_pc s ⟨K, D, A, Q, N, Lg⟩; rw [hfl] at this; exact this
                            have hgo : e' = 0 → runS m (k + 1) s = runS m k { s' with pc := s.pc + nn } ∧ MachOk { s' with pc := s.pc + nn } ∧ s'.told.length ≤ s.told.length + 1 := by
                              intro h0
                              have e1 : (doS s ⟨K, D, A, Q, N, Lg⟩).1 = 0 := by rw [hfl]; exact h0
                              have r1 := run_do_go HDA.out hK e1 (k := k)
                              have r2 := do_ok HG.out HOK.out HDA.out hK e1
                              rw [hfl] at r1 r2
                              exact ⟨r1, r2⟩
                            have hend : e' ≠ 0 → runS m (k + 1) s = (e', k + 1, s) ∧ s' = s := by
                              intro h0
                              have e1 : (doS s ⟨K, D, A, Q, N, Lg⟩).1 ≠ 0 := by rw [hfl]; exact h0
                              have r1 := run_do_end HDA.out hK e1 (k := k)
                              have r2 := doS_end e1
                              rw [hfl] at r1 r2
                              exact ⟨r1, r2⟩
                            rw [hfl] at hdo
                            unfold Ins.v insV at hdo
                            dsimp only at hdo
                            have HDO := Lib.hid hdo
                            have HGO := Lib.hid hgo
                            have HEND := Lib.hid hend
                            have HPC := Lib.hid hpc'
                            clear hz hiok hfl0 hdo hgo hend hfl hK hnx hk1 hpc'
                            by_cases he0 : e' = 0
                            · subst he0
                              obtain ⟨r1, r2, r3⟩ := HGO.out rfl
                              have HRG := Lib.hid (r1.symm.trans HR.out)
                              have HOG := Lib.hid r2
                              clear r1 r2
                              go_wp2_with (first
                                | (go_at_call 41; refine (HFL.out _).mono ?_; rintro e wd ⟨rfl, hkd⟩; have hmd := HMC.out.keeps hkd; have x24 : wd.cell? ⟨g, 24, none⟩ = some (.int .i64 s.pc) := MAt.tail hmd h8 2 rfl; have x26 : wd.cell? ⟨g, 26, none⟩ = some (.int .i64 0) := MAt.tail hmd h8 4 rfl; have x27 : wd.cell? ⟨g, 27, none⟩ = some (.int .i64 st) := MAt.tail hmd h8 5 rfl; have z24 : wd.frozen? ⟨g, 24, none⟩ = false := (MAt.blk hmd).thawed 24; have z26 : wd.frozen? ⟨g, 26, none⟩ = false := (MAt.blk hmd).thawed 26; have z27 : wd.frozen? ⟨g, 27, none⟩ = false := (MAt.blk hmd).thawed 27; have hgl := (MAt.blk hmd).lt; have y0 := hkd.cell y0; have y1 := hkd.cell y1; have y2 := hkd.cell y2; have y3 := hkd.cell y3; have y4 := hkd.cell y4; have y5 := hkd.cell y5; have HMD := Lib.hid hmd; clear hmd hkd)
                                | (go_at_call 43; refine (HDO.out _ HMD.out).mono ?_; rintro e we ⟨vi', vt', rfl, hme⟩; have x24 : we.cell? ⟨g, 24, none⟩ = some (.int .i64 s.pc) := (by rw [← HPC.out]; exact MAt.tail hme h8' 2 rfl); have x26 : we.cell? ⟨g, 26, none⟩ = some (.int .i64 0) := MAt.tail hme h8' 4 rfl; have x27 : we.cell? ⟨g, 27, none⟩ = some (.int .i64 st) := MAt.tail hme h8' 5 rfl; have z24 : we.frozen? ⟨g, 24, none⟩ = false := (MAt.blk hme).thawed 24; have z26 : we.frozen? ⟨g, 26, none⟩ = false := (MAt.blk hme).thawed 26; have z27 : we.frozen? ⟨g, 27, none⟩ = false := (MAt.blk hme).thawed 27; have hgl := (MAt.blk hme).lt; have HME := Lib.hid hme; clear hme))
                              go_roundw
                              case rel =>
                                have hp := ((HME.out.setEnd h8' 0).setPc h8' (s.pc + nn)).setSteps h8' (st + 1)
                                exact ⟨k, { s' with pc := s.pc + nn }, 0, vi', vt', by omega, by rw [← HK1.out]; exact hp, HOG.out, by show s'.told.length + k ≤ F; omega, Or.inl ⟨rfl, HRG⟩⟩
                              case measure =>
                                rw [meas_eq (((HME.out.setEnd h8' 0).setPc h8' (s.pc + nn)).setSteps h8' (st + 1)) h8', meas_eq HMR.out h8]
                                simp only [if_true]
                                omega
                            · have te : (e' == 0) = false := by simpa using he0
                              obtain ⟨r1, r2⟩ := HEND.out he0
                              have HRG := Lib.hid (r1.symm.trans HR.out)
                              have HNE := Lib.hid he0
                              have HR2 := Lib.hid r2
                              clear r1 he0 r2
                              go_wp2_with (first
                                | (go_at_call 41; refine (HFL.out _).mono ?_; rintro e wd ⟨rfl, hkd⟩; have hmd := HMC.out.keeps hkd; have x24 : wd.cell? ⟨g, 24, none⟩ = some (.int .i64 s.pc) := MAt.tail hmd h8 2 rfl; have x26 : wd.cell? ⟨g, 26, none⟩ = some (.int .i64 0) := MAt.tail hmd h8 4 rfl; have x27 : wd.cell? ⟨g, 27, none⟩ = some (.int .i64 st) := MAt.tail hmd h8 5 rfl; have z24 : wd.frozen? ⟨g, 24, none⟩ = false := (MAt.blk hmd).thawed 24; have z26 : wd.frozen? ⟨g, 26, none⟩ = false := (MAt.blk hmd).thawed 26; have z27 : wd.frozen? ⟨g, 27, none⟩ = false := (MAt.blk hmd).thawed 27; have hgl := (MAt.blk hmd).lt; have y0 := hkd.cell y0; have y1 := hkd.cell y1; have y2 := hkd.cell y2; have y3 := hkd.cell y3; have y4 := hkd.cell y4; have y5 := hkd.cell y5; have HMD := Lib.hid hmd; clear hmd hkd)
                                | (go_at_call 43; refine (HDO.out _ HMD.out).mono ?_; rintro e we ⟨vi', vt', rfl, hme⟩; have x24 : we.cell? ⟨g, 24, none⟩ = some (.int .i64 s'.pc) := MAt.tail hme h8' 2 rfl; have x26 : we.cell? ⟨g, 26, none⟩ = some (.int .i64 0) := MAt.tail hme h8' 4 rfl; have x27 : we.cell? ⟨g, 27, none⟩ = some (.int .i64 st) := MAt.tail hme h8' 5 rfl; have z24 : we.frozen? ⟨g, 24, none⟩ = false := (MAt.blk hme).thawed 24; have z26 : we.frozen? ⟨g, 26, none⟩ = false := (MAt.blk hme).thawed 26; have z27 : we.frozen? ⟨g, 27, none⟩ = false := (MAt.blk hme).thawed 27; have hgl := (MAt.blk hme).lt; have HME := Lib.hid hme; clear hme))
                              go_roundw
                              case rel =>
                                have hp := HME.out.setEnd h8' e'
                                rw [HST.out, HR2.out] at hp
                                exact ⟨k + 1, s, e', vi', vt', hkF, hp, HOK.out, htl, Or.inr ⟨HNE.out, HRG⟩⟩
                              case measure =>
                                rw [meas_eq (HME.out.setEnd h8' e') h8', meas_eq HMR.out h8, if_neg HNE.out, if_pos rfl]
                                omega
                        · have te : (ee == 0) = false := by simpa using he
                          have HRB := Lib.hid ((run_bad HDA.out he).symm.trans HR.out)
                          clear he
                          go_wp2_with fail
                          go_roundw
                          case rel =>
                            have hp := HMC.out.setEnd h8 2
                            rw [HST.out] at hp
                            exact ⟨k + 1, s, 2, vi, vt, hkF, hp, HOK.out, htl, Or.inr ⟨by decide, HRB⟩⟩
                          case measure =>
                            rw [meas_eq (HMC.out.setEnd h8 2) h8, meas_eq HMR.out h8]; first | (simp only [if_true]; omega) | (split <;> split <;> omega)
                  · have te : (en == 0) = false := by simpa using hne
                    obtain ⟨at1, ct1, et⟩ := own_form' hm.tld
                    subst et
                    have x25 : wr.cell? ⟨g, 25, none⟩ = some (.slice at1 s.told.length ct1) := hm.tail h8 3 rfl
                    have x28 : wr.cell? ⟨g, 28, none⟩ = some (.int .i64 0) := hm.tail h8 6 rfl
                    have z28 := hm.blk.thawed 28
                    have HMQ0 := Lib.hid hm
                    clear hm hst hok hkr hne g0 g1 g2 g3 g4 g5
                    go_upto_region 33 with fail
                    obtain ⟨wq, hwq⟩ : ∃ wq, wq = wr.setCell ⟨g, 28, none⟩ (.int .i64 s.pc) := ⟨_, rfl⟩
                    rw [← hwq]
                    have hmq : MAt W3.heap.size W3 g [.slice o0 m.Text.length e0, .slice (some ⟨fb, foff, none⟩) m.Funcs.length e1, .slice o2 m.Tables.length e2, .slice o3 m.Data.length e3, .slice o4 m.Lines.length e4, .int .i64 (n : Int)] s (.slice ad LK.length cd) vi (.slice at1 s.told.length ct1) en st s.pc wq := by rw [hwq]; exact HMQ0.out.setAt h8 s.pc
                    have x25 : wq.cell? ⟨g, 25, none⟩ = some (.slice at1 s.told.length ct1) := hmq.tail h8 3 rfl
                    have x26 : wq.cell? ⟨g, 26, none⟩ = some (.int .i64 en) := hmq.tail h8 4 rfl
                    have x27 : wq.cell? ⟨g, 27, none⟩ = some (.int .i64 st) := hmq.tail h8 5 rfl
                    have x28 : wq.cell? ⟨g, 28, none⟩ = some (.int .i64 s.pc) := hmq.tail h8 6 rfl
                    have hkq : Keeps W3 wq := hmq.keep
                    have hBz := HBZ3.out.keep hkq
                    have d0 := (hBz).cell (j := 0) rfl
                    have d1 := (hBz).cell (j := 1) rfl
                    have d2 := (hBz).cell (j := 2) rfl
                    have d3 := (hBz).cell (j := 3) rfl
                    have u0 := (hBz).thawed 0
                    have u1 := (hBz).thawed 1
                    have u2 := (hBz).thawed 2
                    have u3 := (hBz).thawed 3
                    have hzs : w.heap.size + 1 < wq.heap.size := hBz.lt
                    have HBZ := Lib.hid hBz
                    have HMQ := Lib.hid hmq
                    have HKQ := Lib.hid (HKW3.out.trans hkq)
                    clear hwq hmq hkq hBz x24 z24 z26 z27 z28
                    go_wp2_with fail
                    obtain ⟨wf, hwf⟩ : ∃ wf : World, wf = ((((((((wq).setCell ⟨w.heap.size + 1, 0, none⟩ (.slice at1 s.told.length ct1))).setCell ⟨w.heap.size + 1, 1, none⟩ (.int .i64 en))).setCell ⟨w.heap.size + 1, 2, none⟩ (.int .i64 st))).setCell ⟨w.heap.size + 1, 3, none⟩ (.int .i64 s.pc)) := ⟨_, rfl⟩
                    rw [← hwf]
                    obtain ⟨hBf, hgf⟩ := put4 (HBZ.out) _ _ _ _ hwf
                    have HK := Lib.hid (keeps_put (HKQ.out) (Nat.le_succ _) hgf)
                    have HGF := Lib.hid hgf
                    have e0 := (hBf).cell (j := 0) rfl
                    have e1 := (hBf).cell (j := 1) rfl
                    have e2 := (hBf).cell (j := 2) rfl
                    have e3 := (hBf).cell (j := 3) rfl
                    clear hwf hBf hgf
                    have ho := (HMQ.out.tld.keep (Keeps.refl _)).other HGF.out (fun b hb e => by injection e with e; subst e; have := HMQ.out.tld.row _ hb; have := HSZ3.out; omega)
                    have e := HMI.out
                    rw [← HR.out] at e
                    subst e
                    exact bodyPost_ret (v := .tuple #[.agg #[.slice at1 s.told.length ct1, .int .i64 en, .int .i64 st, .int .i64 s.pc], .int .i64 0]) (by simp [results, Tryd.results14, go_sem, e0, e1, e2, e3]) rfl ⟨_, rfl, ⟨_, by rw [show (runR (F : Int) (en, k, s)).steps = st from HST.out.symm]; rfl, Own.ints ho, fun b hb => by have := HMQ.out.tld.row _ hb; have := HSZ3.out; omega⟩, HK.out⟩
  · have HF := Lib.hid hf
    have hx := HD.out.symm.trans (ran_bad hf)
    injection hx with hx1 hx2
    subst hx1
    have tf : (imgFault m == 0) = false := by simpa using hf
    generalize imgFault m = fe at *
    subst hx2
    have hBz := HB1.out
    have d0 := (hBz).cell (j := 0) rfl
    have d1 := (hBz).cell (j := 1) rfl
    have d2 := (hBz).cell (j := 2) rfl
    have d3 := (hBz).cell (j := 3) rfl
    have u0 := (hBz).thawed 0
    have u1 := (hBz).thawed 1
    have u2 := (hBz).thawed 2
    have u3 := (hBz).thawed 3
    have hzs : w.heap.size + 1 < w1.heap.size := hBz.lt
    clear hBz hf
    go_wp2_with fail
    obtain ⟨wf, hwf⟩ : ∃ wf : World, wf = ((((((((w1).setCell ⟨w.heap.size + 1, 0, none⟩ (.slice none 0 0))).setCell ⟨w.heap.size + 1, 1, none⟩ (.int .i64 0))).setCell ⟨w.heap.size + 1, 2, none⟩ (.int .i64 0))).setCell ⟨w.heap.size + 1, 3, none⟩ (.int .i64 0)) := ⟨_, rfl⟩
    rw [← hwf]
    obtain ⟨hBf, hgf⟩ := put4 (HB1.out) _ _ _ _ hwf
    have HK := Lib.hid (keeps_put (HK1.out) (Nat.le_succ _) hgf)
    have HGF := Lib.hid hgf
    have e0 := (hBf).cell (j := 0) rfl
    have e1 := (hBf).cell (j := 1) rfl
    have e2 := (hBf).cell (j := 2) rfl
    have e3 := (hBf).cell (j := 3) rfl
    clear hwf hBf hgf
    exact bodyPost_ret (v := .tuple #[.agg #[.slice none 0 0, .int .i64 0, .int .i64 0, .int .i64 0], .int .i64 er]) (by simp [results, Tryd.results14, go_sem, e0, e1, e2, e3]) rfl ⟨_, rfl, zrun_at _ _, HK.out⟩
end Go.Proofs.YtpgifkhgefbnfaaDoor
