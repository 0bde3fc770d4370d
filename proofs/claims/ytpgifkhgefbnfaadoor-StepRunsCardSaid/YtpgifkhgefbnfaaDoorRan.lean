/-
  The document's Ran: what a run answers.
-/
import Derived.Test.YtpgifkhgefbnfaaDoorRanStep
import Derived.Test.YtpgifkhgefbnfaaDoorRanR
import Derived.Test.YtpgifkhgefbnfaaDoorRanK0
import Derived.Test.YtpgifkhgefbnfaaDoorRanKA
import Derived.Test.YtpgifkhgefbnfaaDoorRanKB
import Derived.Test.YtpgifkhgefbnfaaDoorRanKC
import Derived.Test.YtpgifkhgefbnfaaDoorRanKD
import Derived.Test.YtpgifkhgefbnfaaDoorRanKE
import Derived.Test.YtpgifkhgefbnfaaDoorRanKF
import Derived.Test.YtpgifkhgefbnfaaDoorRanKG
import Derived.Test.YtpgifkhgefbnfaaDoorRanKH
import Derived.Test.YtpgifkhgefbnfaaDoorRanKI
import Derived.Test.YtpgifkhgefbnfaaDoorStepRun
import Derived.Deep.CutBlock
namespace Go.Proofs.YtpgifkhgefbnfaaDoor
open Go.RowKit BH
set_option maxHeartbeats 1000000000
set_option maxRecDepth 100000
theorem ran_any (v vin : Value) (m : Img) (inp : List Int) (fuel : Int) (w : World) (hv : ImgAt w v m) (hi : Ints w vin inp) (hl : m.Text.length ≤ 140737488355328) :
    Calls Tryd.prog 16 #[v, vin, .int .i64 fuel] w (GivesN (fun v' w' => RunAt w.heap.size w' v' (ranS m inp fuel).1) (ranS m inp fuel).2 w) := by
  generalize hD : ranS m inp fuel = R
  obtain ⟨mi, er⟩ := R
  have HD := Lib.hid hD
  clear hD
  dsimp only
  have HV := Lib.hid hv
  have HI := Lib.hid hi
  obtain ⟨v0, v1, v2, v3, v4, rfl, x0, x1, ⟨tv, x2, rv⟩, x3, x4⟩ := hv
  obtain ⟨o0, e0, rfl⟩ := Arr.form x0
  obtain ⟨o1, e1, rfl⟩ := Arr.form x1
  obtain ⟨o2, e2, rfl⟩ := Arr.form x2
  obtain ⟨o3, e3, rfl⟩ := Arr.form x3
  obtain ⟨o4, e4, rfl⟩ := Arr.form x4
  obtain ⟨oi, ei, rfl⟩ := Arr.form hi
  have HX0 : Hid (Bytes w _ m.Text) := Lib.hid x0
  have HX1 : Hid (Funs w _ m.Funcs) := Lib.hid x1
  have HX2 : Hid (Tabs w (.slice o2 m.Tables.length e2) m.Tables) := Lib.hid ⟨tv, x2, rv⟩
  have HX3 : Hid (Ints w _ m.Data) := Lib.hid x3
  clear x0 x1 x2 rv x3 x4 hi
  obtain ⟨E, hE⟩ : ∃ E, E = m.Entry := ⟨_, rfl⟩
  rw [← hE]
  rw [← hE] at HV
  have HE := Lib.hid hE
  obtain ⟨W, hW, hB3, hBz, hkW, hsz⟩ : ∃ W : World, W = (w.alloc (.cells #[.slice o0 m.Text.length e0, .slice o1 m.Funcs.length e1, .slice o2 m.Tables.length e2, .slice o3 m.Data.length e3, .slice o4 m.Lines.length e4, .int .i64 E] 35)).alloc (.cells #[.slice none 0 0, .int .i64 0, .int .i64 0, .int .i64 0] 46) ∧ Blk W w.heap.size (.cells #[.slice o0 m.Text.length e0, .slice o1 m.Funcs.length e1, .slice o2 m.Tables.length e2, .slice o3 m.Data.length e3, .slice o4 m.Lines.length e4, .int .i64 E] 35) ∧ Blk W (w.heap.size + 1) (.cells #[.slice none 0 0, .int .i64 0, .int .i64 0, .int .i64 0] 46) ∧ Keeps w W ∧ W.heap.size = w.heap.size + 2 :=
    ⟨_, rfl, (Blk.top _ _).keep ((Keeps.refl _).alloc _), Blk.top' _ _ (by rw [sz_alloc]), ((Keeps.refl w).alloc _).alloc _, by rw [sz_alloc, sz_alloc]⟩
  have g0 := (hB3).cell (j := 0) rfl
  have g1 := (hB3).cell (j := 1) rfl
  have g2 := (hB3).cell (j := 2) rfl
  have g3 := (hB3).cell (j := 3) rfl
  have g4 := (hB3).cell (j := 4) rfl
  have g5 := (hB3).cell (j := 5) rfl
  have HW := Lib.hid hW
  have HB3 := Lib.hid hB3
  have HBz := Lib.hid hBz
  have HKW := Lib.hid hkW
  have hsz1 : w.heap.size + 1 < W.heap.size := by omega
  clear hW hB3 hBz hkW hsz hE
  go_enter Tryd.func16, Tryd.ntmps16
  go_upto_region 1 with fail
  rw [← HW.out]
  clear HW
  go_wp2_with fail
  refine (imageFault_any _ m W (HV.out.keep HKW.out)).mono ?_
  rintro e w1 ⟨rfl, hk1⟩
  have HK1 := Lib.hid (HKW.out.trans hk1)
  have HB1 := Lib.hid (HBz.out.keep hk1)
  have HB31 := Lib.hid (HB3.out.keep hk1)
  have hs1 := hk1.size
  have g0 := (HB31.out).cell (j := 0) rfl
  have g1 := (HB31.out).cell (j := 1) rfl
  have g2 := (HB31.out).cell (j := 2) rfl
  have g3 := (HB31.out).cell (j := 3) rfl
  have g4 := (HB31.out).cell (j := 4) rfl
  have g5 := (HB31.out).cell (j := 5) rfl
  clear hk1
  by_cases hf : imgFault m = 0
  · have HF := Lib.hid hf
    generalize hfe : imgFault m = fe at hf ⊢
    subst hf
    clear hfe
    by_cases h1 : fuel < 0 ∨ 100000 < fuel
    · have HN1 := Lib.hid h1
      have hx := HD.out.symm.trans (ran_fuel HF.out h1)
      injection hx with hx1 hx2
      subst hx1 hx2
      have hBz := HB1.out
      have d0 := (hBz).cell (j := 0) rfl
      have d1 := (hBz).cell (j := 1) rfl
      have d2 := (hBz).cell (j := 2) rfl
      have d3 := (hBz).cell (j := 3) rfl
      have u0 := (hBz).thawed 0
      have u1 := (hBz).thawed 1
      have u2 := (hBz).thawed 2
      have u3 := (hBz).thawed 3
      have hzs : w.heap.size + 1 < w1.heap.size := hBz.lt
      clear hBz
      go_wp2_with (go_at_call 21; refine (in_no _ _ _ _ (by omega)).mono ?_; rintro e w' ⟨rfl, rfl⟩)
      go_loopw [8, 9] (fun s8 s9 wr => s8 = .int .i64 (2) ∧ s9 = .int .i64 0 ∧ wr = w1) (fun _ _ _ => 0)
      case atStart => exact ⟨rfl, rfl, rfl⟩
      case round =>
        obtain ⟨rfl, rfl, rfl⟩ := hrel
        go_wp2_with fail
        all_goals
          obtain ⟨wf, hwf⟩ : ∃ wf : World, wf = ((((((((wr).setCell ⟨w.heap.size + 1, 0, none⟩ (.slice none 0 0))).setCell ⟨w.heap.size + 1, 1, none⟩ (.int .i64 0))).setCell ⟨w.heap.size + 1, 2, none⟩ (.int .i64 0))).setCell ⟨w.heap.size + 1, 3, none⟩ (.int .i64 0)) := ⟨_, rfl⟩
          rw [← hwf]
          obtain ⟨hBf, hgf⟩ := put4 (HB1.out) _ _ _ _ hwf
          have HK := Lib.hid (keeps_put (HK1.out) (Nat.le_succ _) hgf)
          have HGF := Lib.hid hgf
          have e0 := (hBf).cell (j := 0) rfl
          have e1 := (hBf).cell (j := 1) rfl
          have e2 := (hBf).cell (j := 2) rfl
          have e3 := (hBf).cell (j := 3) rfl
          clear hwf hBf hgf
          exact bodyPost_ret (v := .tuple #[.agg #[.slice none 0 0, .int .i64 0, .int .i64 0, .int .i64 0], .int .i64 2]) (by simp [results, Tryd.results16, go_sem, e0, e1, e2, e3]) rfl ⟨_, rfl, zrun_at _ _, HK.out⟩
    · have hf0 : 0 ≤ fuel := by omega
      have hf1 : fuel ≤ 100000 := by omega
      have H1 := Lib.hid h1
      clear h1
      by_cases h2 : 100 < inp.length
      · have h2i : (100 : Int) < (inp.length : Int) := by omega
        have hx := HD.out.symm.trans (ran_size HF.out H1.out h2)
        injection hx with hx1 hx2
        subst hx1 hx2
        have hBz := HB1.out
        have d0 := (hBz).cell (j := 0) rfl
        have d1 := (hBz).cell (j := 1) rfl
        have d2 := (hBz).cell (j := 2) rfl
        have d3 := (hBz).cell (j := 3) rfl
        have u0 := (hBz).thawed 0
        have u1 := (hBz).thawed 1
        have u2 := (hBz).thawed 2
        have u3 := (hBz).thawed 3
        have hzs : w.heap.size + 1 < w1.heap.size := hBz.lt
        clear hBz
        go_wp2_with (go_at_call 21; refine (in_yes _ _ _ _ (by omega) (by omega)).mono ?_; rintro e w' ⟨rfl, rfl⟩)
        go_loopw [8, 9] (fun s8 s9 wr => s8 = .int .i64 (1) ∧ s9 = .int .i64 0 ∧ wr = w1) (fun _ _ _ => 0)
        case atStart => exact ⟨rfl, rfl, rfl⟩
        case round =>
          obtain ⟨rfl, rfl, rfl⟩ := hrel
          go_wp2_with fail
          all_goals
            obtain ⟨wf, hwf⟩ : ∃ wf : World, wf = ((((((((wr).setCell ⟨w.heap.size + 1, 0, none⟩ (.slice none 0 0))).setCell ⟨w.heap.size + 1, 1, none⟩ (.int .i64 0))).setCell ⟨w.heap.size + 1, 2, none⟩ (.int .i64 0))).setCell ⟨w.heap.size + 1, 3, none⟩ (.int .i64 0)) := ⟨_, rfl⟩
            rw [← hwf]
            obtain ⟨hBf, hgf⟩ := put4 (HB1.out) _ _ _ _ hwf
            have HK := Lib.hid (keeps_put (HK1.out) (Nat.le_succ _) hgf)
            have HGF := Lib.hid hgf
            have e0 := (hBf).cell (j := 0) rfl
            have e1 := (hBf).cell (j := 1) rfl
            have e2 := (hBf).cell (j := 2) rfl
            have e3 := (hBf).cell (j := 3) rfl
            clear hwf hBf hgf
            exact bodyPost_ret (v := .tuple #[.agg #[.slice none 0 0, .int .i64 0, .int .i64 0, .int .i64 0], .int .i64 1]) (by simp [results, Tryd.results16, go_sem, e0, e1, e2, e3]) rfl ⟨_, rfl, zrun_at _ _, HK.out⟩
      · have H2 := Lib.hid h2
        have hil : inp.length ≤ 100 := by omega
        clear h2
        go_upto_block 0 with (go_at_call 21; refine (in_yes _ _ _ _ (by omega) (by omega)).mono ?_; rintro e w' ⟨rfl, rfl⟩)
        go_cut [8] (fun s8 wx => s8 = .int .i64 (if inpBad inp = true then 2 else 0) ∧ wx = w1)
        case first =>
          go_wp2_with fail
          go_loopw [8, 9] (fun s8 s9 wr => ∃ (i : Nat) (e : Int), i ≤ inp.length ∧ s9 = .int .i64 i ∧ s8 = .int .i64 e ∧ ((e = 0 ∧ Hid (anyN (fun j => outM (nth inp j)) i = false)) ∨ (e = 2 ∧ Hid (inpBad inp = true))) ∧ wr = w1) (fun _ s9 _ => inp.length - (intOf s9).toNat)
          case atStart => exact ⟨0, 0, Nat.zero_le _, rfl, rfl, Or.inl ⟨rfl, Lib.hid rfl⟩, rfl⟩
          case round =>
            obtain ⟨i, e, hi, rfl, rfl, hc, rfl⟩ := hrel
            rcases hc with ⟨rfl, HA⟩ | ⟨rfl, HA⟩
            · by_cases hlt : i < inp.length
              · have c0 : ∃ ib ioff, oi = some ⟨ib, ioff, none⟩ ∧ wr.cell? ⟨ib, ioff + i, none⟩ = some (.int .i64 (nth inp i)) := by
                  obtain ⟨a9, c9, e9, -, -, -, q4⟩ := HI.out
                  cases e9
                  obtain ⟨db, doff, rfl, hc⟩ := q4 (by omega)
                  exact ⟨db, doff, rfl, HK1.out.cell (by simpa using hc i 0 hlt (by omega))⟩
                obtain ⟨ib, ioff, rfl, c0⟩ := c0
                by_cases hx : -1099511627776 ≤ nth inp i ∧ nth inp i ≤ 1099511627776
                · have hno : outM (nth inp i) = false := by unfold outM; simp; omega
                  have HNO := Lib.hid hno
                  clear hno
                  go_wp2_with (go_at_call 21; refine (in_yes _ _ _ _ (by omega) (by omega)).mono ?_; rintro e w' ⟨rfl, rfl⟩)
                  go_roundw
                  case rel => exact ⟨i + 1, 0, by omega, by go_num, rfl, Or.inl ⟨rfl, Lib.hid (by show (anyN (fun j => outM (nth inp j)) i || outM (nth inp i)) = false; rw [HA.out, HNO.out]; rfl)⟩, trivial⟩
                  case measure => simp [intOf]; omega
                · have hyes : inpBad inp = true := anyN_yes hlt (by show outM (nth inp i) = true; unfold outM; simp; omega)
                  have HY := Lib.hid hyes
                  clear hyes
                  go_wp2_with (go_at_call 21; refine (in_no _ _ _ _ (by omega)).mono ?_; rintro e w' ⟨rfl, rfl⟩)
                  go_roundw
                  case rel => exact ⟨i + 1, 2, by omega, by go_num, rfl, Or.inr ⟨rfl, HY⟩, trivial⟩
                  case measure => simp [intOf]; omega
              · obtain rfl : i = inp.length := by omega
                go_wp2_with fail
                go_meet
                case rel => exact ⟨by rw [show inpBad inp = false from HA.out]; rfl, rfl⟩
            · go_wp2_with fail
              all_goals
                go_meet
                case rel => exact ⟨by rw [HA.out]; rfl, rfl⟩
        case rest =>
          obtain ⟨rfl, hwx⟩ := hcut
          subst hwx
          obtain ⟨w1, hw1⟩ : ∃ w1 : World, w1 = wc := ⟨_, rfl⟩
          subst hw1
          cases hib : inpBad inp with
          | true =>
            rw [if_pos rfl]
            have hx := HD.out.symm.trans (ran_inp HF.out H1.out H2.out hib)
            injection hx with hx1 hx2
            subst hx1 hx2
            have hBz := HB1.out
            have d0 := (hBz).cell (j := 0) rfl
            have d1 := (hBz).cell (j := 1) rfl
            have d2 := (hBz).cell (j := 2) rfl
            have d3 := (hBz).cell (j := 3) rfl
            have u0 := (hBz).thawed 0
            have u1 := (hBz).thawed 1
            have u2 := (hBz).thawed 2
            have u3 := (hBz).thawed 3
            have hzs : w.heap.size + 1 < w1.heap.size := hBz.lt
            clear hBz
            go_wp2_with fail
            obtain ⟨wf, hwf⟩ : ∃ wf : World, wf = ((((((((w1).setCell ⟨w.heap.size + 1, 0, none⟩ (.slice none 0 0))).setCell ⟨w.heap.size + 1, 1, none⟩ (.int .i64 0))).setCell ⟨w.heap.size + 1, 2, none⟩ (.int .i64 0))).setCell ⟨w.heap.size + 1, 3, none⟩ (.int .i64 0)) := ⟨_, rfl⟩
            rw [← hwf]
            obtain ⟨hBf, hgf⟩ := put4 (HB1.out) _ _ _ _ hwf
            have HK := Lib.hid (keeps_put (HK1.out) (Nat.le_succ _) hgf)
            have HGF := Lib.hid hgf
            have e0 := (hBf).cell (j := 0) rfl
            have e1 := (hBf).cell (j := 1) rfl
            have e2 := (hBf).cell (j := 2) rfl
            have e3 := (hBf).cell (j := 3) rfl
            clear hwf hBf hgf
            exact bodyPost_ret (v := .tuple #[.agg #[.slice none 0 0, .int .i64 0, .int .i64 0, .int .i64 0], .int .i64 2]) (by simp [results, Tryd.results16, go_sem, e0, e1, e2, e3]) rfl ⟨_, rfl, zrun_at _ _, HK.out⟩
          | false =>
            rw [if_neg (by simp)]
            have HIB := Lib.hid hib
            clear hib
            have hg := imgGood m HF.out
            have HG := Lib.hid hg
            have hfn := hg.funcs
            have hdn := hg.data
            obtain ⟨n, rfl⟩ : ∃ n : Nat, E = n := ⟨E.toNat, by have := hg.entry; have := HE.out; omega⟩
            have hnl : n < m.Funcs.length := by have := hg.entry; have := HE.out; omega
            have hnl2 : (n : Int) < (m.Funcs.length : Int) := by omega
            obtain ⟨a9, c9, e9, q1, q2, q3, q4⟩ := HX1.out
            cases e9
            obtain ⟨fb, foff, rfl, hc⟩ := q4 (by omega)
            have s0 : w1.cell? ⟨fb, foff + n * 3 + 1, none⟩ = some (.int .i64 (nth m.Funcs n).Start) := HK1.out.cell (hc n 1 hnl (by omega))
            clear hc q1 q2 q3 q4 hg hs1
            have hmk : ∀ w', (Instr.makeSlice 102 (.int .i64 8) (.int .i64 8)).run Tryd.prog w' = .ok (.slice (some ⟨w'.heap.size, 0, none⟩) 8 8) (w'.alloc (.cells #[.int .i64 0, .bool false, .int .i64 0, .bool false, .int .i64 0, .bool false, .int .i64 0, .bool false, .int .i64 0, .bool false, .int .i64 0, .bool false, .int .i64 0, .bool false, .int .i64 0, .bool false] 100)) := fun _ => by kernel_rfl
            go_upto_region 14 with fail
            obtain ⟨w4, hw4, hBR, hk4⟩ : ∃ w4, w4 = w1.alloc (.cells #[.int .i64 0, .bool false, .int .i64 0, .bool false, .int .i64 0, .bool false, .int .i64 0, .bool false, .int .i64 0, .bool false, .int .i64 0, .bool false, .int .i64 0, .bool false, .int .i64 0, .bool false] 100) ∧ Blk w4 w1.heap.size (.cells #[.int .i64 0, .bool false, .int .i64 0, .bool false, .int .i64 0, .bool false, .int .i64 0, .bool false, .int .i64 0, .bool false, .int .i64 0, .bool false, .int .i64 0, .bool false, .int .i64 0, .bool false] 100) ∧ Keeps w1 w4 := ⟨_, rfl, Blk.top _ _, (Keeps.refl _).alloc _⟩
            rw [← hw4]
            have HBR := Lib.hid hBR
            have HK4 := Lib.hid hk4
            have HB34 := Lib.hid (HB31.out.keep hk4)
            have HX34 : Hid (Ints w4 _ m.Data) := Lib.hid (Arr.keep HX3.out (HK1.out.trans hk4))
            have s0 := hk4.cell s0
            clear hw4 hBR hk4 hmk
            go_wp2_with fail
            go_loopw [11, 12] (fun s11 s12 wr => ∃ (k : Nat) (vd : Value), k ≤ m.Data.length ∧ s12 = .int .i64 k ∧ s11 = vd ∧ Own wr w4.heap.size 100 2 cvl vd ((m.Data.take k).map mkV) ∧ Keeps w4 wr) (fun _ s12 _ => m.Data.length - (intOf s12).toNat)
            case atStart => exact ⟨0, _, Nat.zero_le _, rfl, rfl, Own.nil _ _ _ _ _, Keeps.refl _⟩
            case round =>
              obtain ⟨k, vd, hk, rfl, rfl, ho, hkr⟩ := hrel
              obtain ⟨LK, hLK⟩ : ∃ L, L = (m.Data.take k).map mkV := ⟨_, rfl⟩
              rw [← hLK] at ho
              obtain ⟨ad, cd, ed⟩ := own_form' ho
              subst ed
              have hlen2 : LK.length ≤ 64 := by rw [hLK]; simp; omega
              have hsw := hkr.size
              have g0 := (HB34.out.keep hkr).cell (j := 0) rfl
              have g1 := (HB34.out.keep hkr).cell (j := 1) rfl
              have g2 := (HB34.out.keep hkr).cell (j := 2) rfl
              have g3 := (HB34.out.keep hkr).cell (j := 3) rfl
              have g4 := (HB34.out.keep hkr).cell (j := 4) rfl
              have g5 := (HB34.out.keep hkr).cell (j := 5) rfl
              have HO := Lib.hid ho
              have HLK := Lib.hid hLK
              have HKR := Lib.hid hkr
              clear ho hLK
              by_cases hlt : k < m.Data.length
              · as_aux_lemma =>
                have c0 : ∃ db doff, o3 = some ⟨db, doff, none⟩ ∧ wr.cell? ⟨db, doff + k, none⟩ = some (.int .i64 (nth m.Data k)) := by
                  obtain ⟨a9, c9, e9, -, -, -, q4⟩ := HX34.out
                  cases e9
                  obtain ⟨db, doff, rfl, hc⟩ := q4 (by omega)
                  exact ⟨db, doff, rfl, hkr.cell (by simpa using hc k 0 hlt (by omega))⟩
                obtain ⟨db, doff, rfl, c0⟩ := c0
                have HS := Lib.hid (take_map m.Data k hlt)
                clear hkr
                go_wp2_with (at_builtin; refine wpList_pushes (by rfl) (.tmp 69) (.tmp 76) 102 (by rfl) Tryd.underlying102 info_val (by rfl) (by decide) (base := w4.heap.size) (f := cvl) (l := LK) (by rfl) (by exact HO.out.keep (by repeat (with_reducible (first | assumption | exact Keeps.refl _ | refine Keeps.alloc ?_ _ | refine Keeps.drew ?_ | refine Keeps.drewN ?_ _ | refine Keeps.trans' ?_ (by assumption) (by assumption))))) [⟨nth m.Data k, false⟩] _ _ (by rfl) (by exact Blk.top' _ _ (by first | rfl | simp)) cvl_len cvl_one (by simp only [List.length_cons, List.length_nil]; omega) (by simp only [List.length_cons, List.length_nil]; unfold maxLen; omega) (by first | omega | (simp only [sz_alloc]; omega) | (simp only [sz_drew]; omega) | (simp only [sz_alloc, sz_drew]; omega) | (simp only [sz_alloc, sz_drewN]; omega)) ?_; intro v7 wp7 hown7 hbel7 hgr7 hfr7; obtain ⟨ap7, cp7, rfl⟩ := own_form' hown7; have HO7 := Lib.hid hown7; have HBL7 := Lib.hid hbel7; clear hown7 hbel7 hgr7 hfr7)
                go_roundw
                case rel =>
                  have e := HS.out
                  rw [← HLK.out] at e
                  have hb7 : Keeps w4 wp7 := Below.trans HKR.out (Below.trans (Below.mono ((Keeps.refl wr).alloc _) hsw) HBL7.out)
                  exact ⟨k + 1, _, by omega, by go_num, rfl, by rw [e]; simpa using HO7.out, hb7⟩
                case measure => simp [intOf]; omega
              · obtain rfl : k = m.Data.length := by omega
                rw [List.take_length] at HLK
                have s0 := hkr.cell s0
                go_upto_block 4 with fail
                obtain ⟨rb, hrb⟩ : ∃ rb, rb = w1.heap.size := ⟨_, rfl⟩
                obtain ⟨ob, hob⟩ : ∃ ob, ob = wr.heap.size := ⟨_, rfl⟩
                obtain ⟨w6, hw6, hB6, hk6⟩ : ∃ w6, w6 = wr.alloc (.cells #[.slice none 0 0, .int .i64 0, .int .i64 0, .int .i64 0] 46) ∧ Blk w6 wr.heap.size (.cells #[.slice none 0 0, .int .i64 0, .int .i64 0, .int .i64 0] 46) ∧ Keeps wr w6 := ⟨_, rfl, Blk.top _ _, (Keeps.refl _).alloc _⟩
                rw [← hob] at hB6
                have hen : m.Entry.toNat = n := by rw [← HE.out]; exact Int.toNat_natCast n
                have em0 : mach0 m inp = ⟨List.replicate 8 ⟨0, false⟩, m.Data.map mkV, inp, (nth m.Funcs n).Start, []⟩ := by unfold mach0; rw [hen]; rfl
                have hbr4 := HBR.out.lt
                have hm0 : RAt w1.heap.size w1 rb ob (mach0 m inp) (.slice ad LK.length cd) (.slice none 0 0) 0 0 0 w6 := by
                  rw [em0, ← HLK.out]
                  have hreg : Blk w6 rb (.cells #[.int .i64 0, .bool false, .int .i64 0, .bool false, .int .i64 0, .bool false, .int .i64 0, .bool false, .int .i64 0, .bool false, .int .i64 0, .bool false, .int .i64 0, .bool false, .int .i64 0, .bool false] 100) := by rw [hrb]; exact (HBR.out.keep HKR.out).keep hk6
                  refine ⟨(HK4.out.trans HKR.out).trans hk6, ((HK4.out.trans HKR.out).trans hk6).size, Nat.le_of_eq hrb.symm, by have := (HK4.out.trans HKR.out).size; omega, hreg, hB6, (HO.out.mono HK4.out.size).keep hk6, Own.nil _ _ _ _ _, by omega, fun e => by have := HO.out.row _ e; omega, fun e => by have := own_lt' HO.out e; omega, (fun e => by cases e), (fun e => by cases e), (fun _ _ e => by cases e)⟩
                have hok0 := (mach0_ok HG.out HIB.out).1
                obtain ⟨F, rfl⟩ : ∃ F : Nat, fuel = F := ⟨fuel.toNat, by omega⟩
                obtain ⟨R, hR⟩ : ∃ R, runS m F (mach0 m inp) = R := ⟨_, rfl⟩
                have hx := HD.out.symm.trans (ran_run HF.out H1.out H2.out HIB.out)
                rw [Int.toNat_natCast, hR] at hx
                injection hx with hx1 hx2
                subst hx2
                have HMI := Lib.hid hx1
                have HR0 := Lib.hid hR
                have HM00 := Lib.hid hm0
                have HOK0 := Lib.hid hok0
                have HPC0 := Lib.hid (show (mach0 m inp).pc = (nth m.Funcs n).Start by rw [em0])
                have HX0w : Hid (Bytes w1 _ m.Text) := Lib.hid (Arr.keep HX0.out HK1.out)
                have HX2w := Lib.hid (HX2.out.keep HK1.out)
                have HIw : Hid (Ints w1 _ inp) := Lib.hid (Arr.keep HI.out HK1.out)
                have hF : F ≤ 100000 := by omega
                have hF2 : (F : Int) ≤ 100000 := by omega
                have HW6 := Lib.hid hw6
                have HRB := Lib.hid hrb
                have HOB := Lib.hid hob
                rw [← hrb, ← hob, ← hw6]
                clear hx1 hR hm0 hok0 em0 hen hB6 hk6 hw6 hrb hob g0 g1 g2 g3 g4 g5 hlen2 hsw hf0 hf1 s0 hbr4
                go_wp2_with fail
                go_loopw [13, 14] (fun s13 s14 wr => ∃ (k : Nat) (s : Mach) (rd : Nat) (vt : Value) (at2 : Int), k ≤ F ∧ s13 = .int .i64 s.pc ∧ s14 = .int .i64 rd ∧ rd ≤ inp.length ∧ Hid (s.inp = inp.drop rd) ∧ RAt w1.heap.size w1 rb ob s (.slice ad LK.length cd) vt 0 ((F : Int) - k) at2 wr ∧ MachOk s ∧ s.told.length + k ≤ F ∧ Hid (runS m k s = R)) (fun _ _ wr => meas2 ob wr)
                case atStart => exact ⟨F, mach0 m inp, 0, _, 0, Nat.le_refl _, by rw [HPC0.out], rfl, Nat.zero_le _, Lib.hid rfl, by rw [Int.sub_self]; exact HM00.out, HOK0.out, by show 0 + F ≤ F; omega, HR0⟩
                case round =>
                  obtain ⟨k, s, rd, vt, at2, hkF, e13, e14, hrd, HIN, hm, hok, htl, HR⟩ := hrel
                  rw [ranAct_of]
                  refine ran_abs (m := m) (R := R) (fun Post HPO => ?_) (fun us w' hr hq => ⟨⟨us 7, us 13, us 14, us 16, us 17, us 18, us 19, us 20, us 21, us 22, us 23, us 24, us 86, us 87, us 88, us 89, us 90, us 91, us 92, us 93, us 94, us 95, us 96, us 97, us 98, us 99, us 100, us 101, us 102, us 103, us 104, us 105, us 106, us 107, us 108, us 109, us 110, us 111, us 112, us 113, us 114, us 115, us 116, us 117, us 118, us 119, us 120, us 121, us 122, us 123, us 124, us 125, us 126, us 127, us 128, us 129, us 130, us 131, us 132, us 133, us 134, us 135, us 136, us 137, us 138, us 139, us 140, us 141, us 142, us 143, us 144, us 145, us 146, us 147, us 148, us 149, us 150, us 151, us 152, us 153, us 154, us 155, us 156, us 157, us 158, us 159, us 160, us 161, us 162, us 163, us 164, us 165, us 166, us 167, us 168, us 169, us 170, us 171, us 172, us 173, us 174, us 175, us 176, us 177, us 178, us 179, us 180, us 181, us 182, us 183, us 184, us 185, us 186, us 187, us 188, us 189, us 190, us 191, us 192, us 193, us 194, us 195, us 196, us 197, us 198, us 199, us 200, us 201, us 202, us 203, us 204, us 205, us 206, us 207, us 208, us 209, us 210, us 211, us 212, us 213, us 214, us 215, us 216, us 217, us 218, us 219, us 220, us 221, us 222, us 223, us 224, us 225, us 226, us 227, us 228, us 229, us 230, us 231, us 232, us 233, us 234, us 235, us 236, us 237, us 238, us 239, us 240, us 241, us 242, us 243, us 244, us 245, us 246, us 247, us 248, us 249, us 250, us 251, us 252, us 253, us 254, us 255, us 256, us 257, us 258, us 259, us 260, us 261, us 262, us 263, us 264, us 265, us 266, us 267, us 268, us 269, us 270, us 271, us 272, us 273, us 274, us 275, us 276, us 277, us 278, us 279, us 280, us 281, us 282, us 283, us 284, us 285, us 286, us 287, us 288, us 289, us 290, us 291, us 292, us 293, us 294, us 295, us 296, us 297, us 298, us 299, us 300, us 301, us 302, us 303, us 304, us 305, us 306, us 307, us 308, us 309, us 310, us 311, us 312, us 313, us 314, us 315, us 316, us 317, us 318, us 319, us 320, us 321, us 322, us 323, us 324, us 325, us 326, us 327, us 328, us 329, us 330, us 331, us 332, us 333, us 334, us 335, us 336, us 337, us 338, us 339, us 340, us 341, us 342, us 343, us 344, us 345, us 346, us 347, us 348, us 349, us 350, us 351, us 352, us 353, us 354, us 355, us 356, us 357, us 358, us 359, us 360, us 361, us 362, us 363, us 364, us 365, us 366, us 367, us 368, us 369, us 370, us 371, us 372, us 373, us 374, us 375, us 376, us 377, us 378, us 379, us 380, us 381, us 382, us 383, us 384, us 385, us 386, us 387, us 388, us 389, us 390, us 391, us 392, us 393, us 394, us 395, us 396, us 397, us 398, us 399, us 400, us 401, us 402, us 403, us 404, us 405, us 406, us 407, us 408, us 409, us 410, us 411, us 412, us 413, us 414, us 415, us 416, us 417, us 418, us 419, us 420, us 421, us 422, us 423, us 424, us 425, us 426, us 427, us 428, us 429, us 430, us 431, us 432, us 433, us 434, us 435, us 436, us 437, us 438, us 439, us 440, us 441, us 442, us 443, us 444, us 445, hr, rfl⟩, hq⟩)
                  cases k with
                  | zero =>
                    refine ran_spent HB31 HB1 HK1 HG HX0w HX2w HIw HMI hl hil hF hF2 HPO e13 e14 hkF hrd HIN hm hok htl HR
                  | succ k =>
                    obtain ⟨⟨⟨K, D, A, Q, N, Lg⟩, nn, ee⟩, hda⟩ : ∃ r, decAns m.Text s.pc = r := ⟨_, rfl⟩
                    have HDA := Lib.hid hda
                    clear hda
                    by_cases he : ee = 0
                    · subst he
                      have hz := decAns_ok (l := m.Text) (x := s.pc) (by rw [HDA.out])
                      rw [HDA.out] at hz
                      obtain ⟨-, -, -, -, -, -, -, k0, k1, -⟩ := hz.2.2.1
                      clear hz
                      dsimp only at k0 k1
                      rcases (show K = 1 ∨ K = 2 ∨ (K = 3 ∨ K = 4 ∨ K = 5) ∨ (K = 6 ∨ K = 7 ∨ K = 8) ∨ (K = 9 ∨ K = 10) ∨ (K = 11 ∨ K = 12 ∨ K = 13) ∨ (K = 14 ∨ K = 15) ∨ (K = 16 ∨ K = 17 ∨ K = 22) ∨ (K = 18 ∨ K = 19) ∨ (K = 20 ∨ K = 21) ∨ (K = 23 ∨ K = 24) by omega) with rfl | rfl | hK | hK | hK | hK | hK | hK | hK | hK | hK
                      · refine ran_halt HB31 HB1 HK1 HG HX0w HX2w HIw HMI hl hil hF hF2 HPO e13 e14 hkF hrd HIN hm hok htl HR HDA
                      · refine ran_trap HB31 HB1 HK1 HG HX0w HX2w HIw HMI hl hil hF hF2 HPO e13 e14 hkF hrd HIN hm hok htl HR HDA
                      · refine ran_roundA HB31 HB1 HK1 HG HX0w HX2w HIw HMI hl hil hF hF2 HPO e13 e14 hkF hrd HIN hm hok htl HR HDA hK
                      · refine ran_roundB HB31 HB1 HK1 HG HX0w HX2w HIw HMI hl hil hF hF2 HPO e13 e14 hkF hrd HIN hm hok htl HR HDA hK
                      · refine ran_roundC HB31 HB1 HK1 HG HX0w HX2w HIw HMI hl hil hF hF2 HPO e13 e14 hkF hrd HIN hm hok htl HR HDA hK
                      · refine ran_roundD HB31 HB1 HK1 HG HX0w HX2w HIw HMI hl hil hF hF2 HPO e13 e14 hkF hrd HIN hm hok htl HR HDA hK
                      · refine ran_roundE HB31 HB1 HK1 HG HX0w HX2w HIw HMI hl hil hF hF2 HPO e13 e14 hkF hrd HIN hm hok htl HR HDA hK
                      · refine ran_roundF HB31 HB1 HK1 HG HX0w HX2w HIw HMI hl hil hF hF2 HPO e13 e14 hkF hrd HIN hm hok htl HR HDA hK
                      · refine ran_roundG HB31 HB1 HK1 HG HX0w HX2w HIw HMI hl hil hF hF2 HPO e13 e14 hkF hrd HIN hm hok htl HR HDA hK
                      · refine ran_roundH HB31 HB1 HK1 HG HX0w HX2w HIw HMI hl hil hF hF2 HPO e13 e14 hkF hrd HIN hm hok htl HR HDA hK
                      · refine ran_roundI HB31 HB1 HK1 HG HX0w HX2w HIw HMI hl hil hF hF2 HPO e13 e14 hkF hrd HIN hm hok htl HR HDA hK
                    · refine ran_code HB31 HB1 HK1 HG HX0w HX2w HIw HMI hl hil hF hF2 HPO e13 e14 hkF hrd HIN hm hok htl HR HDA he
  · have HF := Lib.hid hf
    have tf : (imgFault m == 0) = false := by simpa using hf
    have HRB := Lib.hid (ran_bad (inp := inp) (fuel := fuel) hf)
    generalize imgFault m = fe at *
    have hne : ¬ fe = 0 := hf
    clear hf
    have hx := HD.out.symm.trans (HRB.out)
    injection hx with hx1 hx2
    subst hx1 hx2
    have hBz := HB1.out
    have d0 := (hBz).cell (j := 0) rfl
    have d1 := (hBz).cell (j := 1) rfl
    have d2 := (hBz).cell (j := 2) rfl
    have d3 := (hBz).cell (j := 3) rfl
    have u0 := (hBz).thawed 0
    have u1 := (hBz).thawed 1
    have u2 := (hBz).thawed 2
    have u3 := (hBz).thawed 3
    have hzs : w.heap.size + 1 < w1.heap.size := hBz.lt
    clear hBz
    go_wp2_with fail
    go_loopw [8, 9] (fun s8 s9 wr => s8 = .int .i64 (er) ∧ s9 = .int .i64 0 ∧ wr = w1) (fun _ _ _ => 0)
    case atStart => exact ⟨rfl, rfl, rfl⟩
    case round =>
      obtain ⟨rfl, rfl, rfl⟩ := hrel
      go_wp2_with fail
      all_goals
        obtain ⟨wf, hwf⟩ : ∃ wf : World, wf = ((((((((wr).setCell ⟨w.heap.size + 1, 0, none⟩ (.slice none 0 0))).setCell ⟨w.heap.size + 1, 1, none⟩ (.int .i64 0))).setCell ⟨w.heap.size + 1, 2, none⟩ (.int .i64 0))).setCell ⟨w.heap.size + 1, 3, none⟩ (.int .i64 0)) := ⟨_, rfl⟩
        rw [← hwf]
        obtain ⟨hBf, hgf⟩ := put4 (HB1.out) _ _ _ _ hwf
        have HK := Lib.hid (keeps_put (HK1.out) (Nat.le_succ _) hgf)
        have HGF := Lib.hid hgf
        have e0 := (hBf).cell (j := 0) rfl
        have e1 := (hBf).cell (j := 1) rfl
        have e2 := (hBf).cell (j := 2) rfl
        have e3 := (hBf).cell (j := 3) rfl
        clear hwf hBf hgf
        exact bodyPost_ret (v := .tuple #[.agg #[.slice none 0 0, .int .i64 0, .int .i64 0, .int .i64 0], .int .i64 er]) (by simp [results, Tryd.results16, go_sem, e0, e1, e2, e3]) rfl ⟨_, rfl, zrun_at _ _, HK.out⟩
end Go.Proofs.YtpgifkhgefbnfaaDoor
