/-
  The document's MappedOf: the same edges, in a sorted list into which each count is put.
-/
import Derived.Test.YtjnhiiidcjajbaaGreatDoorTalMap
import Derived.Test.YtjnhiiidcjajbaaGreatDoorTalMapQ
import Derived.Test.YtjnhiiidcjajbaaGreatDoorIn
import Derived.Test.YtjnhiiidcjajbaaGreatDoorRegHead
namespace Go.Proofs.YtjnhiiidcjajbaaGreatDoor
open Go.RowKit BH
set_option maxHeartbeats 1000000000
set_option maxRecDepth 100000
theorem cnt_in {f : Fl} {l : List Ed} (hc : ∀ i, i < l.length → badC (nth l i) = false) {k : Nat} (hk : k ≤ l.length) {e : Ed} (he : e ∈ (l.take k).foldl (stepD f (nx f)) []) : 0 ≤ e.Count ∧ e.Count ≤ 1073741824 := by
  have h := alike_all f l hc k hk
  have h1 := (h.mem (keyE e) e.Count).1 (show (⟨(keyE e).1, (keyE e).2, e.Count⟩ : Ed) ∈ _ from he)
  exact h.val _ _ h1.1
theorem mapRef_any {f : Fl} {l : List Ed} {vf vl : Value} {w : World} (hf : FlowAt w vf f) (hl : Edges w vl l) (hs : FlowSmall f) :
    Calls Tryz.prog 8 #[vf, vl] w (GivesN (fun v w' => Edges w' v (mapS f l)) (mapE l) w) := by
  have HFL := Lib.hid hf
  have HSM := Lib.hid hs
  obtain ⟨v0, v1, v2, rfl, ⟨cv, av, lv, ⟨ao, cap, rfl, b1, b2, -, b3⟩, bi⟩, ⟨tv, ⟨tao, tcap, rfl, -⟩, -⟩, hF⟩ := hf
  obtain ⟨fao, fcap, rfl, -⟩ := hF
  obtain ⟨lao, lcap, rfl, l1, l2, -, l3⟩ := hl
  have hnB := hs.1
  unfold maxLen at b2 l2
  have HB3 := Lib.hid b3
  have HBI := Lib.hid bi
  have HL3 := Lib.hid l3
  clear b3 bi l3 hs
  obtain ⟨W, hW, hBX, hk0⟩ : ∃ W, W = w.alloc (.cells #[.slice ao f.Blocks.length cap, .slice tao f.Tables.length tcap, .slice fao f.Firsts.length fcap] 26) ∧ Blk W w.heap.size (.cells #[.slice ao f.Blocks.length cap, .slice tao f.Tables.length tcap, .slice fao f.Firsts.length fcap] 26) ∧ Keeps w W := ⟨_, rfl, Blk.top _ _, (Keeps.refl _).alloc _⟩
  obtain ⟨xb, hxb⟩ : ∃ xb, xb = w.heap.size := ⟨_, rfl⟩
  rw [← hxb] at hBX
  have HXB := Lib.hid hxb
  have HW := Lib.hid hW
  have HBX := Lib.hid hBX
  have HK0 := Lib.hid hk0
  have hxW : xb < W.heap.size := hBX.lt
  clear hW hBX hk0 hxb
  by_cases hbig : 4000 < l.length
  · have hE : mapE l = 1 := by unfold mapE; rw [if_pos hbig]
    have hS : mapS f l = [] := by unfold mapS; rw [hE]; rfl
    rw [hE, hS]
    have t0 : decide (4000 < (l.length : Int)) = true := decide_eq_true (by omega)
    have t0n : decide (4000 < l.length) = true := decide_eq_true (by omega)
    clear hE hS
    go_enter Tryz.func8, Tryz.ntmps8
    go_wp2_with fail
    refine bodyPost_ret (results_tmp2 rfl _ _ _) rfl ?_
    exact ⟨.slice none 0 0, rfl, edges_nil _, (by repeat (with_reducible (first | assumption | exact Keeps.refl _ | refine Keeps.alloc ?_ _ | refine Keeps.drew ?_ | refine Keeps.drewN ?_ _)))⟩
  · have t0 : decide (4000 < (l.length : Int)) = false := decide_eq_false (by omega)
    have t0n : decide (4000 < l.length) = false := decide_eq_false (by omega)
    have hll : l.length ≤ 4000 := by omega
    have HE0 : Hid (mapE l = if anyN (fun i => badC (nth l i)) l.length = true then 2 else 0) := Lib.hid (by unfold mapE; rw [if_neg hbig])
    clear hbig
    go_enter Tryz.func8, Tryz.ntmps8
    go_upto_region 1 with fail
    rw [← HW.out, ← HXB.out]
    go_upto_block 0 with fail
    clear t0 t0n
    go_cut [] (fun wx => Hid (∀ i, i < l.length → badC (nth l i) = false) ∧ W = wx)
    case first =>
      go_wp2_with fail
      go_loopw [6] (fun s6 wr => ∃ k : Nat, k ≤ l.length ∧ s6 = .int .i64 k ∧ Hid (∀ i, i < k → badC (nth l i) = false) ∧ W = wr) (fun s6 _ => l.length - (intOf s6).toNat)
      case atStart => exact ⟨0, Nat.zero_le _, rfl, Lib.hid (fun i hi => absurd hi (Nat.not_lt_zero _)), rfl⟩
      case round =>
        obtain ⟨k, hk, rfl, HOK, rfl⟩ := hrel
        by_cases hlt : k < l.length
        · have hltz : (k : Int) < (l.length : Int) := by omega
          obtain ⟨eb0, eo0, rfl, ec⟩ := HL3.out (by omega)
          obtain ⟨⟨eF, eT, eC⟩, hE⟩ : ∃ E, E = nth l k := ⟨_, rfl⟩
          have p2 : W.cell? ⟨eb0, eo0 + k * 3 + 2, none⟩ = some (.int .i64 eC) := by have z := HK0.out.cell (ec k 2 hlt (by omega)); rw [← hE] at z; exact z
          by_cases hb : eC < 0 ∨ 1073741824 < eC
          · have hIN := fun w => in_no eC 0 1073741824 w hb
            have hany : mapE l = 2 := by
              rw [HE0.out, if_pos]
              exact anyN_yes hlt (by rw [← hE]; exact decide_eq_true hb)
            have hS : mapS f l = [] := by unfold mapS; rw [hany]; rfl
            have HA := Lib.hid hany
            have HS := Lib.hid hS
            have HIN := Lib.hid hIN
            clear ec hb hIN hany hS hE
            go_wp2_with (go_at_call 20; refine (HIN.out _).mono ?_; rintro e wa ⟨rfl, rfl⟩)
            refine bodyPost_ret (results_tmp2 rfl _ _ _) rfl ?_
            exact ⟨.slice none 0 0, by rw [HA.out]; rfl, by rw [HS.out]; exact edges_nil _, HK0.out⟩
          · have hIN := fun w => in_yes eC 0 1073741824 w (by omega) (by omega)
            have hok : ∀ i, i < k + 1 → badC (nth l i) = false := fun i hi => by
              by_cases q : i = k
              · subst q; rw [← hE]; exact decide_eq_false hb
              · exact HOK.out i (by omega)
            have HOK2 := Lib.hid hok
            have HIN := Lib.hid hIN
            clear ec hb hIN hok hE
            go_wp2_with (go_at_call 20; refine (HIN.out _).mono ?_; rintro e wa ⟨rfl, rfl⟩)
            go_roundw
            case rel => exact ⟨k + 1, by omega, by go_num, HOK2, by first | rfl | trivial⟩
            case measure => simp [intOf]; omega
        · obtain rfl : k = l.length := by omega
          go_wp2_with fail
          go_meet
          case rel => exact ⟨HOK, by first | rfl | trivial⟩
    case rest =>
      obtain ⟨HOKC, hWc⟩ := hcut
      subst hWc
      have hE : mapE l = 0 := by
        rw [HE0.out, if_neg]
        rw [anyN_no (fun j hj => HOKC.out j hj)]
        exact Bool.false_ne_true
      have hS : mapS f l = l.foldl (stepD f (nx f)) [] := by unfold mapS; rw [if_pos hE]
      have HE2 := Lib.hid hE
      have HS2 := Lib.hid hS
      clear hE hS HE0
      go_wp2_with fail
      go_loopw [7, 8] (fun s7 s8 wr => ∃ k : Nat, k ≤ l.length ∧ s8 = .int .i64 k ∧ Hid (Own wr W.heap.size 43 3 ced s7 ((l.take k).foldl (stepD f (nx f)) [])) ∧ Hid (Keeps W wr)) (fun _ s8 _ => l.length - (intOf s8).toNat)
      case atStart => exact ⟨0, Nat.zero_le _, rfl, Lib.hid (Own.nil _ _ _ _ _), Lib.hid (Keeps.refl _)⟩
      case round =>
        obtain ⟨k, hk, rfl, HOW, HKW⟩ := hrel
        obtain ⟨D, hD⟩ : ∃ D, D = (l.take k).foldl (stepD f (nx f)) [] := ⟨_, rfl⟩
        rw [← hD] at HOW
        by_cases hlt : k < l.length
        case neg =>
          obtain rfl : k = l.length := by omega
          rw [List.take_length] at hD
          have hfin : mapS f l = D := by rw [HS2.out, hD]
          have HFIN := Lib.hid hfin
          obtain ⟨a7, c7, e7⟩ := own_form' HOW.out
          subst e7
          clear hD hfin
          go_wp2_with fail
          refine bodyPost_ret (results_tmp2 rfl _ _ _) rfl ?_
          exact ⟨_, by rw [HE2.out]; rfl, by rw [HFIN.out]; exact own_ed HOW.out, HK0.out.trans HKW.out⟩
        case pos =>
        have hltz : (k : Int) < (l.length : Int) := by omega
        have hDl : D.length ≤ k := by have := fold_len f (nx f) (l.take k) []; rw [← hD, List.length_take] at this; simp at this; omega
        have hcnt : ∀ e ∈ D, 0 ≤ e.Count ∧ e.Count ≤ 1073741824 := fun e he => cnt_in HOKC.out (Nat.le_of_lt hlt) (by rw [← hD]; exact he)
        have hnext : (l.take (k + 1)).foldl (stepD f (nx f)) [] = stepD f (nx f) D (nth l k) := by rw [take_succ_nth _ _ hlt, List.foldl_append, ← hD]; rfl
        have hkw : Keeps w wr := HK0.out.trans HKW.out
        obtain ⟨eb0, eo0, rfl, ec⟩ := HL3.out (by omega)
        have hcb := HOKC.out k hlt
        obtain ⟨⟨eF, eT, eC⟩, hE⟩ : ∃ E, E = nth l k := ⟨_, rfl⟩
        rw [← hE] at hcb hnext
        have p0 : wr.cell? ⟨eb0, eo0 + k * 3, none⟩ = some (.int .i64 eF) := by have z := hkw.cell (ec k 0 hlt (by omega)); rw [← hE] at z; exact z
        have p1 : wr.cell? ⟨eb0, eo0 + k * 3 + 1, none⟩ = some (.int .i64 eT) := by have z := hkw.cell (ec k 1 hlt (by omega)); rw [← hE] at z; exact z
        have p2 : wr.cell? ⟨eb0, eo0 + k * 3 + 2, none⟩ = some (.int .i64 eC) := by have z := hkw.cell (ec k 2 hlt (by omega)); rw [← hE] at z; exact z
        have pW2 : W.cell? ⟨eb0, eo0 + k * 3 + 2, none⟩ = some (.int .i64 eC) := by have z := HK0.out.cell (ec k 2 hlt (by omega)); rw [← hE] at z; exact z
        have HPW := Lib.hid pW2
        have heb : eb0 < wr.heap.size := lt_of_cell p0
        have HP0 := Lib.hid p0
        have HP1 := Lib.hid p1
        have HP2 := Lib.hid p2
        have x0 := (HBX.out.keep HKW.out).cell (j := 0) rfl
        have x1 := (HBX.out.keep HKW.out).cell (j := 1) rfl
        have x2 := (HBX.out.keep HKW.out).cell (j := 2) rfl
        have hxl := (HBX.out.keep HKW.out).lt
        have HX0 := Lib.hid x0
        unfold badC at hcb
        simp only [decide_eq_false_iff_not] at hcb
        have hC0 : 0 ≤ eC ∧ eC ≤ 1073741824 := by omega
        obtain ⟨A0, hA0⟩ : ∃ A, A = fromI f eF f.Blocks.length := ⟨_, rfl⟩
        obtain ⟨B0, hB0⟩ : ∃ B, B = toI f eT f.Blocks.length := ⟨_, rfl⟩
        have hAb := fromI_bd f eF f.Blocks.length
        have hBb := toI_bd f eT f.Blocks.length
        have hst : stepD f (nx f) D ⟨eF, eT, eC⟩ = if (0 ≤ A0 ∧ 0 ≤ B0 ∧ B0 ∈ nx f A0) ∧ eC ≠ 0 then addD (A0, B0) eC D else D := by
          unfold stepD
          by_cases q : goes f (nx f) ⟨eF, eT, eC⟩ ∧ eC ≠ 0
          · rw [if_pos q, if_pos (by rw [hA0, hB0]; exact q)]; unfold placeE; rw [hA0, hB0]
          · rw [if_neg q, if_neg (by rw [hA0, hB0]; exact q)]
        rw [← hA0] at hAb
        rw [← hB0] at hBb
        obtain ⟨N, hN⟩ : ∃ N, N = D.length := ⟨_, rfl⟩
        obtain ⟨a7, c7, e7⟩ := own_form' HOW.out
        rw [← hN] at e7 hDl
        subst e7
        have HN := Lib.hid hN
        have HA0 := Lib.hid hA0
        have HB0 := Lib.hid hB0
        have HST := Lib.hid (hnext.trans hst)
        have HCNT := Lib.hid hcnt
        have HKR := Lib.hid hkw
        obtain ⟨wo, hwo⟩ : ∃ wo : World, wo = wr := ⟨_, rfl⟩
        subst hwo
        clear ec hE hcb hnext hD hN hcnt hkw hA0 hB0 hst p0 p1 p2 x1 x2 pW2
        go_upto_block 4 with fail
        go_cut [9, 10] (fun s9 s10 wx => s9 = .int .i64 A0 ∧ s10 = .int .i64 B0 ∧ Hid (Keeps wo wx))
        case first =>
          as_aux_lemma =>
            go_wp2_with fail
            go_loopw [9, 10, 11] (fun s9 s10 s11 wr => ∃ j : Nat, j ≤ f.Blocks.length ∧ s9 = .int .i64 (fromI f eF j) ∧ s10 = .int .i64 (toI f eT j) ∧ s11 = .int .i64 j ∧ Hid (Keeps wo wr)) (fun _ _ s11 _ => f.Blocks.length - (intOf s11).toNat)
            case atStart => exact ⟨0, Nat.zero_le _, rfl, rfl, rfl, Lib.hid (Keeps.refl _)⟩
            case round =>
              obtain ⟨j, hj, rfl, rfl, rfl, HKJ⟩ := hrel
              by_cases hlj : j < f.Blocks.length
              · have hljz : (j : Int) < (f.Blocks.length : Int) := by omega
                have hkj : Keeps w wr := HKR.out.trans HKJ.out
                obtain ⟨bb, bof, rfl, hc⟩ := HB3.out (by omega)
                obtain ⟨hCode, hAt, hLn⟩ := HBI.out j hlj
                obtain ⟨B, hB⟩ : ∃ B, B = nth f.Blocks j := ⟨_, rfl⟩
                have q0 := HKJ.out.cell HX0.out
                have c0 : wr.cell? ⟨bb, bof + j * 14, none⟩ = some (.int .i64 B.Func) := by rw [hB]; exact hkj.cell (hc j 0 hlj (by omega))
                have c1 : wr.cell? ⟨bb, bof + j * 14 + 1, none⟩ = some (.int .i64 B.Start) := by rw [hB]; exact hkj.cell (hc j 1 hlj (by omega))
                have c2 : wr.cell? ⟨bb, bof + j * 14 + 2, none⟩ = some (cv j) := hkj.cell (hc j 2 hlj (by omega))
                have c3 : wr.cell? ⟨bb, bof + j * 14 + 3, none⟩ = some (av j) := hkj.cell (hc j 3 hlj (by omega))
                have c4 : wr.cell? ⟨bb, bof + j * 14 + 4, none⟩ = some (.int .i64 B.Last.K) := by rw [hB]; exact hkj.cell (hc j 4 hlj (by omega))
                have c5 : wr.cell? ⟨bb, bof + j * 14 + 5, none⟩ = some (.int .i64 B.Last.D) := by rw [hB]; exact hkj.cell (hc j 5 hlj (by omega))
                have c6 : wr.cell? ⟨bb, bof + j * 14 + 6, none⟩ = some (.int .i64 B.Last.A) := by rw [hB]; exact hkj.cell (hc j 6 hlj (by omega))
                have c7b : wr.cell? ⟨bb, bof + j * 14 + 7, none⟩ = some (.int .i64 B.Last.B) := by rw [hB]; exact hkj.cell (hc j 7 hlj (by omega))
                have c8 : wr.cell? ⟨bb, bof + j * 14 + 8, none⟩ = some (.int .i64 B.Last.N) := by rw [hB]; exact hkj.cell (hc j 8 hlj (by omega))
                have c9 : wr.cell? ⟨bb, bof + j * 14 + 9, none⟩ = some (.bool B.Last.Lg) := by rw [hB]; exact hkj.cell (hc j 9 hlj (by omega))
                have c10 : wr.cell? ⟨bb, bof + j * 14 + 10, none⟩ = some (.int .i64 B.Ends) := by rw [hB]; exact hkj.cell (hc j 10 hlj (by omega))
                have c11 : wr.cell? ⟨bb, bof + j * 14 + 11, none⟩ = some (.int .i64 B.To) := by rw [hB]; exact hkj.cell (hc j 11 hlj (by omega))
                have c12 : wr.cell? ⟨bb, bof + j * 14 + 12, none⟩ = some (.int .i64 B.Else) := by rw [hB]; exact hkj.cell (hc j 12 hlj (by omega))
                have c13 : wr.cell? ⟨bb, bof + j * 14 + 13, none⟩ = some (lv j) := hkj.cell (hc j 13 hlj (by omega))
                have hbb : bb < wr.heap.size := lt_of_cell c0
                have r0 := HKJ.out.cell HP0.out
                have r1 := HKJ.out.cell HP1.out
                have heb2 : eb0 < wr.heap.size := lt_of_cell r0
                have hxl2 : xb < wr.heap.size := lt_of_cell q0
                obtain ⟨co, ccap, hvc⟩ := Arr.form hCode
                obtain ⟨lao', lcap', hvl⟩ := Arr.form hLn
                have hAt2 : Ints wr (av j) B.At := by rw [hB]; exact Arr.keep hAt hkj
                obtain ⟨aao, acap, hva, ha1, ha2, -, ha3⟩ := hAt2
                rw [hvc] at c2
                rw [hva] at c3
                rw [hvl] at c13
                obtain ⟨al, hal⟩ : ∃ al, al = B.At.length := ⟨_, rfl⟩
                obtain ⟨cl, hcl⟩ : ∃ cl, cl = (nth f.Blocks j).Code.length := ⟨_, rfl⟩
                obtain ⟨ll, hll2⟩ : ∃ ll, ll = (nth f.Blocks j).Lines.length := ⟨_, rfl⟩
                rw [← hal] at c3
                rw [← hcl] at c2
                rw [← hll2] at c13
                unfold maxLen at ha2
                have hF1 : fromI f eF (j + 1) = if B.At ≠ [] ∧ lastI B.At = eF then (j : Int) else fromI f eF j := by rw [hB]; rfl
                have hT1 : toI f eT (j + 1) = if B.Start = eT then (j : Int) else toI f eT j := by rw [hB]; rfl
                obtain ⟨FA, hFA⟩ : ∃ z, z = fromI f eF j := ⟨_, rfl⟩
                obtain ⟨TB, hTB⟩ : ∃ z, z = toI f eT j := ⟨_, rfl⟩
                rw [← hFA, ← hTB]
                rw [← hFA] at hF1
                rw [← hTB] at hT1
                have HT1 := Lib.hid hT1
                have HF1 := Lib.hid hF1
                clear hc hCode hAt hLn hvc hvl hcl hll2 hva hFA hTB hT1 hF1 hkj
                by_cases hne : al = 0
                · have tA : decide ((0 : Int) < (al : Int)) = false := by simp; omega
                  have tAn : decide (0 < al) = false := decide_eq_false (by omega)
                  have hF2 : fromI f eF (j + 1) = FA := by rw [HF1.out, if_neg]; rintro ⟨q, -⟩; exact q (List.length_eq_zero_iff.1 (by rw [← hal]; exact hne))
                  have HF2 := Lib.hid hF2
                  clear hF2 hne hal hB ha3
                  by_cases hS : B.Start = eT
                  · have tS : (B.Start == eT) = true := by simpa using hS
                    have HT2 := Lib.hid (show toI f eT (j + 1) = (j : Int) by rw [HT1.out, if_pos hS])
                    clear hS
                    go_wp2_with fail
                    go_quiet (fail)
                    go_wp2_with fail
                    go_quiet (fail)
                    go_wp2_with fail
                    go_roundw
                    case rel => exact ⟨j + 1, by omega, by rw [HF2.out], by rw [HT2.out], by go_num, Lib.hid (HKJ.out.trans (by repeat (with_reducible (first | assumption | exact Keeps.refl _ | refine Keeps.alloc ?_ _ | refine Keeps.drew ?_ | refine Keeps.drewN ?_ _))))⟩
                    case measure => simp [intOf]; omega
                  · have tS : (B.Start == eT) = false := by simpa using hS
                    have HT2 := Lib.hid (show toI f eT (j + 1) = TB by rw [HT1.out, if_neg hS])
                    clear hS
                    go_wp2_with fail
                    go_quiet (fail)
                    go_wp2_with fail
                    go_quiet (fail)
                    go_wp2_with fail
                    go_roundw
                    case rel => exact ⟨j + 1, by omega, by rw [HF2.out], by rw [HT2.out], by go_num, Lib.hid (HKJ.out.trans (by repeat (with_reducible (first | assumption | exact Keeps.refl _ | refine Keeps.alloc ?_ _ | refine Keeps.drew ?_ | refine Keeps.drewN ?_ _))))⟩
                    case measure => simp [intOf]; omega
                · have tA : decide ((0 : Int) < (al : Int)) = true := by simp; omega
                  have tAn : decide (0 < al) = true := decide_eq_true (by omega)
                  obtain ⟨rb, ro, rfl, rc⟩ := ha3 (by omega)
                  obtain ⟨J, hJ⟩ : ∃ J, J = al - 1 := ⟨_, rfl⟩
                  have wJ : IntKind.i64.wrap ((al : Int) - 1) = (J : Int) := by rw [IntKind.wrap_i64]; omega
                  have hJz : (J : Int) < (al : Int) := by omega
                  obtain ⟨z, hz⟩ : ∃ z, z = nth B.At J := ⟨_, rfl⟩
                  have r2 : wr.cell? ⟨rb, ro + J, none⟩ = some (.int .i64 z) := by have q := rc J 0 (by omega) (by omega); simp only [Nat.mul_one, Nat.add_zero] at q; rw [hz]; exact q
                  have hrb : rb < wr.heap.size := lt_of_cell r2
                  have hAn : B.At ≠ [] := fun q => hne (by rw [hal, q]; rfl)
                  have hla : lastI B.At = z := by unfold lastI; rw [hz, hJ, hal]
                  have HF3 := Lib.hid (show fromI f eF (j + 1) = if z = eF then (j : Int) else FA by
                    rw [HF1.out, hla]
                    by_cases q : z = eF
                    · rw [if_pos q, if_pos ⟨hAn, q⟩]
                    · rw [if_neg q, if_neg (fun h => q h.2)])
                  clear hne hal hB ha3 rc hz hJ hAn hla
                  by_cases hzz : z = eF
                  · have tz : (z == eF) = true := by simpa using hzz
                    have HF2 := Lib.hid (show fromI f eF (j + 1) = (j : Int) by rw [HF3.out, if_pos hzz])
                    clear hzz
                    by_cases hS : B.Start = eT
                    · have tS : (B.Start == eT) = true := by simpa using hS
                      have HT2 := Lib.hid (show toI f eT (j + 1) = (j : Int) by rw [HT1.out, if_pos hS])
                      clear hS
                      go_wp2_with fail
                      go_quiet (fail)
                      go_wp2_with fail
                      go_quiet (fail)
                      go_wp2_with fail
                      go_roundw
                      case rel => exact ⟨j + 1, by omega, by rw [HF2.out], by rw [HT2.out], by go_num, Lib.hid (HKJ.out.trans (by repeat (with_reducible (first | assumption | exact Keeps.refl _ | refine Keeps.alloc ?_ _ | refine Keeps.drew ?_ | refine Keeps.drewN ?_ _))))⟩
                      case measure => simp [intOf]; omega
                    · have tS : (B.Start == eT) = false := by simpa using hS
                      have HT2 := Lib.hid (show toI f eT (j + 1) = TB by rw [HT1.out, if_neg hS])
                      clear hS
                      go_wp2_with fail
                      go_quiet (fail)
                      go_wp2_with fail
                      go_quiet (fail)
                      go_wp2_with fail
                      go_roundw
                      case rel => exact ⟨j + 1, by omega, by rw [HF2.out], by rw [HT2.out], by go_num, Lib.hid (HKJ.out.trans (by repeat (with_reducible (first | assumption | exact Keeps.refl _ | refine Keeps.alloc ?_ _ | refine Keeps.drew ?_ | refine Keeps.drewN ?_ _))))⟩
                      case measure => simp [intOf]; omega
                  · have tz : (z == eF) = false := by simpa using hzz
                    have HF2 := Lib.hid (show fromI f eF (j + 1) = FA by rw [HF3.out, if_neg hzz])
                    clear hzz
                    by_cases hS : B.Start = eT
                    · have tS : (B.Start == eT) = true := by simpa using hS
                      have HT2 := Lib.hid (show toI f eT (j + 1) = (j : Int) by rw [HT1.out, if_pos hS])
                      clear hS
                      go_wp2_with fail
                      go_quiet (fail)
                      go_wp2_with fail
                      go_quiet (fail)
                      go_wp2_with fail
                      go_roundw
                      case rel => exact ⟨j + 1, by omega, by rw [HF2.out], by rw [HT2.out], by go_num, Lib.hid (HKJ.out.trans (by repeat (with_reducible (first | assumption | exact Keeps.refl _ | refine Keeps.alloc ?_ _ | refine Keeps.drew ?_ | refine Keeps.drewN ?_ _))))⟩
                      case measure => simp [intOf]; omega
                    · have tS : (B.Start == eT) = false := by simpa using hS
                      have HT2 := Lib.hid (show toI f eT (j + 1) = TB by rw [HT1.out, if_neg hS])
                      clear hS
                      go_wp2_with fail
                      go_quiet (fail)
                      go_wp2_with fail
                      go_quiet (fail)
                      go_wp2_with fail
                      go_roundw
                      case rel => exact ⟨j + 1, by omega, by rw [HF2.out], by rw [HT2.out], by go_num, Lib.hid (HKJ.out.trans (by repeat (with_reducible (first | assumption | exact Keeps.refl _ | refine Keeps.alloc ?_ _ | refine Keeps.drew ?_ | refine Keeps.drewN ?_ _))))⟩
                      case measure => simp [intOf]; omega
              · obtain rfl : j = f.Blocks.length := by omega
                have q0 := HKJ.out.cell HX0.out
                have hxl2 : xb < wr.heap.size := lt_of_cell q0
                rw [← HA0.out, ← HB0.out]
                go_wp2_with fail
                go_meet
                case rel => exact ⟨rfl, rfl, HKJ⟩
        case rest =>
          obtain ⟨rfl, rfl, HKI⟩ := hcut
          obtain ⟨w1, hw1⟩ : ∃ w1 : World, w1 = wc := ⟨_, rfl⟩
          subst hw1
          have r0 := HKI.out.cell HP0.out
          have r2 := HKI.out.cell HP2.out
          have heb2 : eb0 < w1.heap.size := lt_of_cell r0
          have q0 := HKI.out.cell HX0.out
          have q1 := (HBX.out.keep (HKW.out.trans HKI.out)).cell (j := 1) rfl
          have q2 := (HBX.out.keep (HKW.out.trans HKI.out)).cell (j := 2) rfl
          have hxl2 : xb < w1.heap.size := lt_of_cell q0
          have HK1 := Lib.hid (HKW.out.trans HKI.out)
          have HOW1 := Lib.hid (HOW.out.keep HKI.out)
          clear x0 heb hxl HKR
          have skip : ∀ (P : Prop) [Decidable P], P → True := fun _ _ _ => trivial
          clear skip
          by_cases hA : A0 < 0
          · have tA : decide (A0 < 0) = true := decide_eq_true hA
            have hn : (l.take (k + 1)).foldl (stepD f (nx f)) [] = D := by rw [HST.out, if_neg]; rintro ⟨⟨q, -⟩, -⟩; omega
            have HNX := Lib.hid hn
            clear hA hn
            go_wp2_with fail
            go_roundw
            case rel => exact ⟨k + 1, by omega, by go_num, Lib.hid (by rw [HNX.out]; exact HOW1.out), HK1⟩
            case measure => simp [intOf]; omega
          have tA : decide (A0 < 0) = false := decide_eq_false hA
          by_cases hBn : B0 < 0
          · have tB : decide (B0 < 0) = true := decide_eq_true hBn
            have hn : (l.take (k + 1)).foldl (stepD f (nx f)) [] = D := by rw [HST.out, if_neg]; rintro ⟨⟨-, q, -⟩, -⟩; omega
            have HNX := Lib.hid hn
            clear hA hBn hn
            go_wp2_with fail
            go_roundw
            case rel => exact ⟨k + 1, by omega, by go_num, Lib.hid (by rw [HNX.out]; exact HOW1.out), HK1⟩
            case measure => simp [intOf]; omega
          have tB : decide (B0 < 0) = false := decide_eq_false hBn
          obtain ⟨NX, hNX⟩ : ∃ z, z = decide (B0 ∈ nx f A0) := ⟨_, rfl⟩
          have hisn : ∀ W', Keeps w1 W' → Calls Tryz.prog 21 #[.agg #[.slice ao f.Blocks.length cap, .slice tao f.Tables.length tcap, .slice fao f.Firsts.length fcap], .int .i64 A0, .int .i64 B0] W' fun e w' => e = .returned (.bool NX) ∧ Keeps W' w' := fun W' hk' => by
            rw [hNX]
            exact isNext_any _ f A0 B0 W' (HFL.out.keep (HK0.out.trans (HK1.out.trans hk'))) HSM.out (by omega) (by omega)
          have HIS := Lib.hid hisn
          clear hisn
          cases NX with
          | false =>
            have hn : (l.take (k + 1)).foldl (stepD f (nx f)) [] = D := by rw [HST.out, if_neg]; rintro ⟨⟨-, -, q⟩, -⟩; rw [decide_eq_true q] at hNX; cases hNX
            have HNX := Lib.hid hn
            clear hA hBn hn hNX
            go_wp2_with (go_at_call 21; refine (HIS.out _ (by repeat (with_reducible (first | assumption | exact Keeps.refl _ | refine Keeps.alloc ?_ _ | refine Keeps.drew ?_ | refine Keeps.drewN ?_ _)))).mono ?_; rintro e w2 ⟨rfl, hk2⟩)
            go_roundw
            case rel => exact ⟨k + 1, by omega, by go_num, Lib.hid (by rw [HNX.out]; exact HOW1.out.keep hk2), Lib.hid (HK1.out.trans hk2)⟩
            case measure => simp [intOf]; omega
          | true =>
          have hin : B0 ∈ nx f A0 := of_decide_eq_true hNX.symm
          by_cases hz : eC = 0
          · have tz : (eC == 0) = true := by simpa using hz
            have hn : (l.take (k + 1)).foldl (stepD f (nx f)) [] = D := by rw [HST.out, if_neg]; rintro ⟨-, q⟩; exact q hz
            have HNX := Lib.hid hn
            have HP2z := HP2
            clear hA hBn hn hNX hin
            go_wp2_with (go_at_call 21; refine (HIS.out _ (by repeat (with_reducible (first | assumption | exact Keeps.refl _ | refine Keeps.alloc ?_ _ | refine Keeps.drew ?_ | refine Keeps.drewN ?_ _)))).mono ?_; rintro e w2 ⟨rfl, hk2⟩; have r22 := hk2.cell r2; have heb3 := lt_of_cell r22)
            go_roundw
            case rel => exact ⟨k + 1, by omega, by go_num, Lib.hid (by rw [HNX.out]; exact HOW1.out.keep hk2), Lib.hid (HK1.out.trans hk2)⟩
            case measure => simp [intOf]; omega
          have tz : (eC == 0) = false := by simpa using hz
          have HADD := Lib.hid (show (l.take (k + 1)).foldl (stepD f (nx f)) [] = addD (A0, B0) eC D by rw [HST.out, if_pos ⟨⟨by omega, by omega, hin⟩, hz⟩])
          clear hNX hin hz HST
          go_upto_block 6 with (go_at_call 21; refine (HIS.out _ (by repeat (with_reducible (first | assumption | exact Keeps.refl _ | refine Keeps.alloc ?_ _ | refine Keeps.drew ?_ | refine Keeps.drewN ?_ _)))).mono ?_; rintro e w2 ⟨rfl, hk2⟩; have r22 := hk2.cell r2; have heb3 := lt_of_cell r22)
          have HK2 := Lib.hid (HK1.out.trans hk2)
          have HOW2 := Lib.hid (HOW1.out.keep hk2)
          have HC2 := Lib.hid r22
          clear hk2 r22 r0 r2 q0 q1 q2 HIS
          obtain ⟨PO, hPO⟩ : ∃ z, z = posD (A0, B0) D := ⟨_, rfl⟩
          have hPOl : PO ≤ N := by rw [hPO, HN.out]; exact posD_le _ _
          have HPO := Lib.hid hPO
          clear hPO
          go_cut [13] (fun s13 wx => s13 = .int .i64 (PO : Int) ∧ w2 = wx)
          case first =>
            as_aux_lemma =>
              go_wp2_with fail
              go_loopw [13] (fun s13 wr => ∃ q : Nat, q ≤ N ∧ s13 = .int .i64 q ∧ Hid (∀ i, i < q → kLt (keyE (nth D i)) (A0, B0) = true) ∧ w2 = wr) (fun s13 _ => N - (intOf s13).toNat)
              case atStart => exact ⟨0, Nat.zero_le _, rfl, Lib.hid (fun i hi => absurd hi (Nat.not_lt_zero _)), rfl⟩
              case round =>
                obtain ⟨q, hq, rfl, HLT, rfl⟩ := hrel
                by_cases hqN : q < N
                · have hqz : (q : Int) < (N : Int) := by omega
                  have tq : decide ((q : Int) < (N : Int)) = true := decide_eq_true hqz
                  obtain ⟨g7, cap7, e7, hb7, -, -, g7l, cs7, -, -⟩ := own_setw (f := ced) (k := 3) (fun _ => rfl) HOW2.out (i := q) (by rw [← HN.out]; exact hqN)
                  injection e7 with e71 e72 e73
                  subst e71
                  obtain ⟨⟨dF, dT, dC⟩, hd⟩ : ∃ z, z = nth D q := ⟨_, rfl⟩
                  have d0 : w2.cell? ⟨g7, q * 3, none⟩ = some (.int .i64 dF) := cs7 q 0 _ (by rw [← HN.out]; exact hqN) (by decide) (by rw [← hd]; rfl)
                  have d1 : w2.cell? ⟨g7, q * 3 + 1, none⟩ = some (.int .i64 dT) := cs7 q 1 _ (by rw [← HN.out]; exact hqN) (by decide) (by rw [← hd]; rfl)
                  have hkl : kLt (keyE (nth D q)) (A0, B0) = (decide (dF < A0) || (decide (dF = A0) && decide (dT < B0))) := by rw [← hd]; rfl
                  have hgo : kLt (keyE (nth D q)) (A0, B0) = true → Hid (∀ i, i < q + 1 → kLt (keyE (nth D i)) (A0, B0) = true) := fun h => Lib.hid fun i hi => by
                    by_cases c : i = q
                    · subst c; exact h
                    · exact HLT.out i (by omega)
                  have hstop : kLt (keyE (nth D q)) (A0, B0) = false → PO = q := fun h => by rw [HPO.out]; exact posD_is _ _ _ (by rw [← HN.out]; omega) HLT.out (fun _ => h)
                  rw [hkl] at hgo hstop
                  have HGO := Lib.hid hgo
                  have HSTP := Lib.hid hstop
                  clear hkl hgo hstop cs7 hd e72 e73
                  by_cases h1 : dF < A0
                  · have t1 : decide (dF < A0) = true := decide_eq_true h1
                    have HL2 := HGO.out (by rw [t1]; rfl)
                    clear h1
                    go_wp2_with fail
                    go_roundw
                    case rel => exact ⟨q + 1, by omega, by go_num, HL2, by first | rfl | trivial⟩
                    case measure => simp [intOf]; omega
                  · have t1 : decide (dF < A0) = false := decide_eq_false h1
                    by_cases h2 : dF = A0
                    · have t2 : (dF == A0) = true := by simpa using h2
                      by_cases h3 : dT < B0
                      · have t3 : decide (dT < B0) = true := decide_eq_true h3
                        have HL2 := HGO.out (by rw [decide_eq_true h2, t3]; simp)
                        clear h1 h2 h3
                        go_wp2_with fail
                        go_roundw
                        case rel => exact ⟨q + 1, by omega, by go_num, HL2, by first | rfl | trivial⟩
                        case measure => simp [intOf]; omega
                      · have t3 : decide (dT < B0) = false := decide_eq_false h3
                        have HPQ := Lib.hid (HSTP.out (by rw [t1, t3]; simp))
                        clear h1 h2 h3
                        go_wp2_with fail
                        go_meet
                        case rel => exact ⟨by rw [HPQ.out], by first | rfl | trivial⟩
                    · have t2 : (dF == A0) = false := by simpa using h2
                      have HPQ := Lib.hid (HSTP.out (by rw [t1, decide_eq_false h2]; simp))
                      clear h1 h2
                      go_wp2_with fail
                      go_meet
                      case rel => exact ⟨by rw [HPQ.out], by first | rfl | trivial⟩
                · obtain rfl : q = N := by omega
                  have tq : decide ((q : Int) < (q : Int)) = false := decide_eq_false (by omega)
                  have HPQ := Lib.hid (show PO = q by rw [HPO.out]; exact posD_is _ _ _ (by rw [← HN.out]; exact Nat.le_refl _) HLT.out (fun h => by rw [← HN.out] at h; omega))
                  go_wp2_with fail
                  go_meet
                  case rel => exact ⟨by rw [HPQ.out], by first | rfl | trivial⟩
          case rest =>
            obtain ⟨rfl, hw2⟩ := hcut
            subst hw2
            have hadd := addD_pos (A0, B0) eC D
            rw [← HPO.out, ← HN.out] at hadd
            have r22 := HC2.out
            obtain ⟨TST, hTST⟩ : ∃ b : Bool, b = decide (PO < N ∧ keyE (nth D PO) = (A0, B0)) := ⟨_, rfl⟩
            go_upto_region 26 with fail
            go_cut [154] (fun s154 wx => s154 = .bool TST ∧ w2 = wx)
            case first =>
              by_cases hPN : PO < N
              · have hPz : (PO : Int) < (N : Int) := by omega
                have tP : decide ((PO : Int) < (N : Int)) = true := decide_eq_true hPz
                obtain ⟨g7, cap7, e7, hb7, -, -, g7l, cs7, -, -⟩ := own_setw (f := ced) (k := 3) (fun _ => rfl) HOW2.out (i := PO) (by rw [← HN.out]; exact hPN)
                injection e7 with e71 e72 e73
                subst e71
                obtain ⟨⟨dF, dT, dC⟩, hd⟩ : ∃ z, z = nth D PO := ⟨_, rfl⟩
                have d0 : w2.cell? ⟨g7, PO * 3, none⟩ = some (.int .i64 dF) := cs7 PO 0 _ (by rw [← HN.out]; exact hPN) (by decide) (by rw [← hd]; rfl)
                have d1 : w2.cell? ⟨g7, PO * 3 + 1, none⟩ = some (.int .i64 dT) := cs7 PO 1 _ (by rw [← HN.out]; exact hPN) (by decide) (by rw [← hd]; rfl)
                rw [← hd] at hTST
                clear hadd e72 e73 cs7 hd
                by_cases h1 : dF = A0
                · have t1 : (dF == A0) = true := by simpa using h1
                  by_cases h2 : dT = B0
                  · have t2 : (dT == B0) = true := by simpa using h2
                    have HT := Lib.hid (show TST = true by rw [hTST]; exact decide_eq_true ⟨hPN, by rw [← h1, ← h2]; rfl⟩)
                    clear hTST h1 h2
                    go_wp2_with fail
                    go_meet
                    case rel => exact ⟨by rw [HT.out], by first | rfl | trivial⟩
                  · have t2 : (dT == B0) = false := by simpa using h2
                    have HT := Lib.hid (show TST = false by rw [hTST]; exact decide_eq_false (fun q => h2 (congrArg Prod.snd q.2)))
                    clear hTST h1 h2
                    go_wp2_with fail
                    go_meet
                    case rel => exact ⟨by rw [HT.out], by first | rfl | trivial⟩
                · have t1 : (dF == A0) = false := by simpa using h1
                  have HT := Lib.hid (show TST = false by rw [hTST]; exact decide_eq_false (fun q => h1 (congrArg Prod.fst q.2)))
                  clear hTST h1
                  go_wp2_with fail
                  go_meet
                  case rel => exact ⟨by rw [HT.out], by first | rfl | trivial⟩
              · have tP : decide ((PO : Int) < (N : Int)) = false := decide_eq_false (by omega)
                have HT := Lib.hid (show TST = false by rw [hTST]; exact decide_eq_false (fun q => hPN q.1))
                clear hTST hadd
                go_wp2_with fail
                go_meet
                case rel => exact ⟨by rw [HT.out], by first | rfl | trivial⟩
            case rest =>
              obtain ⟨rfl, hw2⟩ := hcut
              subst hw2
              cases TST with
              | true =>
                as_aux_lemma =>
                  obtain ⟨hPN, hkey⟩ := of_decide_eq_true hTST.symm
                  have hPz : (PO : Int) < (N : Int) := by omega
                  obtain ⟨g7, cap7, e7, hb7, -, -, g7l, cs7, fz7, st7⟩ := own_setc (f := ced) (k := 3) (fun _ => rfl) (HOW2.out.keep ((Keeps.refl _).drew)) (i := PO) (by rw [← HN.out]; exact hPN) (c := 2) (by decide)
                  injection e7 with e71 e72 e73
                  subst e71
                  obtain ⟨⟨dF, dT, dC⟩, hd⟩ : ∃ z, z = nth D PO := ⟨_, rfl⟩
                  have d2 : w2.cell? ⟨g7, PO * 3 + 2, none⟩ = some (.int .i64 dC) := cs7 PO 2 _ (by rw [← HN.out]; exact hPN) (by decide) (by rw [← hd]; rfl)
                  have hdc : 0 ≤ dC ∧ dC ≤ 1073741824 := by
                    have := HCNT.out (nth D PO) (by rw [nth_eq _ _ (by rw [← HN.out]; exact hPN)]; exact List.getElem_mem _)
                    rw [← hd] at this
                    exact this
                  rw [← hd] at hadd hkey
                  have h1 : dF = A0 := congrArg Prod.fst hkey
                  have h2 : dT = B0 := congrArg Prod.snd hkey
                  dsimp only at hadd
                  have hfin : addD (A0, B0) eC D = D.set PO ⟨A0, B0, capS (dC + eC)⟩ := by rw [hadd, if_pos ⟨hPN, hkey⟩]
                  have sx := st7 ⟨A0, B0, dC + eC⟩ (.int .i64 (dC + eC)) (by rw [← hd, ← h1, ← h2]; rfl)
                  have wS : IntKind.i64.wrap (dC + eC) = dC + eC := by rw [IntKind.wrap_i64]; omega
                  have hg3 : Keeps W (w2.drew.setCell ⟨g7, PO * 3 + 2, none⟩ (.int .i64 (dC + eC))) := HK2.out.drew.setCell hb7 _
                  have f2 : w2.frozen? ⟨g7, PO * 3 + 2, none⟩ = false := fz7 (PO * 3 + 2)
                  have g7l2 : g7 < w2.heap.size := g7l
                  have hgw : W.heap.size ≤ g7 := hb7
                  have HF := Lib.hid (HADD.out.trans hfin)
                  have SX := Lib.hid sx
                  have HG3 := Lib.hid hg3
                  clear hadd e72 e73 cs7 fz7 st7 hfin sx hg3 h1 h2 hd hkey hTST g7l
                  by_cases hcap : 1073741824 < dC + eC
                  · have tc : decide (1073741824 < dC + eC) = true := decide_eq_true hcap
                    obtain ⟨g8, cap8, e8, -, -, -, -, -, fz8, st8⟩ := own_setc (f := ced) (k := 3) (fun _ => rfl) SX.out (i := PO) (by rw [List.length_set, ← HN.out]; exact hPN) (c := 2) (by decide)
                    injection e8 with e81 e82 e83
                    injection e81 with e84
                    injection e84 with e85
                    subst e85
                    have sx2 := st8 ⟨A0, B0, 1073741824⟩ (.int .i64 1073741824) (by rw [nth_setw _ _ _ _ (by rw [← HN.out]; exact hPN), if_pos rfl]; rfl)
                    rw [List.set_set] at sx2
                    have hc2 : capS (dC + eC) = 1073741824 := by unfold capS; omega
                    have HC3 := Lib.hid hc2
                    have SX2 := Lib.hid sx2
                    have HG4 := Lib.hid (HG3.out.setCell hgw (p := ⟨g7, PO * 3 + 2, none⟩) (.int .i64 1073741824))
                    clear hcap e82 e83 fz8 st8 sx2 hc2
                    go_upto_region 27 with fail
                    refine wp_region_head (S := fun w' => w'.cell? ⟨g7, PO * 3 + 2, none⟩ = some (.int .i64 dC) ∧ w'.cell? ⟨eb0, eo0 + k * 3 + 2, none⟩ = some (.int .i64 eC)) 13 (by kernel_rfl) (by kernel_rfl) (by kernel_rfl) (by kernel_rfl) (by decide) (by kernel_rfl) ?hS (fun hHeld => ?_)
                    case hS => exact ⟨d2, r22⟩
                    simp only [List.take_succ_cons, List.take_zero, List.drop_succ_cons, List.drop_zero]
                    refine wpAnyH_take (i := 0) (oi := ?oq1x0) (v := ?vq1x0) ?hq1x0 ?aq1x0 ?bq1x0 ?cq1x0 ?qq1x0 (Or.inl ⟨?wq1x0, ?yq1x0⟩) hHeld ?rq1x0
                    case hq1x0 => (simp only [List.getElem?_toArray, List.getElem?_cons_zero]; try rfl)
                    case aq1x0 => kernel_rfl
                    case bq1x0 => kernel_rfl
                    case cq1x0 => kernel_rfl
                    case qq1x0 => exact fun _ _ _ h => h
                    case wq1x0 => rfl
                    case yq1x0 =>
                      intro w hSw
                      (try dsimp only at hSw)
                      go_simp
                      try with_reducible rfl
                    try simp only [Act.put, List.setIfInBounds_toArray, List.set_cons_zero, List.set_cons_succ]
                    refine wpAnyH_take (i := 1) (oi := ?oq1x1) (v := ?vq1x1) ?hq1x1 ?aq1x1 ?bq1x1 ?cq1x1 ?qq1x1 (Or.inl ⟨?wq1x1, ?yq1x1⟩) hHeld ?rq1x1
                    case hq1x1 => (simp only [List.getElem?_toArray, List.getElem?_cons_zero, List.getElem?_cons_succ]; try rfl)
                    case aq1x1 => kernel_rfl
                    case bq1x1 => kernel_rfl
                    case cq1x1 => kernel_rfl
                    case qq1x1 => exact fun _ _ _ h => h
                    case wq1x1 => rfl
                    case yq1x1 =>
                      intro w hSw
                      (try dsimp only at hSw)
                      go_simp
                      try with_reducible rfl
                    try simp only [Act.put, List.setIfInBounds_toArray, List.set_cons_zero, List.set_cons_succ]
                    refine wpAnyH_take (i := 2) (oi := ?oq1x2) (v := ?vq1x2) ?hq1x2 ?aq1x2 ?bq1x2 ?cq1x2 ?qq1x2 (Or.inl ⟨?wq1x2, ?yq1x2⟩) hHeld ?rq1x2
                    case hq1x2 => (simp only [List.getElem?_toArray, List.getElem?_cons_zero, List.getElem?_cons_succ]; try rfl)
                    case aq1x2 => kernel_rfl
                    case bq1x2 => kernel_rfl
                    case cq1x2 => kernel_rfl
                    case qq1x2 => exact fun _ _ _ h => h
                    case wq1x2 => rfl
                    case yq1x2 =>
                      intro w hSw
                      (try dsimp only at hSw)
                      go_simp
                      try with_reducible rfl
                    try simp only [Act.put, List.setIfInBounds_toArray, List.set_cons_zero, List.set_cons_succ]
                    refine wpAnyH_take (i := 3) (oi := ?oq1x3) (v := ?vq1x3) ?hq1x3 ?aq1x3 ?bq1x3 ?cq1x3 ?qq1x3 (Or.inl ⟨?wq1x3, ?yq1x3⟩) hHeld ?rq1x3
                    case hq1x3 => (simp only [List.getElem?_toArray, List.getElem?_cons_zero, List.getElem?_cons_succ]; try rfl)
                    case aq1x3 => kernel_rfl
                    case bq1x3 => kernel_rfl
                    case cq1x3 => kernel_rfl
                    case qq1x3 => exact fun _ _ _ h => h
                    case wq1x3 => rfl
                    case yq1x3 =>
                      intro w hSw
                      (try dsimp only at hSw)
                      go_simp
                      try with_reducible rfl
                    try simp only [Act.put, List.setIfInBounds_toArray, List.set_cons_zero, List.set_cons_succ]
                    refine wpAnyH_take (i := 4) (oi := ?oq1x4) (v := ?vq1x4) ?hq1x4 ?aq1x4 ?bq1x4 ?cq1x4 ?qq1x4 (Or.inl ⟨?wq1x4, ?yq1x4⟩) hHeld ?rq1x4
                    case hq1x4 => (simp only [List.getElem?_toArray, List.getElem?_cons_zero, List.getElem?_cons_succ]; try rfl)
                    case aq1x4 => kernel_rfl
                    case bq1x4 => kernel_rfl
                    case cq1x4 => kernel_rfl
                    case qq1x4 => exact fun _ _ _ h => h
                    case wq1x4 => rfl
                    case yq1x4 =>
                      intro w hSw
                      (try dsimp only at hSw)
                      go_simp
                      try with_reducible rfl
                    try simp only [Act.put, List.setIfInBounds_toArray, List.set_cons_zero, List.set_cons_succ]
                    refine wpAnyH_take (i := 5) (oi := ?oq1x5) (v := ?vq1x5) ?hq1x5 ?aq1x5 ?bq1x5 ?cq1x5 ?qq1x5 (Or.inl ⟨?wq1x5, ?yq1x5⟩) hHeld ?rq1x5
                    case hq1x5 => (simp only [List.getElem?_toArray, List.getElem?_cons_zero, List.getElem?_cons_succ]; try rfl)
                    case aq1x5 => kernel_rfl
                    case bq1x5 => kernel_rfl
                    case cq1x5 => kernel_rfl
                    case qq1x5 => exact fun _ _ _ h => h
                    case wq1x5 => rfl
                    case yq1x5 =>
                      intro w hSw
                      (try dsimp only at hSw)
                      go_simp
                      try with_reducible rfl
                    try simp only [Act.put, List.setIfInBounds_toArray, List.set_cons_zero, List.set_cons_succ]
                    refine wpAnyH_take (i := 6) (oi := ?oq1x6) (v := ?vq1x6) ?hq1x6 ?aq1x6 ?bq1x6 ?cq1x6 ?qq1x6 (Or.inl ⟨?wq1x6, ?yq1x6⟩) hHeld ?rq1x6
                    case hq1x6 => (simp only [List.getElem?_toArray, List.getElem?_cons_zero, List.getElem?_cons_succ]; try rfl)
                    case aq1x6 => kernel_rfl
                    case bq1x6 => kernel_rfl
                    case cq1x6 => kernel_rfl
                    case qq1x6 => exact fun _ _ _ h => h
                    case wq1x6 => rfl
                    case yq1x6 =>
                      intro w hSw
                      (try dsimp only at hSw)
                      go_simp
                      try with_reducible rfl
                    try simp only [Act.put, List.setIfInBounds_toArray, List.set_cons_zero, List.set_cons_succ]
                    refine wpAnyH_take (i := 7) (oi := ?oq1x7) (v := ?vq1x7) ?hq1x7 ?aq1x7 ?bq1x7 ?cq1x7 ?qq1x7 (Or.inl ⟨?wq1x7, ?yq1x7⟩) hHeld ?rq1x7
                    case hq1x7 => (simp only [List.getElem?_toArray, List.getElem?_cons_zero, List.getElem?_cons_succ]; try rfl)
                    case aq1x7 => kernel_rfl
                    case bq1x7 => kernel_rfl
                    case cq1x7 => kernel_rfl
                    case qq1x7 => exact fun _ _ _ h => h
                    case wq1x7 => rfl
                    case yq1x7 =>
                      intro w hSw
                      (try dsimp only at hSw)
                      go_simp
                      try with_reducible rfl
                    try simp only [Act.put, List.setIfInBounds_toArray, List.set_cons_zero, List.set_cons_succ]
                    refine wpAnyH_take (i := 8) (oi := ?oq1x8) (v := ?vq1x8) ?hq1x8 ?aq1x8 ?bq1x8 ?cq1x8 ?qq1x8 (Or.inl ⟨?wq1x8, ?yq1x8⟩) hHeld ?rq1x8
                    case hq1x8 => (simp only [List.getElem?_toArray, List.getElem?_cons_zero, List.getElem?_cons_succ]; try rfl)
                    case aq1x8 => kernel_rfl
                    case bq1x8 => kernel_rfl
                    case cq1x8 => kernel_rfl
                    case qq1x8 => exact fun _ _ _ h => h
                    case wq1x8 => rfl
                    case yq1x8 =>
                      intro w hSw
                      (try dsimp only at hSw)
                      go_simp
                      try with_reducible rfl
                    try simp only [Act.put, List.setIfInBounds_toArray, List.set_cons_zero, List.set_cons_succ]
                    refine wpAnyH_take (i := 9) (oi := ?oq1x9) (v := ?vq1x9) ?hq1x9 ?aq1x9 ?bq1x9 ?cq1x9 ?qq1x9 (Or.inl ⟨?wq1x9, ?yq1x9⟩) hHeld ?rq1x9
                    case hq1x9 => (simp only [List.getElem?_toArray, List.getElem?_cons_zero, List.getElem?_cons_succ]; try rfl)
                    case aq1x9 => kernel_rfl
                    case bq1x9 => kernel_rfl
                    case cq1x9 => kernel_rfl
                    case qq1x9 => exact fun _ _ _ h => h
                    case wq1x9 => rfl
                    case yq1x9 =>
                      intro w hSw
                      (try dsimp only at hSw)
                      go_simp
                      try with_reducible rfl
                    try simp only [Act.put, List.setIfInBounds_toArray, List.set_cons_zero, List.set_cons_succ]
                    refine wpAnyH_take (i := 10) (oi := ?oq1x10) (v := ?vq1x10) ?hq1x10 ?aq1x10 ?bq1x10 ?cq1x10 ?qq1x10 (Or.inl ⟨?wq1x10, ?yq1x10⟩) hHeld ?rq1x10
                    case hq1x10 => (simp only [List.getElem?_toArray, List.getElem?_cons_zero, List.getElem?_cons_succ]; try rfl)
                    case aq1x10 => kernel_rfl
                    case bq1x10 => kernel_rfl
                    case cq1x10 => kernel_rfl
                    case qq1x10 => exact fun _ _ _ h => h
                    case wq1x10 => rfl
                    case yq1x10 =>
                      intro w hSw
                      (try dsimp only at hSw)
                      go_simp
                      try with_reducible rfl
                    try simp only [Act.put, List.setIfInBounds_toArray, List.set_cons_zero, List.set_cons_succ]
                    refine wpAnyH_take (i := 11) (oi := ?oq1x11) (v := ?vq1x11) ?hq1x11 ?aq1x11 ?bq1x11 ?cq1x11 ?qq1x11 (Or.inl ⟨?wq1x11, ?yq1x11⟩) hHeld ?rq1x11
                    case hq1x11 => (simp only [List.getElem?_toArray, List.getElem?_cons_zero, List.getElem?_cons_succ]; try rfl)
                    case aq1x11 => kernel_rfl
                    case bq1x11 => kernel_rfl
                    case cq1x11 => kernel_rfl
                    case qq1x11 => exact fun _ _ _ h => h
                    case wq1x11 => rfl
                    case yq1x11 =>
                      intro w hSw
                      (try dsimp only at hSw)
                      go_simp
                      try with_reducible rfl
                    try simp only [Act.put, List.setIfInBounds_toArray, List.set_cons_zero, List.set_cons_succ]
                    refine wpAnyH_take (i := 12) (oi := ?oq1x12) (v := ?vq1x12) ?hq1x12 ?aq1x12 ?bq1x12 ?cq1x12 ?qq1x12 (Or.inl ⟨?wq1x12, ?yq1x12⟩) hHeld ?rq1x12
                    case hq1x12 => (simp only [List.getElem?_toArray, List.getElem?_cons_zero, List.getElem?_cons_succ]; try rfl)
                    case aq1x12 => kernel_rfl
                    case bq1x12 => kernel_rfl
                    case cq1x12 => kernel_rfl
                    case qq1x12 => exact fun _ _ _ h => h
                    case wq1x12 => rfl
                    case yq1x12 =>
                      intro w hSw
                      (try dsimp only at hSw)
                      go_simp
                      try with_reducible rfl
                    try simp only [Act.put, List.setIfInBounds_toArray, List.set_cons_zero, List.set_cons_succ]
                    refine wpAnyH_done (by kernel_rfl) ?_ _
                    dsimp only [TailQ]
                    clear hHeld
                    go_wp2_with fail
                    go_roundw
                    case rel => exact ⟨k + 1, by omega, by go_num, Lib.hid (by rw [HF.out, HC3.out]; exact SX2.out), HG4⟩
                    case measure => simp [intOf]; omega
                  · have tc : decide (1073741824 < dC + eC) = false := decide_eq_false hcap
                    have hc2 : capS (dC + eC) = dC + eC := by unfold capS; omega
                    have HC3 := Lib.hid hc2
                    clear hcap hc2
                    go_upto_region 27 with fail
                    refine wp_region_head (S := fun w' => w'.cell? ⟨g7, PO * 3 + 2, none⟩ = some (.int .i64 dC) ∧ w'.cell? ⟨eb0, eo0 + k * 3 + 2, none⟩ = some (.int .i64 eC)) 13 (by kernel_rfl) (by kernel_rfl) (by kernel_rfl) (by kernel_rfl) (by decide) (by kernel_rfl) ?hS (fun hHeld => ?_)
                    case hS => exact ⟨d2, r22⟩
                    simp only [List.take_succ_cons, List.take_zero, List.drop_succ_cons, List.drop_zero]
                    refine wpAnyH_take (i := 0) (oi := ?oq2x0) (v := ?vq2x0) ?hq2x0 ?aq2x0 ?bq2x0 ?cq2x0 ?qq2x0 (Or.inl ⟨?wq2x0, ?yq2x0⟩) hHeld ?rq2x0
                    case hq2x0 => (simp only [List.getElem?_toArray, List.getElem?_cons_zero]; try rfl)
                    case aq2x0 => kernel_rfl
                    case bq2x0 => kernel_rfl
                    case cq2x0 => kernel_rfl
                    case qq2x0 => exact fun _ _ _ h => h
                    case wq2x0 => rfl
                    case yq2x0 =>
                      intro w hSw
                      (try dsimp only at hSw)
                      go_simp
                      try with_reducible rfl
                    try simp only [Act.put, List.setIfInBounds_toArray, List.set_cons_zero, List.set_cons_succ]
                    refine wpAnyH_take (i := 1) (oi := ?oq2x1) (v := ?vq2x1) ?hq2x1 ?aq2x1 ?bq2x1 ?cq2x1 ?qq2x1 (Or.inl ⟨?wq2x1, ?yq2x1⟩) hHeld ?rq2x1
                    case hq2x1 => (simp only [List.getElem?_toArray, List.getElem?_cons_zero, List.getElem?_cons_succ]; try rfl)
                    case aq2x1 => kernel_rfl
                    case bq2x1 => kernel_rfl
                    case cq2x1 => kernel_rfl
                    case qq2x1 => exact fun _ _ _ h => h
                    case wq2x1 => rfl
                    case yq2x1 =>
                      intro w hSw
                      (try dsimp only at hSw)
                      go_simp
                      try with_reducible rfl
                    try simp only [Act.put, List.setIfInBounds_toArray, List.set_cons_zero, List.set_cons_succ]
                    refine wpAnyH_take (i := 2) (oi := ?oq2x2) (v := ?vq2x2) ?hq2x2 ?aq2x2 ?bq2x2 ?cq2x2 ?qq2x2 (Or.inl ⟨?wq2x2, ?yq2x2⟩) hHeld ?rq2x2
                    case hq2x2 => (simp only [List.getElem?_toArray, List.getElem?_cons_zero, List.getElem?_cons_succ]; try rfl)
                    case aq2x2 => kernel_rfl
                    case bq2x2 => kernel_rfl
                    case cq2x2 => kernel_rfl
                    case qq2x2 => exact fun _ _ _ h => h
                    case wq2x2 => rfl
                    case yq2x2 =>
                      intro w hSw
                      (try dsimp only at hSw)
                      go_simp
                      try with_reducible rfl
                    try simp only [Act.put, List.setIfInBounds_toArray, List.set_cons_zero, List.set_cons_succ]
                    refine wpAnyH_take (i := 3) (oi := ?oq2x3) (v := ?vq2x3) ?hq2x3 ?aq2x3 ?bq2x3 ?cq2x3 ?qq2x3 (Or.inl ⟨?wq2x3, ?yq2x3⟩) hHeld ?rq2x3
                    case hq2x3 => (simp only [List.getElem?_toArray, List.getElem?_cons_zero, List.getElem?_cons_succ]; try rfl)
                    case aq2x3 => kernel_rfl
                    case bq2x3 => kernel_rfl
                    case cq2x3 => kernel_rfl
                    case qq2x3 => exact fun _ _ _ h => h
                    case wq2x3 => rfl
                    case yq2x3 =>
                      intro w hSw
                      (try dsimp only at hSw)
                      go_simp
                      try with_reducible rfl
                    try simp only [Act.put, List.setIfInBounds_toArray, List.set_cons_zero, List.set_cons_succ]
                    refine wpAnyH_take (i := 4) (oi := ?oq2x4) (v := ?vq2x4) ?hq2x4 ?aq2x4 ?bq2x4 ?cq2x4 ?qq2x4 (Or.inl ⟨?wq2x4, ?yq2x4⟩) hHeld ?rq2x4
                    case hq2x4 => (simp only [List.getElem?_toArray, List.getElem?_cons_zero, List.getElem?_cons_succ]; try rfl)
                    case aq2x4 => kernel_rfl
                    case bq2x4 => kernel_rfl
                    case cq2x4 => kernel_rfl
                    case qq2x4 => exact fun _ _ _ h => h
                    case wq2x4 => rfl
                    case yq2x4 =>
                      intro w hSw
                      (try dsimp only at hSw)
                      go_simp
                      try with_reducible rfl
                    try simp only [Act.put, List.setIfInBounds_toArray, List.set_cons_zero, List.set_cons_succ]
                    refine wpAnyH_take (i := 5) (oi := ?oq2x5) (v := ?vq2x5) ?hq2x5 ?aq2x5 ?bq2x5 ?cq2x5 ?qq2x5 (Or.inl ⟨?wq2x5, ?yq2x5⟩) hHeld ?rq2x5
                    case hq2x5 => (simp only [List.getElem?_toArray, List.getElem?_cons_zero, List.getElem?_cons_succ]; try rfl)
                    case aq2x5 => kernel_rfl
                    case bq2x5 => kernel_rfl
                    case cq2x5 => kernel_rfl
                    case qq2x5 => exact fun _ _ _ h => h
                    case wq2x5 => rfl
                    case yq2x5 =>
                      intro w hSw
                      (try dsimp only at hSw)
                      go_simp
                      try with_reducible rfl
                    try simp only [Act.put, List.setIfInBounds_toArray, List.set_cons_zero, List.set_cons_succ]
                    refine wpAnyH_take (i := 6) (oi := ?oq2x6) (v := ?vq2x6) ?hq2x6 ?aq2x6 ?bq2x6 ?cq2x6 ?qq2x6 (Or.inl ⟨?wq2x6, ?yq2x6⟩) hHeld ?rq2x6
                    case hq2x6 => (simp only [List.getElem?_toArray, List.getElem?_cons_zero, List.getElem?_cons_succ]; try rfl)
                    case aq2x6 => kernel_rfl
                    case bq2x6 => kernel_rfl
                    case cq2x6 => kernel_rfl
                    case qq2x6 => exact fun _ _ _ h => h
                    case wq2x6 => rfl
                    case yq2x6 =>
                      intro w hSw
                      (try dsimp only at hSw)
                      go_simp
                      try with_reducible rfl
                    try simp only [Act.put, List.setIfInBounds_toArray, List.set_cons_zero, List.set_cons_succ]
                    refine wpAnyH_take (i := 7) (oi := ?oq2x7) (v := ?vq2x7) ?hq2x7 ?aq2x7 ?bq2x7 ?cq2x7 ?qq2x7 (Or.inl ⟨?wq2x7, ?yq2x7⟩) hHeld ?rq2x7
                    case hq2x7 => (simp only [List.getElem?_toArray, List.getElem?_cons_zero, List.getElem?_cons_succ]; try rfl)
                    case aq2x7 => kernel_rfl
                    case bq2x7 => kernel_rfl
                    case cq2x7 => kernel_rfl
                    case qq2x7 => exact fun _ _ _ h => h
                    case wq2x7 => rfl
                    case yq2x7 =>
                      intro w hSw
                      (try dsimp only at hSw)
                      go_simp
                      try with_reducible rfl
                    try simp only [Act.put, List.setIfInBounds_toArray, List.set_cons_zero, List.set_cons_succ]
                    refine wpAnyH_take (i := 8) (oi := ?oq2x8) (v := ?vq2x8) ?hq2x8 ?aq2x8 ?bq2x8 ?cq2x8 ?qq2x8 (Or.inl ⟨?wq2x8, ?yq2x8⟩) hHeld ?rq2x8
                    case hq2x8 => (simp only [List.getElem?_toArray, List.getElem?_cons_zero, List.getElem?_cons_succ]; try rfl)
                    case aq2x8 => kernel_rfl
                    case bq2x8 => kernel_rfl
                    case cq2x8 => kernel_rfl
                    case qq2x8 => exact fun _ _ _ h => h
                    case wq2x8 => rfl
                    case yq2x8 =>
                      intro w hSw
                      (try dsimp only at hSw)
                      go_simp
                      try with_reducible rfl
                    try simp only [Act.put, List.setIfInBounds_toArray, List.set_cons_zero, List.set_cons_succ]
                    refine wpAnyH_take (i := 9) (oi := ?oq2x9) (v := ?vq2x9) ?hq2x9 ?aq2x9 ?bq2x9 ?cq2x9 ?qq2x9 (Or.inl ⟨?wq2x9, ?yq2x9⟩) hHeld ?rq2x9
                    case hq2x9 => (simp only [List.getElem?_toArray, List.getElem?_cons_zero, List.getElem?_cons_succ]; try rfl)
                    case aq2x9 => kernel_rfl
                    case bq2x9 => kernel_rfl
                    case cq2x9 => kernel_rfl
                    case qq2x9 => exact fun _ _ _ h => h
                    case wq2x9 => rfl
                    case yq2x9 =>
                      intro w hSw
                      (try dsimp only at hSw)
                      go_simp
                      try with_reducible rfl
                    try simp only [Act.put, List.setIfInBounds_toArray, List.set_cons_zero, List.set_cons_succ]
                    refine wpAnyH_take (i := 10) (oi := ?oq2x10) (v := ?vq2x10) ?hq2x10 ?aq2x10 ?bq2x10 ?cq2x10 ?qq2x10 (Or.inl ⟨?wq2x10, ?yq2x10⟩) hHeld ?rq2x10
                    case hq2x10 => (simp only [List.getElem?_toArray, List.getElem?_cons_zero, List.getElem?_cons_succ]; try rfl)
                    case aq2x10 => kernel_rfl
                    case bq2x10 => kernel_rfl
                    case cq2x10 => kernel_rfl
                    case qq2x10 => exact fun _ _ _ h => h
                    case wq2x10 => rfl
                    case yq2x10 =>
                      intro w hSw
                      (try dsimp only at hSw)
                      go_simp
                      try with_reducible rfl
                    try simp only [Act.put, List.setIfInBounds_toArray, List.set_cons_zero, List.set_cons_succ]
                    refine wpAnyH_take (i := 11) (oi := ?oq2x11) (v := ?vq2x11) ?hq2x11 ?aq2x11 ?bq2x11 ?cq2x11 ?qq2x11 (Or.inl ⟨?wq2x11, ?yq2x11⟩) hHeld ?rq2x11
                    case hq2x11 => (simp only [List.getElem?_toArray, List.getElem?_cons_zero, List.getElem?_cons_succ]; try rfl)
                    case aq2x11 => kernel_rfl
                    case bq2x11 => kernel_rfl
                    case cq2x11 => kernel_rfl
                    case qq2x11 => exact fun _ _ _ h => h
                    case wq2x11 => rfl
                    case yq2x11 =>
                      intro w hSw
                      (try dsimp only at hSw)
                      go_simp
                      try with_reducible rfl
                    try simp only [Act.put, List.setIfInBounds_toArray, List.set_cons_zero, List.set_cons_succ]
                    refine wpAnyH_take (i := 12) (oi := ?oq2x12) (v := ?vq2x12) ?hq2x12 ?aq2x12 ?bq2x12 ?cq2x12 ?qq2x12 (Or.inl ⟨?wq2x12, ?yq2x12⟩) hHeld ?rq2x12
                    case hq2x12 => (simp only [List.getElem?_toArray, List.getElem?_cons_zero, List.getElem?_cons_succ]; try rfl)
                    case aq2x12 => kernel_rfl
                    case bq2x12 => kernel_rfl
                    case cq2x12 => kernel_rfl
                    case qq2x12 => exact fun _ _ _ h => h
                    case wq2x12 => rfl
                    case yq2x12 =>
                      intro w hSw
                      (try dsimp only at hSw)
                      go_simp
                      try with_reducible rfl
                    try simp only [Act.put, List.setIfInBounds_toArray, List.set_cons_zero, List.set_cons_succ]
                    refine wpAnyH_done (by kernel_rfl) ?_ _
                    dsimp only [TailQ]
                    clear hHeld
                    go_wp2_with fail
                    go_roundw
                    case rel => exact ⟨k + 1, by omega, by go_num, Lib.hid (by rw [HF.out, HC3.out]; exact SX.out), HG3⟩
                    case measure => simp [intOf]; omega
              | false =>
                as_aux_lemma =>
                  have hno := of_decide_eq_false hTST.symm
                  have hfin : addD (A0, B0) eC D = putW D ⟨A0, B0, eC⟩ PO := by rw [hadd, if_neg hno]
                  have HF := Lib.hid (HADD.out.trans hfin)
                  obtain ⟨N1, hN1⟩ : ∃ N1, N1 = N + 1 := ⟨_, rfl⟩
                  have HLEN7 := Lib.hid (show (D ++ [(⟨0, 0, 0⟩ : Ed)]).length = N1 by rw [List.length_append, List.length_singleton, hN1, HN.out])
                  have w1 : IntKind.i64.wrap ((N1 : Int) - 1) = (N : Int) := by rw [IntKind.wrap_i64]; omega
                  have HN1 := Lib.hid hN1
                  have hw2s := HK2.out.size
                  clear hadd hno hfin hTST hN1 r22
                  go_upto_block 8 with (at_builtin; refine wpList_pushes (by rfl) (.tmp 180) (.tmp 182) 27 (by rfl) Tryz.underlying27 info_edge (by rfl) (by decide) (base := W.heap.size) (f := ced) (l := D) (by rfl) (by exact HOW2.out.keep (by repeat (with_reducible (first | assumption | exact Keeps.refl _ | refine Keeps.alloc ?_ _ | refine Keeps.drew ?_ | refine Keeps.drewN ?_ _)))) [⟨0, 0, 0⟩] _ _ (by rfl) (by exact Blk.top' _ _ (by first | rfl | simp)) ced_len ced_one (by simp only [List.length_cons, List.length_nil, ← HN.out]; omega) (by simp only [List.length_cons, List.length_nil, ← HN.out]; unfold maxLen; omega) (by first | omega | (simp only [sz_alloc]; omega)) ?_; intro v7 w7 hown7 hbel7 hgr7 hfr7; obtain ⟨a8, c8, e7⟩ := own_form' hown7; rw [HLEN7.out] at e7; subst e7)
                  have HO7 := Lib.hid (show Own w7 W.heap.size 43 3 ced (.slice a8 N1 c8) (D ++ [(⟨0, 0, 0⟩ : Ed)]) from hown7)
                  have HK7 := Lib.hid ((show Keeps W _ from HK2.out.trans (show Keeps w2 _ from (by repeat (with_reducible (first | assumption | exact Keeps.refl _ | refine Keeps.alloc ?_ _ | refine Keeps.drew ?_ | refine Keeps.drewN ?_ _))))).trans' hbel7 (Nat.le_refl _))
                  clear hown7 hbel7 hgr7 hfr7
                  obtain ⟨ws, hws⟩ : ∃ ws : World, ws = w7 := ⟨_, rfl⟩
                  subst hws
                  go_cut [] (fun wx => Hid (Own wx W.heap.size 43 3 ced (.slice a8 N1 c8) (shg D ⟨0, 0, 0⟩ PO)) ∧ Hid (Keeps W wx))
                  case first =>
                    as_aux_lemma =>
                      go_wp2_with fail
                      go_loopw [14] (fun s14 wr => ∃ j : Nat, PO ≤ j ∧ j ≤ N ∧ s14 = .int .i64 j ∧ Hid (Own wr W.heap.size 43 3 ced (.slice a8 N1 c8) (shg D ⟨0, 0, 0⟩ j)) ∧ Hid (Keeps W wr)) (fun s14 _ => (intOf s14).toNat)
                      case atStart => exact ⟨N, hPOl, Nat.le_refl _, rfl, Lib.hid (by rw [HN.out, shg_top]; exact HO7.out), HK7⟩
                      case round =>
                        obtain ⟨j, hj1, hj2, rfl, HSJ, HKS⟩ := hrel
                        by_cases hltj : PO < j
                        · have hltjz : (PO : Int) < (j : Int) := by omega
                          have hshl := shg_len D (⟨0, 0, 0⟩ : Ed) j (by rw [← HN.out]; exact hj2)
                          obtain ⟨hsp, hss⟩ := shg_step D (⟨0, 0, 0⟩ : Ed) (j := j) (by omega) (by rw [← HN.out]; exact hj2)
                          rw [← HN.out] at hshl
                          obtain ⟨g7, cap7, e7, hb7, -, -, g7l, cs7, fz7, st7⟩ := own_setw (f := ced) (k := 3) (fun _ => rfl) HSJ.out (i := j) (by rw [hshl]; omega)
                          injection e7 with e71 e72 e73
                          subst e71
                          obtain ⟨⟨xF, xT, xC⟩, hxx⟩ : ∃ x : Ed, x = nth D (j - 1) := ⟨_, rfl⟩
                          obtain ⟨J, hJ⟩ : ∃ J, J = j - 1 := ⟨_, rfl⟩
                          have p70 : wr.cell? ⟨g7, J * 3, none⟩ = some (.int .i64 xF) := by rw [hJ]; exact cs7 (j - 1) 0 _ (by rw [hshl]; omega) (by decide) (by rw [hsp, ← hxx]; rfl)
                          have p71 : wr.cell? ⟨g7, J * 3 + 1, none⟩ = some (.int .i64 xT) := by rw [hJ]; exact cs7 (j - 1) 1 _ (by rw [hshl]; omega) (by decide) (by rw [hsp, ← hxx]; rfl)
                          have p72 : wr.cell? ⟨g7, J * 3 + 2, none⟩ = some (.int .i64 xC) := by rw [hJ]; exact cs7 (j - 1) 2 _ (by rw [hshl]; omega) (by decide) (by rw [hsp, ← hxx]; rfl)
                          obtain ⟨oz, hoz⟩ : ∃ z : Ed, z = nth (shg D (⟨0, 0, 0⟩ : Ed) j) j := ⟨_, rfl⟩
                          have o70 : wr.cell? ⟨g7, j * 3, none⟩ = some (.int .i64 oz.From) := cs7 j 0 _ (by rw [hshl]; omega) (by decide) (by rw [← hoz]; rfl)
                          have o71 : wr.cell? ⟨g7, j * 3 + 1, none⟩ = some (.int .i64 oz.To) := cs7 j 1 _ (by rw [hshl]; omega) (by decide) (by rw [← hoz]; rfl)
                          have o72 : wr.cell? ⟨g7, j * 3 + 2, none⟩ = some (.int .i64 oz.Count) := cs7 j 2 _ (by rw [hshl]; omega) (by decide) (by rw [← hoz]; rfl)
                          have f70 := fz7 (j * 3)
                          have f71 := fz7 (j * 3 + 1)
                          have f72 := fz7 (j * 3 + 2)
                          have sx := st7 ⟨xF, xT, xC⟩
                          rw [hxx, hss, ← hxx, ← hJ] at sx
                          have sx2 : Own (((wr.setCell ⟨g7, j * 3, none⟩ (.int .i64 xF)).setCell ⟨g7, j * 3 + 1, none⟩ (.int .i64 xT)).setCell ⟨g7, j * 3 + 2, none⟩ (.int .i64 xC)) W.heap.size 43 3 ced (.slice (some ⟨g7, 0, none⟩) N1 c8) (shg D ⟨0, 0, 0⟩ J) := sx
                          have skw : Keeps W (((wr.setCell ⟨g7, j * 3, none⟩ (.int .i64 xF)).setCell ⟨g7, j * 3 + 1, none⟩ (.int .i64 xT)).setCell ⟨g7, j * 3 + 2, none⟩ (.int .i64 xC)) := ((HKS.out.setCell hb7 _).setCell hb7 _).setCell hb7 _
                          have wJ : IntKind.i64.wrap ((j : Int) - 1) = (J : Int) := by rw [IntKind.wrap_i64]; omega
                          have hjz : (j : Int) < (N1 : Int) := by have := HN1.out; omega
                          have hJz : (J : Int) < (N1 : Int) := by have := HN1.out; omega
                          have hJA : PO ≤ J := by omega
                          have hJj : J < j := by omega
                          have SX := Lib.hid sx2
                          have SKW := Lib.hid skw
                          clear hshl hsp hss e72 e73 cs7 fz7 st7 hxx sx sx2 skw hJ hoz
                          go_wp2_with fail
                          go_roundw
                          case rel => exact ⟨J, by omega, by omega, by go_num, Lib.hid (SX.out), Lib.hid (SKW.out)⟩
                          case measure => simp [intOf]; omega
                        · obtain rfl : PO = j := by omega
                          go_wp2_with fail
                          go_meet
                          case rel => exact ⟨HSJ, HKS⟩
                  case rest =>
                    obtain ⟨HSJ, HKS⟩ := hcut
                    obtain ⟨w8, hw8⟩ : ∃ w8 : World, w8 = wc := ⟨_, rfl⟩
                    subst hw8
                    have r28 := HKS.out.cell HPW.out
                    have hshl := shg_len D (⟨0, 0, 0⟩ : Ed) PO (by rw [← HN.out]; exact hPOl)
                    rw [← HN.out] at hshl
                    obtain ⟨g7, cap7, e7, hb7, -, -, g7l, cs7, fz7, st7⟩ := own_setw (f := ced) (k := 3) (fun _ => rfl) HSJ.out (i := PO) (by rw [hshl]; omega)
                    injection e7 with e71 e72 e73
                    subst e71
                    obtain ⟨oz, hoz⟩ : ∃ z : Ed, z = nth (shg D (⟨0, 0, 0⟩ : Ed) PO) PO := ⟨_, rfl⟩
                    have o70 : w8.cell? ⟨g7, PO * 3, none⟩ = some (.int .i64 oz.From) := cs7 PO 0 _ (by rw [hshl]; omega) (by decide) (by rw [← hoz]; rfl)
                    have o71 : w8.cell? ⟨g7, PO * 3 + 1, none⟩ = some (.int .i64 oz.To) := cs7 PO 1 _ (by rw [hshl]; omega) (by decide) (by rw [← hoz]; rfl)
                    have o72 : w8.cell? ⟨g7, PO * 3 + 2, none⟩ = some (.int .i64 oz.Count) := cs7 PO 2 _ (by rw [hshl]; omega) (by decide) (by rw [← hoz]; rfl)
                    have f70 := fz7 (PO * 3)
                    have f71 := fz7 (PO * 3 + 1)
                    have f72 := fz7 (PO * 3 + 2)
                    have sx := st7 ⟨A0, B0, eC⟩
                    rw [shg_put D (⟨0, 0, 0⟩ : Ed) _ (by rw [← HN.out]; exact hPOl)] at sx
                    have sx2 : Own (((w8.setCell ⟨g7, PO * 3, none⟩ (.int .i64 A0)).setCell ⟨g7, PO * 3 + 1, none⟩ (.int .i64 B0)).setCell ⟨g7, PO * 3 + 2, none⟩ (.int .i64 eC)) W.heap.size 43 3 ced (.slice (some ⟨g7, 0, none⟩) N1 c8) (putW D ⟨A0, B0, eC⟩ PO) := sx
                    have skw : Keeps W (((w8.setCell ⟨g7, PO * 3, none⟩ (.int .i64 A0)).setCell ⟨g7, PO * 3 + 1, none⟩ (.int .i64 B0)).setCell ⟨g7, PO * 3 + 2, none⟩ (.int .i64 eC)) := ((HKS.out.setCell hb7 _).setCell hb7 _).setCell hb7 _
                    have hAz : (PO : Int) < (N1 : Int) := by have := HN1.out; omega
                    have heb8 : eb0 < w8.heap.size := lt_of_cell r28
                    have SX := Lib.hid sx2
                    have SKW := Lib.hid skw
                    clear hshl e72 e73 cs7 fz7 st7 sx sx2 skw hoz
                    go_wp2_with fail
                    go_roundw
                    case rel => exact ⟨k + 1, by omega, by go_num, Lib.hid (by rw [HF.out]; exact SX.out), SKW⟩
                    case measure => simp [intOf]; omega
end Go.Proofs.YtjnhiiidcjajbaaGreatDoor
