/-
  The document's OrderOf: the order of a flow's blocks by edges.
-/
import Derived.Test.YtofaghcnkppmbaaOrdRefD
import Derived.Test.YtofaghcnkppmbaaOrdHeatQ
import Derived.Test.YtofaghcnkppmbaaOrdOrder
import Derived.Test.YtofaghcnkppmbaaOrdFits
import Derived.Test.YtofaghcnkppmbaaNumsCopy
import Derived.OwnWalk
namespace Go.Proofs.Ytofaghcnkppmbaa
open Go.RowKit BH Go.Sort
set_option maxHeartbeats 1000000000
set_option maxRecDepth 100000
/-- the order that the document answers -/
def orderD (f : Fl) (l : List Ed) : List Pa := if orderE f l = 0 then outDoc f l (docL f l l.length).2 else []
theorem orderOf_any {f : Fl} {l : List Ed} {vf vl : Value} {w : World} (hf : FlowAt w vf f) (hl : Edges w vl l) (hnb : f.Blocks.length ≤ 1073741824) (hnf : f.Firsts.length ≤ 1073741824) (hne : l.length ≤ 1073741824) :
    Calls Try.prog 6 #[vf, vl] w (GivesN (fun v w' => PartsAt w' v (orderD f l)) (orderE f l) w) := by
  have HFL := Lib.hid hf
  have HL := Lib.hid hl
  obtain ⟨v0, v1, v2, rfl, ⟨cv, av, lv, ⟨ao, cap, rfl, b1, b2, -, b3⟩, -⟩, ⟨tv, ⟨tao, tcap, rfl, -⟩, -⟩, hF⟩ := hf
  obtain ⟨fao, fcap, rfl, f1, f2, -, f3⟩ := hF
  obtain ⟨lao, lcap, rfl, l1, l2, -, l3⟩ := hl
  unfold maxLen at b2 f2 l2
  have CHK : ∀ w', Keeps w w' → Calls Try.prog 18 #[.agg #[.slice ao f.Blocks.length cap, .slice tao f.Tables.length tcap, .slice fao f.Firsts.length fcap]] w' fun e w'' => e = .returned (.bool (flowFit f)) ∧ Keeps w' w'' := fun w' hk => fits_any _ f w' (HFL.out.keep hk)
  have CHE : ∀ w', Keeps w w' → Calls Try.prog 19 #[.slice lao l.length lcap, .int .i64 (f.Blocks.length : Int)] w' fun e w'' => e = .returned (.int .i64 (edgesGo (f.Blocks.length : Int) l l.length 0)) ∧ Keeps w' w'' := fun w' hk => edgesFault_any _ l _ w' (Arr.keep HL.out hk)
  obtain ⟨W, hW, hBX, hk0⟩ : ∃ W, W = w.alloc (.cells #[.slice ao f.Blocks.length cap, .slice tao f.Tables.length tcap, .slice fao f.Firsts.length fcap] 26) ∧ Blk W w.heap.size (.cells #[.slice ao f.Blocks.length cap, .slice tao f.Tables.length tcap, .slice fao f.Firsts.length fcap] 26) ∧ Keeps w W := ⟨_, rfl, Blk.top _ _, (Keeps.refl _).alloc _⟩
  have HCHK := Lib.hid CHK
  have HCHE := Lib.hid CHE
  clear CHK CHE
  obtain ⟨fb, hfb⟩ : ∃ fb, fb = w.heap.size := ⟨_, rfl⟩
  rw [← hfb] at hBX
  have x0 := hBX.cell (j := 0) rfl
  have x1 := hBX.cell (j := 1) rfl
  have x2 := hBX.cell (j := 2) rfl
  have hxl := hBX.lt
  have hfw : w.heap.size ≤ fb := by omega
  have HW := Lib.hid hW
  have HBX := Lib.hid hBX
  have HK0 := Lib.hid hk0
  have HFB := Lib.hid hfb
  clear hW hBX hk0
  go_enter Try.func6, Try.ntmps6
  go_upto_region 1 with fail
  rw [← HW.out]
  rw [← hfb]
  clear hfb
  by_cases hff : flowFit f = true
  case neg =>
    have hff' : flowFit f = false := by simpa using hff
    have hE : orderE f l = 8 := by unfold orderE; rw [if_neg hff]
    have hS : orderD f l = [] := by unfold orderD; rw [if_neg (by rw [hE]; decide)]
    have HE := Lib.hid hE
    have HS := Lib.hid hS
    rw [hff'] at HCHK
    clear hE hS hff hff'
    go_wp2_with (go_at_call 18; refine (HCHK.out _ (HK0.out.trans (by repeat (with_reducible (first | assumption | exact Keeps.refl _ | refine Keeps.alloc ?_ _ | refine Keeps.drew ?_ | refine Keeps.drewN ?_ _))))).mono ?_; rintro e wa ⟨rfl, hka⟩)
    refine bodyPost_ret (results_tmp2 rfl _ _ _) rfl ?_
    exact ⟨.slice none 0 0, by rw [HE.out]; rfl, by rw [HS.out]; exact partsAt_nil _, HK0.out.trans (Keeps.trans (by repeat (with_reducible (first | assumption | exact Keeps.refl _ | refine Keeps.alloc ?_ _ | refine Keeps.drew ?_ | refine Keeps.drewN ?_ _))) hka)⟩
  case pos =>
    rw [hff] at HCHK
    have hE : orderE f l = edgesGo (f.Blocks.length : Int) l l.length 0 := by unfold orderE; rw [if_pos hff]
    have HFF := Lib.hid hff
    clear hff
    obtain ⟨ee, hee⟩ : ∃ ee, ee = edgesGo (f.Blocks.length : Int) l l.length 0 := ⟨_, rfl⟩
    rw [← hee] at HCHE hE
    have HE := Lib.hid hE
    have HEE := Lib.hid hee
    clear hE hee
    go_upto_region 3 with (go_at_call 18; refine (HCHK.out _ (HK0.out.trans (by repeat (with_reducible (first | assumption | exact Keeps.refl _ | refine Keeps.alloc ?_ _ | refine Keeps.drew ?_ | refine Keeps.drewN ?_ _))))).mono ?_; rintro e wa ⟨rfl, hka⟩)
    have y0 := hka.cell x0
    have y1 := hka.cell x1
    have y2 := hka.cell x2
    have HKA := Lib.hid (HK0.out.trans (show Keeps W wa from Keeps.trans (by repeat (with_reducible (first | assumption | exact Keeps.refl _ | refine Keeps.alloc ?_ _ | refine Keeps.drew ?_ | refine Keeps.drewN ?_ _))) hka))
    have HKW := Lib.hid (show Keeps W wa from Keeps.trans (by repeat (with_reducible (first | assumption | exact Keeps.refl _ | refine Keeps.alloc ?_ _ | refine Keeps.drew ?_ | refine Keeps.drewN ?_ _))) hka)
    clear hka
    by_cases hee0 : ee = 0
    case neg =>
      have te : (ee != 0) = true := by simpa using hee0
      have hS : orderD f l = [] := by unfold orderD; rw [if_neg (by rw [HE.out]; exact hee0)]
      have HS := Lib.hid hS
      clear hS hee0
      go_wp2_with (go_at_call 19; refine (HCHE.out _ (HKA.out.trans (by repeat (with_reducible (first | assumption | exact Keeps.refl _ | refine Keeps.alloc ?_ _ | refine Keeps.drew ?_ | refine Keeps.drewN ?_ _))))).mono ?_; rintro e wb ⟨rfl, hkb⟩)
      refine bodyPost_ret (results_tmp2 rfl _ _ _) rfl ?_
      exact ⟨.slice none 0 0, by rw [HE.out]; rfl, by rw [HS.out]; exact partsAt_nil _, HKA.out.trans (Keeps.trans (by repeat (with_reducible (first | assumption | exact Keeps.refl _ | refine Keeps.alloc ?_ _ | refine Keeps.drew ?_ | refine Keeps.drewN ?_ _))) hkb)⟩
    case pos =>
      subst hee0
      have hS : orderD f l = outDoc f l (docL f l l.length).2 := by unfold orderD; rw [if_pos HE.out]
      have HS := Lib.hid hS
      clear hS
      go_upto_region 6 with (go_at_call 19; refine (HCHE.out _ (HKA.out.trans (by repeat (with_reducible (first | assumption | exact Keeps.refl _ | refine Keeps.alloc ?_ _ | refine Keeps.drew ?_ | refine Keeps.drewN ?_ _))))).mono ?_; rintro e wb ⟨rfl, hkb⟩)
      have z0 := hkb.cell y0
      have z1 := hkb.cell y1
      have z2 := hkb.cell y2
      have HKB := Lib.hid (HKA.out.trans hkb)
      have HKWB := Lib.hid (HKW.out.trans hkb)
      have hlb : fb < wb.heap.size := lt_of_cell z0
      clear hkb y0 y1 y2 x0 x1 x2
      go_upto_block 0 with fail
      go_cut [7] (fun s7 wx => ∃ vs : List Sle, RowSt wx wb.heap.size 24 s7 vs ((List.range f.Blocks.length).map fun i : Nat => [(i : Int)]) ∧ Keeps wb wx)
      case first =>
        as_aux_lemma =>
          go_wp2_with fail
          go_loopw [7, 8] (fun s7 s8 wr => ∃ (i : Nat) (vs : List Sle), i ≤ f.Blocks.length ∧ s8 = .int .i64 i ∧ Hid (RowSt wr wb.heap.size 24 s7 vs ((List.range i).map fun i : Nat => [(i : Int)])) ∧ Hid (Keeps wb wr)) (fun _ s8 _ => f.Blocks.length - (intOf s8).toNat)
          case atStart => exact ⟨0, [], Nat.zero_le _, rfl, Lib.hid (RowSt.nil _ _ _), Lib.hid (Keeps.refl _)⟩
          case round =>
            obtain ⟨i, vs, hi, rfl, HR, HK⟩ := hrel
            obtain ⟨a7, c7, e7⟩ := own_form' HR.out.own
            subst e7
            have u0 := HK.out.cell z0
            by_cases hlt : i < f.Blocks.length
            · have hltz : (i : Int) < (f.Blocks.length : Int) := by omega
              have hvl : vs.length ≤ 1073741824 := by rw [HR.out.len]; simp; omega
              have hbs := HK.out.size
              go_wp2_with (at_builtin; refine wpList_pushes (by rfl) (.tmp 52) (.tmp 55) 23 (by rfl) Try.underlying23 info_ints (by rfl) (by decide) (base := wb.heap.size) (f := sle) (l := vs) (by rfl) (by exact HR.out.own.keep (by repeat (with_reducible (first | assumption | exact Keeps.refl _ | refine Keeps.alloc ?_ _ | refine Keeps.drew ?_ | refine Keeps.drewN ?_ _)))) [⟨some ⟨wr.heap.size, 0, none⟩, 1, 1⟩] _ _ (by rfl) (by exact Blk.top' _ _ (by first | rfl | simp)) sle_len sle_one (by simp only [List.length_cons, List.length_nil]; omega) (by simp only [List.length_cons, List.length_nil]; unfold maxLen; omega) (by first | omega | (simp only [sz_alloc]; omega)) ?_; intro v7 w7 hown7 hbel7 hgr7 hfr7; obtain ⟨a7', c7', rfl⟩ := own_form' hown7)
              have hp := RowSt.push (wc := wr.alloc (.cells #[.int .i64 (i : Int)] 3)) (p := ⟨some ⟨wr.heap.size, 0, none⟩, 1, 1⟩) (l := [(i : Int)]) HR.out hbs ((Keeps.refl _).alloc _) (Own.of_block (base := wr.heap.size) (l := [(i : Int)]) ci_len (Nat.le_refl _) (Blk.top _ _) (by unfold maxLen; simp)).ints (fun b q => by have e : wr.heap.size = b := Option.some.inj q; rw [sz_alloc]; omega) hown7 hgr7 hfr7 (by repeat (with_reducible (first | assumption | exact Keeps.refl _ | refine Keeps.alloc ?_ _ | refine Keeps.drew ?_ | refine Keeps.drewN ?_ _)))
              rw [List.length_append] at hp
              have HP := Lib.hid hp
              have HK7 := Lib.hid (HK.out.trans' (Below.trans (Below.mono (show Keeps wr _ from (by repeat (with_reducible (first | assumption | exact Keeps.refl _ | refine Keeps.alloc ?_ _ | refine Keeps.drew ?_ | refine Keeps.drewN ?_ _)))) hbs) hbel7) (Nat.le_refl _))
              clear hp hown7 hbel7 hgr7 hfr7
              go_roundw
              case rel => exact ⟨i + 1, vs ++ [⟨some ⟨wr.heap.size, 0, none⟩, 1, 1⟩], by omega, by go_num, Lib.hid (by rw [List.range_succ, List.map_append]; exact HP.out), HK7⟩
              case measure => simp [intOf]; omega
            · obtain rfl : i = f.Blocks.length := by omega
              go_wp2_with fail
              go_meet
              case rel => exact ⟨vs, HR.out, HK.out⟩
      case rest =>
        obtain ⟨vs0, hr0, hk0⟩ := hcut
        obtain ⟨aL, cL, eL⟩ := own_form' hr0.own
        subst eL
        have hft := hr0.foot
        have hwcs := hk0.size
        obtain ⟨dk, hdk⟩ : ∃ dk, dk = wc.heap.size := ⟨_, rfl⟩
        have hHk : Keeps w wc := HKB.out.trans hk0
        have z0 := hk0.cell z0
        have z1 := hk0.cell z1
        have z2 := hk0.cell z2
        have HFT := Lib.hid hft
        have HKC := Lib.hid hHk
        have hlc : fb < wc.heap.size := by omega
        clear hft hHk hk0
        obtain ⟨ti, hti, htz, hts, htb⟩ := info_parts info_bool
        go_upto_region 12 with (at_make; refine wpList_make_full _ rfl _ _ 55 rfl wc.heap.size 4 ti (.bool false) 1 Try.underlying55 hti htz hts .i64 .i64 _ _ l.length rfl rfl rfl rfl (by rw [htb]; omega) (by unfold maxLen; omega) (Nat.le_refl _) ?_; intro w2 hown2 hgr2)
        rw [← hdk] at hown2 ⊢
        have k12 : Keeps wc w2 := below_grown hgr2 (Nat.le_refl _) fun q e => by cases e
        have HFT2 := Lib.hid (HFT.out.keep k12)
        have HK2 := Lib.hid (HKC.out.trans k12)
        have HDN := Lib.hid (own_falses hown2)
        have hdl : dk < w2.heap.size := own_lt' (own_falses hown2) rfl
        have hnS : ¬ (wb.heap.size ≤ dk ∧ dk < wc.heap.size) := by omega
        have z0 := k12.cell z0
        have z1 := k12.cell z1
        have z2 := k12.cell z2
        have hfd : fb < dk := by omega
        have hwd : w.heap.size ≤ dk := by omega
        have hl0 : vs0.length = f.Blocks.length := by rw [hr0.len]; simp
        have hok : ∀ e, e ∈ l → EdOk f.Blocks.length e := fun e he => by
          obtain ⟨j, hj, q⟩ := List.mem_iff_getElem.1 he
          have := edges_ok l.length 0 HEE.out.symm (by omega) j (Nat.zero_le _) hj
          rwa [nth_eq _ _ hj, q] at this
        have HOK := Lib.hid hok
        clear k12 hown2 hgr2 hti htz hts htb hr0 hok hdk
        go_upto_block 2 with fail
        go_cut [7] (fun s7 wx => Hid (Tabs wx s7 (docL f l l.length).2) ∧ Hid (Only (fun b => b = dk) w2 wx))
        case first =>
          as_aux_lemma =>
            go_wp2_with fail
            go_loopw [7, 10] (fun s7 s10 wr => ∃ (n : Nat) (S : Nat → Prop), n ≤ l.length ∧ s10 = .int .i64 n ∧ Hid (Foot S (fun w => Tabs w s7 (docL f l n).2) wr ∧ ¬ S dk) ∧ Hid (Own wr dk 4 1 cbo (.slice (some ⟨dk, 0, none⟩) l.length l.length) (docL f l n).1) ∧ Hid (Only (fun b => b = dk) w2 wr)) (fun _ s10 _ => l.length - (intOf s10).toNat)
            case atStart =>
              exact ⟨0, (fun b => wb.heap.size ≤ b ∧ b < wc.heap.size), Nat.zero_le _, rfl, Lib.hid ⟨HFT2.out, hnS⟩, HDN, Lib.hid (Only.refl _ _)⟩
            case round =>
              obtain ⟨n, S, hn, rfl, HT, HD, HO⟩ := hrel
              obtain ⟨tvL, ⟨aoL, capL, eL, c1L, c2L, -, c3L⟩, rwL⟩ := HT.out.1.here
              subst eL
              by_cases hlt : n < l.length
              · have hltz : (n : Int) < (l.length : Int) := by omega
                obtain ⟨bst, hbst, hbl⟩ := docL_best f l HOK.out hlt
                obtain ⟨hdl1, hch, hLl, hLf⟩ := docL_ch f l HOK.out (n := n) (by omega)
                obtain ⟨DN, hDN⟩ : ∃ DN, DN = (docL f l n).1 := ⟨_, rfl⟩
                obtain ⟨LL, hLL⟩ : ∃ LL, LL = (docL f l n).2 := ⟨_, rfl⟩
                rw [← hLL] at hch hLl hLf
                rw [← hDN] at hdl1 hbst
                have HDNE := Lib.hid hDN
                have HLLE := Lib.hid hLL
                rw [← hLL] at c1L c3L rwL ⊢
                obtain ⟨wo, hwo⟩ : ∃ wo : World, wo = wr := ⟨_, rfl⟩
                subst hwo
                have HLF := Lib.hid hch
                have HBST := Lib.hid hbst
                have hkwo : Keeps w wo := HK2.out.trans' (Only.below HO.out (B := w.heap.size) (fun b q => by omega) HK2.out.size) (Nat.le_refl _)
                have HKWO := Lib.hid hkwo
                have HDO := Lib.hid (show Own wo dk 4 1 cbo (.slice (some ⟨dk, 0, none⟩) l.length l.length) DN by rw [hDN]; exact HD.out)
                clear hch hbst hkwo hDN hLL
                go_upto_block 3 with fail
                go_cut [7] (fun s7 wx => ∃ S, Hid (Foot S (fun w => Tabs w s7 (docL f l (n + 1)).2) wx ∧ ¬ S dk) ∧ Hid (Own wx dk 4 1 cbo (.slice (some ⟨dk, 0, none⟩) l.length l.length) (docL f l (n + 1)).1) ∧ Hid (Only (fun b => b = dk) w2 wx))
                case first =>
                  as_aux_lemma =>
                    go_upto_block 4 with fail
                    go_cut [11] (fun s11 wx => s11 = .int .i64 (bst : Int) ∧ Hid (Keeps wo wx))
                    case first =>
                      as_aux_lemma =>
                        go_wp2_with fail
                        go_loopw [11, 12] (fun s11 s12 wr => ∃ k : Nat, k ≤ l.length ∧ s11 = .int .i64 (bestS l DN k) ∧ s12 = .int .i64 k ∧ Hid (Keeps wo wr)) (fun _ s12 _ => l.length - (intOf s12).toNat)
                        case atStart => exact ⟨0, Nat.zero_le _, rfl, rfl, Lib.hid (Keeps.refl _)⟩
                        case round =>
                          obtain ⟨k, hk, rfl, rfl, HKK⟩ := hrel
                          by_cases hltk : k < l.length
                          · have hltkz : (k : Int) < (l.length : Int) := by omega
                            obtain ⟨lb, lof, rfl, lc⟩ := l3 (by omega)
                            have HKA2 := Lib.hid (HKWO.out.trans HKK.out)
                            have ck : wr.cell? ⟨lb, lof + k * 3 + 2, none⟩ = some (.int .i64 (nth l k).Count) := HKA2.out.cell (lc k 2 hltk (by omega))
                            have hdcell := (own_read1 (h := fun x : Bool => Value.bool x) (HDO.out.keep HKK.out) (by omega))
                            obtain ⟨q9, cap9, e9, -, -, -, q9l, c9, -⟩ := hdcell
                            obtain rfl : q9 = dk := by injection e9 with e1 e2 e3; injection e1 with e1; injection e1 with e1; exact e1.symm
                            have d9 := c9 k (by omega)
                            obtain ⟨CK, hCK⟩ : ∃ z, z = (nth l k).Count := ⟨_, rfl⟩
                            rw [← hCK] at ck
                            have hsucc : bestS l DN (k + 1) = if nth DN k = false ∧ (bestS l DN k < 0 ∨ (nth l (bestS l DN k).toNat).Count < CK) then (k : Int) else bestS l DN k := by rw [hCK]; rfl
                            have HSUCC := Lib.hid hsucc
                            have hbi := bestS_is l DN k
                            clear c9 e9 hsucc hCK
                            cases hD : nth DN k with
                            | true =>
                              rw [hD] at d9
                              have hs : bestS l DN (k + 1) = bestS l DN k := by rw [HSUCC.out, if_neg (fun q => by rw [hD] at q; cases q.1)]
                              have HS2 := Lib.hid hs
                              generalize bestS l DN k = bk at *
                              clear hbi hs hD lc
                              go_wp2_with fail
                              go_quiet (fail)
                              go_wp2_with fail
                              go_roundw
                              case rel => exact ⟨k + 1, by omega, by rw [HS2.out], by go_num, Lib.hid (HKK.out.trans (by repeat (with_reducible (first | assumption | exact Keeps.refl _ | refine Keeps.alloc ?_ _ | refine Keeps.drew ?_ | refine Keeps.drewN ?_ _))))⟩
                              case measure => simp [intOf]; omega
                            | false =>
                              rw [hD] at d9
                              rcases hbi with ⟨eb, -⟩ | ⟨b', eb, hb1, -, -, -⟩
                              · have hs : bestS l DN (k + 1) = k := by rw [HSUCC.out, if_pos ⟨hD, Or.inl (by omega)⟩]
                                have HS2 := Lib.hid hs
                                rw [eb]
                                have tB : decide ((-1 : Int) < 0) = true := rfl
                                clear hs hD lc eb
                                go_wp2_with fail
                                go_quiet (fail)
                                go_wp2_with fail
                                go_roundw
                                case rel => exact ⟨k + 1, by omega, by rw [HS2.out], by go_num, Lib.hid (HKK.out.trans (by repeat (with_reducible (first | assumption | exact Keeps.refl _ | refine Keeps.alloc ?_ _ | refine Keeps.drew ?_ | refine Keeps.drewN ?_ _))))⟩
                                case measure => simp [intOf]; omega
                              · have cb : wr.cell? ⟨lb, lof + b' * 3 + 2, none⟩ = some (.int .i64 (nth l b').Count) := HKA2.out.cell (lc b' 2 (by omega) (by omega))
                                obtain ⟨CB, hCB⟩ : ∃ z, z = (nth l b').Count := ⟨_, rfl⟩
                                rw [← hCB] at cb
                                have tB : decide ((b' : Int) < 0) = false := by simp
                                have hb'z : (b' : Int) < (l.length : Int) := by omega
                                rw [eb]
                                by_cases hcc : CB < CK
                                · have tC : decide (CB < CK) = true := by simpa using hcc
                                  have hs : bestS l DN (k + 1) = k := by rw [HSUCC.out, if_pos ⟨hD, Or.inr (by rw [eb, Int.toNat_natCast, ← hCB]; exact hcc)⟩]
                                  have HS2 := Lib.hid hs
                                  clear hs hD lc eb hCB hcc
                                  go_wp2_with fail
                                  go_quiet (fail)
                                  go_wp2_with fail
                                  go_roundw
                                  case rel => exact ⟨k + 1, by omega, by rw [HS2.out], by go_num, Lib.hid (HKK.out.trans (by repeat (with_reducible (first | assumption | exact Keeps.refl _ | refine Keeps.alloc ?_ _ | refine Keeps.drew ?_ | refine Keeps.drewN ?_ _))))⟩
                                  case measure => simp [intOf]; omega
                                · have tC : decide (CB < CK) = false := by simpa using hcc
                                  have hs : bestS l DN (k + 1) = b' := by rw [HSUCC.out, if_neg (fun q => by rcases q.2 with q | q; omega; rw [eb, Int.toNat_natCast, ← hCB] at q; omega), eb]
                                  have HS2 := Lib.hid hs
                                  clear hs hD lc eb hCB hcc
                                  go_wp2_with fail
                                  go_quiet (fail)
                                  go_wp2_with fail
                                  go_roundw
                                  case rel => exact ⟨k + 1, by omega, by rw [HS2.out], by go_num, Lib.hid (HKK.out.trans (by repeat (with_reducible (first | assumption | exact Keeps.refl _ | refine Keeps.alloc ?_ _ | refine Keeps.drew ?_ | refine Keeps.drewN ?_ _))))⟩
                                  case measure => simp [intOf]; omega
                          · obtain rfl : l.length = k := by omega
                            rw [HBST.out]
                            go_wp2_with fail
                            go_meet
                            case rel => exact ⟨rfl, HKK⟩
                    case rest =>
                      obtain ⟨rfl, HKB2⟩ := hcut
                      obtain ⟨wk, hwk⟩ : ∃ wk : World, wk = wc := ⟨_, rfl⟩
                      subst hwk
                      have HDK := Lib.hid (HDO.out.keep HKB2.out)
                      obtain ⟨q9, cap9, e9, -, -, -, q9l, c9, f9, s9⟩ := own_set1 (h := fun x : Bool => Value.bool x) HDK.out (i := bst) (by omega)
                      obtain rfl : q9 = dk := by injection e9 with e1 e2 e3; injection e1 with e1; injection e1 with e1; exact e1.symm
                      have d9 := c9 bst (by omega)
                      have g9 := f9 bst
                      have hs9 := s9 true
                      have hbz : (bst : Int) < (l.length : Int) := by omega
                      have hd1 : (docL f l (n + 1)).1 = DN.set bst true := by
                        show (docL f l n).1.set (bestS l (docL f l n).1 l.length).toNat true = _
                        rw [← HDNE.out, HBST.out, Int.toNat_natCast]
                      have hd2 : (docL f l (n + 1)).2 = docStep f LL (nth l bst) := by
                        show docStep f (docL f l n).2 (nth l (bestS l (docL f l n).1 l.length).toNat) = _
                        rw [← HLLE.out, ← HDNE.out, HBST.out, Int.toNat_natCast]
                      rw [← hd1] at hs9
                      generalize nth DN bst = zb at d9
                      have HD1 := Lib.hid hd1
                      have HD2 := Lib.hid hd2
                      have HT0 := Lib.hid HT.out.1
                      rw [← HLLE.out] at HT0
                      have ht5 : Foot S (fun w => Tabs w (.slice aoL LL.length capL) LL) (wk.setCell ⟨q9, bst, none⟩ (.bool true)) := (HT0.out.keep HKB2.out).grown (grown_setCell wk q9 bst (.bool true)) (fun b hb e => HT.out.2 (by injection e with e; rw [e]; exact hb))
                      have ho5 : Only (fun b => b = q9) w2 (wk.setCell ⟨q9, bst, none⟩ (.bool true)) := (HO.out.trans (HKB2.out.only _)).trans (Only.set _ _ _ _ rfl)
                      clear e9 c9 f9 s9 hd1 hd2 c1L c2L c3L rwL
                      go_upto_region 22 with fail
                      obtain ⟨w5, hw5⟩ : ∃ w5, w5 = wk.setCell ⟨q9, bst, none⟩ (.bool true) := ⟨_, rfl⟩
                      rw [← hw5] at hs9 ht5 ho5 ⊢
                      have HS9 := Lib.hid hs9
                      have HT5 := Lib.hid ht5
                      have HO5 := Lib.hid ho5
                      have hkw5 : Keeps w w5 := HK2.out.trans' (Only.below ho5 (B := w.heap.size) (fun b q => by omega) HK2.out.size) (Nat.le_refl _)
                      have hfb5 := fun (o : Nat) => cell_of_heap (o := o) (ho5.block fb (by omega) (by omega))
                      have y0 := (hfb5 0).trans z0
                      have y1 := (hfb5 1).trans z1
                      have y2 := (hfb5 2).trans z2
                      have hl5 : fb < w5.heap.size := by have := ho5.size; omega
                      have hdk5 : q9 < w5.heap.size := by have := ho5.size; omega
                      have HKW5 := Lib.hid hkw5
                      obtain ⟨lb, lof, rfl, lc⟩ := l3 (by omega)
                      obtain ⟨E, hE⟩ : ∃ E, E = nth l bst := ⟨_, rfl⟩
                      obtain ⟨⟨e1, e2⟩, ⟨e3, e4⟩, e5, e6⟩ := HOK.out E (by rw [hE]; exact nth_in hbl)
                      obtain ⟨eF, hF⟩ : ∃ n : Nat, E.From = n := ⟨E.From.toNat, by omega⟩
                      obtain ⟨eT, hT⟩ : ∃ n : Nat, E.To = n := ⟨E.To.toNat, by omega⟩
                      have p0 : w5.cell? ⟨lb, lof + bst * 3, none⟩ = some (.int .i64 (eF : Int)) := by rw [← hF, hE]; exact hkw5.cell (lc bst 0 hbl (by omega))
                      have p1 : w5.cell? ⟨lb, lof + bst * 3 + 1, none⟩ = some (.int .i64 (eT : Int)) := by rw [← hT, hE]; exact hkw5.cell (lc bst 1 hbl (by omega))
                      obtain ⟨bb, bof, rfl, bc⟩ := b3 (by omega)
                      have eFn : eF < f.Blocks.length := by omega
                      have eTn : eT < f.Blocks.length := by omega
                      obtain ⟨yF, hyF⟩ : ∃ y, y = fnc f eF := ⟨_, rfl⟩
                      obtain ⟨yT, hyT⟩ : ∃ y, y = fnc f eT := ⟨_, rfl⟩
                      have r1 : w5.cell? ⟨bb, bof + eF * 14, none⟩ = some (.int .i64 yF) := by rw [hyF]; exact hkw5.cell (bc eF 0 eFn (by omega))
                      have r2 : w5.cell? ⟨bb, bof + eT * 14, none⟩ = some (.int .i64 yT) := by rw [hyT]; exact hkw5.cell (bc eT 0 eTn (by omega))
                      have hyTb := fit_fnc HFF.out eTn
                      rw [← hyT] at hyTb
                      obtain ⟨nT, hnT⟩ : ∃ n : Nat, yT = n := ⟨yT.toNat, by omega⟩
                      subst hnT
                      obtain ⟨fbk, fof, rfl, fc⟩ := f3 (by omega)
                      obtain ⟨FT, hFT⟩ : ∃ z, z = nth f.Firsts nT := ⟨_, rfl⟩
                      have r3 : w5.cell? ⟨fbk, fof + nT, none⟩ = some (.int .i64 FT) := by rw [hFT]; have z := hkw5.cell (fc nT 0 (by omega) (by omega)); simp only [Nat.mul_one, Nat.add_zero] at z; exact z
                      have nTz : (nT : Int) < (f.Firsts.length : Int) := hyTb.2
                      have eFz : (eF : Int) < (f.Blocks.length : Int) := by omega
                      have eTz : (eT : Int) < (f.Blocks.length : Int) := by omega
                      have hstep : (docL f l (n + 1)).2 = if ¬ yF = nT ∨ FT = eT then LL else joinD LL eF eT := by
                        rw [HD2.out, ← hE]
                        unfold docStep
                        rw [hF, hT, Int.toNat_natCast, Int.toNat_natCast, ← hyF, ← hyT, Int.toNat_natCast, ← hFT]
                      have HSTEP := Lib.hid hstep
                      have HW5 := Lib.hid hw5
                      clear hw5 hs9 ht5 ho5 hkw5 hfb5 lc bc fc b3 f3 l3 hyF hyT hFT hstep hyTb hE hF hT d9 g9 z0 z1 z2
                      go_upto_region 24 with fail
                      by_cases hA : yF = nT
                      case neg =>
                        have tE : (yF != (nT : Int)) = true := by simpa using hA
                        have hs : (docL f l (n + 1)).2 = LL := by rw [HSTEP.out, if_pos (Or.inl hA)]
                        have HS2 := Lib.hid hs
                        clear hA hs
                        go_quiet (fail)
                        go_wp2_with fail
                        go_meet
                        case rel => exact ⟨S, Lib.hid ⟨by rw [HS2.out]; exact HT5.out.keep (by repeat (with_reducible (first | assumption | exact Keeps.refl _ | refine Keeps.alloc ?_ _ | refine Keeps.drew ?_ | refine Keeps.drewN ?_ _))), HT.out.2⟩, Lib.hid (HS9.out.keep (by repeat (with_reducible (first | assumption | exact Keeps.refl _ | refine Keeps.alloc ?_ _ | refine Keeps.drew ?_ | refine Keeps.drewN ?_ _)))), Lib.hid (HO5.out.trans (Keeps.only (by repeat (with_reducible (first | assumption | exact Keeps.refl _ | refine Keeps.alloc ?_ _ | refine Keeps.drew ?_ | refine Keeps.drewN ?_ _))) _))⟩
                      case pos =>
                      have tE : (yF != (nT : Int)) = false := by simpa using hA
                      by_cases hFT : FT = eT
                      case pos =>
                        have tN : (FT == (eT : Int)) = true := by simpa using hFT
                        have hs : (docL f l (n + 1)).2 = LL := by rw [HSTEP.out, if_pos (Or.inr hFT)]
                        have HS2 := Lib.hid hs
                        clear hA hFT hs
                        go_quiet (fail)
                        go_wp2_with fail
                        go_meet
                        case rel => exact ⟨S, Lib.hid ⟨by rw [HS2.out]; exact HT5.out.keep (by repeat (with_reducible (first | assumption | exact Keeps.refl _ | refine Keeps.alloc ?_ _ | refine Keeps.drew ?_ | refine Keeps.drewN ?_ _))), HT.out.2⟩, Lib.hid (HS9.out.keep (by repeat (with_reducible (first | assumption | exact Keeps.refl _ | refine Keeps.alloc ?_ _ | refine Keeps.drew ?_ | refine Keeps.drewN ?_ _)))), Lib.hid (HO5.out.trans (Keeps.only (by repeat (with_reducible (first | assumption | exact Keeps.refl _ | refine Keeps.alloc ?_ _ | refine Keeps.drew ?_ | refine Keeps.drewN ?_ _))) _))⟩
                      case neg =>
                      have tN : (FT == (eT : Int)) = false := by simpa using hFT
                      have hs : (docL f l (n + 1)).2 = joinD LL eF eT := by rw [HSTEP.out, if_neg (fun q => by rcases q with q | q; exact q hA; exact hFT q)]
                      have HS2 := Lib.hid hs
                      clear hA hFT hs
                      go_quiet (fail)
                      go_upto_block 6 with fail
                      go_cut [15, 16] (fun s15 s16 wx => s15 = .int .i64 (lastIdx (fun c => decide (laC c = (eF : Int))) LL LL.length) ∧ s16 = .int .i64 (lastIdx (fun c => decide (hdC c = (eT : Int))) LL LL.length) ∧ Hid (Keeps w5 wx))
                      case first =>
                        as_aux_lemma =>
                          go_wp2_with fail
                          go_loopw [15, 16, 17] (fun s15 s16 s17 wr => ∃ k : Nat, k ≤ LL.length ∧ s15 = .int .i64 (lastIdx (fun c => decide (laC c = (eF : Int))) LL k) ∧ s16 = .int .i64 (lastIdx (fun c => decide (hdC c = (eT : Int))) LL k) ∧ s17 = .int .i64 k ∧ Hid (Keeps w5 wr)) (fun _ _ s17 _ => LL.length - (intOf s17).toNat)
                          case atStart => exact ⟨0, Nat.zero_le _, rfl, rfl, rfl, Lib.hid (by repeat (with_reducible (first | assumption | exact Keeps.refl _ | refine Keeps.alloc ?_ _ | refine Keeps.drew ?_ | refine Keeps.drewN ?_ _)))⟩
                          case round =>
                            obtain ⟨k, hk, rfl, rfl, rfl, HKK⟩ := hrel
                            by_cases hltk : k < LL.length
                            · have hltkz : (k : Int) < (LL.length : Int) := by omega
                              obtain ⟨tv5, ⟨ao5, cap5, e50, c15, c25, -, c35⟩, rw5⟩ := (HT5.out.keep HKK.out).here
                              injection e50 with e51 e52 e53
                              subst e51 e53
                              obtain ⟨qb, qo, rfl, qc⟩ := c35 (by omega)
                              have c0 := qc k 0 hltk (by omega)
                              have hrow := rw5 k hltk
                              obtain ⟨hcne, -, hcl⟩ := HLF.out (nth LL k) (nth_in hltk)
                              obtain ⟨C, hC⟩ : ∃ C, C = nth LL k := ⟨_, rfl⟩
                              rw [← hC] at hrow hcne hcl
                              obtain ⟨ar, cr, h1r, h2r, h3r, -, h4r⟩ := hrow
                              dsimp only at c0
                              rw [h1r] at c0
                              have hL0 := List.length_pos_iff.2 hcne
                              obtain ⟨rb, ro, rfl, rc⟩ := h4r hL0
                              obtain ⟨M, hM⟩ : ∃ M, M = C.length - 1 := ⟨_, rfl⟩
                              have c1 : wr.cell? ⟨qb, qo + k, none⟩ = some (.slice (some ⟨rb, ro, none⟩) C.length cr) := by simpa using c0
                              obtain ⟨LN, hLN⟩ : ∃ LN, LN = C.length := ⟨_, rfl⟩
                              rw [← hLN] at c1
                              have s0 : wr.cell? ⟨rb, ro, none⟩ = some (.int .i64 (hdC C)) := by have z := rc 0 0 hL0 (by omega); simp only [Nat.zero_mul, Nat.add_zero] at z; exact z
                              have sM : wr.cell? ⟨rb, ro + M, none⟩ = some (.int .i64 (laC C)) := by have z := rc M 0 (by omega) (by omega); simp only [Nat.mul_one, Nat.add_zero] at z; rw [hM] at z ⊢; exact z
                              obtain ⟨hC0, hhC⟩ : ∃ z, z = hdC C := ⟨_, rfl⟩
                              obtain ⟨lC0, hlC⟩ : ∃ z, z = laC C := ⟨_, rfl⟩
                              rw [← hhC] at s0
                              rw [← hlC] at sM
                              have wl : IntKind.i64.wrap ((LN : Int) - 1) = (M : Int) := by rw [IntKind.wrap_i64]; omega
                              have wlt : (M : Int) < (LN : Int) := by omega
                              have wlt0 : (0 : Int) < (LN : Int) := by omega
                              have nx : lastIdx (fun c => decide (laC c = (eF : Int))) LL (k + 1) = if lC0 = eF then (k : Int) else lastIdx (fun c => decide (laC c = (eF : Int))) LL k := by
                                conv => lhs; unfold lastIdx
                                rw [← hC, ← hlC]
                                by_cases q : lC0 = eF <;> simp [q]
                              have ny : lastIdx (fun c => decide (hdC c = (eT : Int))) LL (k + 1) = if hC0 = eT then (k : Int) else lastIdx (fun c => decide (hdC c = (eT : Int))) LL k := by
                                conv => lhs; unfold lastIdx
                                rw [← hC, ← hhC]
                                by_cases q : hC0 = eT <;> simp [q]
                              have NX := Lib.hid nx
                              have NY := Lib.hid ny
                              generalize lastIdx (fun c => decide (laC c = (eF : Int))) LL k = X0 at *
                              generalize lastIdx (fun c => decide (hdC c = (eT : Int))) LL k = Y0 at *
                              clear qc c0 rc rw5 c35 h1r h4r hC hhC hlC hM hLN nx ny p0 p1 r1 r2 r3
                              by_cases ha : lC0 = eF
                              · have ta : (lC0 == (eF : Int)) = true := by simpa using ha
                                by_cases hb : hC0 = eT
                                · have tb : (hC0 == (eT : Int)) = true := by simpa using hb
                                  have n1 := NX.out
                                  have n2 := NY.out
                                  rw [if_pos ha] at n1
                                  rw [if_pos hb] at n2
                                  have N1 := Lib.hid n1
                                  have N2 := Lib.hid n2
                                  clear ha hb n1 n2
                                  go_wp2_with fail
                                  go_quiet (fail)
                                  go_wp2_with fail
                                  go_roundw
                                  case rel => exact ⟨k + 1, by omega, by rw [N1.out], by rw [N2.out], by go_num, Lib.hid (HKK.out.trans (by repeat (with_reducible (first | assumption | exact Keeps.refl _ | refine Keeps.alloc ?_ _ | refine Keeps.drew ?_ | refine Keeps.drewN ?_ _))))⟩
                                  case measure => simp [intOf]; omega
                                · have tb : (hC0 == (eT : Int)) = false := by simpa using hb
                                  have n1 := NX.out
                                  have n2 := NY.out
                                  rw [if_pos ha] at n1
                                  rw [if_neg hb] at n2
                                  have N1 := Lib.hid n1
                                  have N2 := Lib.hid n2
                                  clear ha hb n1 n2
                                  go_wp2_with fail
                                  go_quiet (fail)
                                  go_wp2_with fail
                                  go_roundw
                                  case rel => exact ⟨k + 1, by omega, by rw [N1.out], by rw [N2.out], by go_num, Lib.hid (HKK.out.trans (by repeat (with_reducible (first | assumption | exact Keeps.refl _ | refine Keeps.alloc ?_ _ | refine Keeps.drew ?_ | refine Keeps.drewN ?_ _))))⟩
                                  case measure => simp [intOf]; omega
                              · have ta : (lC0 == (eF : Int)) = false := by simpa using ha
                                by_cases hb : hC0 = eT
                                · have tb : (hC0 == (eT : Int)) = true := by simpa using hb
                                  have n1 := NX.out
                                  have n2 := NY.out
                                  rw [if_neg ha] at n1
                                  rw [if_pos hb] at n2
                                  have N1 := Lib.hid n1
                                  have N2 := Lib.hid n2
                                  clear ha hb n1 n2
                                  go_wp2_with fail
                                  go_quiet (fail)
                                  go_wp2_with fail
                                  go_roundw
                                  case rel => exact ⟨k + 1, by omega, by rw [N1.out], by rw [N2.out], by go_num, Lib.hid (HKK.out.trans (by repeat (with_reducible (first | assumption | exact Keeps.refl _ | refine Keeps.alloc ?_ _ | refine Keeps.drew ?_ | refine Keeps.drewN ?_ _))))⟩
                                  case measure => simp [intOf]; omega
                                · have tb : (hC0 == (eT : Int)) = false := by simpa using hb
                                  have n1 := NX.out
                                  have n2 := NY.out
                                  rw [if_neg ha] at n1
                                  rw [if_neg hb] at n2
                                  have N1 := Lib.hid n1
                                  have N2 := Lib.hid n2
                                  clear ha hb n1 n2
                                  go_wp2_with fail
                                  go_quiet (fail)
                                  go_wp2_with fail
                                  go_roundw
                                  case rel => exact ⟨k + 1, by omega, by rw [N1.out], by rw [N2.out], by go_num, Lib.hid (HKK.out.trans (by repeat (with_reducible (first | assumption | exact Keeps.refl _ | refine Keeps.alloc ?_ _ | refine Keeps.drew ?_ | refine Keeps.drewN ?_ _))))⟩
                                  case measure => simp [intOf]; omega
                            · obtain rfl : LL.length = k := by omega
                              go_wp2_with fail
                              go_meet
                              case rel => exact ⟨rfl, rfl, HKK⟩
                      case rest =>
                        obtain ⟨rfl, rfl, HK6⟩ := hcut
                        have hjd : (docL f l (n + 1)).2 = if lastIdx (fun c => decide (laC c = (eF : Int))) LL LL.length < 0 ∨ lastIdx (fun c => decide (hdC c = (eT : Int))) LL LL.length < 0 ∨ lastIdx (fun c => decide (laC c = (eF : Int))) LL LL.length = lastIdx (fun c => decide (hdC c = (eT : Int))) LL LL.length then LL else rebuild LL (lastIdx (fun c => decide (laC c = (eF : Int))) LL LL.length) (lastIdx (fun c => decide (hdC c = (eT : Int))) LL LL.length) LL.length := HS2.out
                        have hxi := lastIdx_is (fun c => decide (laC c = (eF : Int))) LL LL.length
                        have hyi := lastIdx_is (fun c => decide (hdC c = (eT : Int))) LL LL.length
                        have HJD := Lib.hid hjd
                        generalize lastIdx (fun c => decide (laC c = (eF : Int))) LL LL.length = X0 at *
                        generalize lastIdx (fun c => decide (hdC c = (eT : Int))) LL LL.length = Y0 at *
                        obtain ⟨w6, hw6⟩ : ∃ w6 : World, w6 = wc := ⟨_, rfl⟩
                        subst hw6
                        clear hjd p0 p1 r1 r2 r3
                        by_cases hx0 : X0 < 0
                        case pos =>
                          have tX : decide (X0 < 0) = true := by simpa using hx0
                          have hs : (docL f l (n + 1)).2 = LL := by rw [HJD.out, if_pos (Or.inl hx0)]
                          have HS3 := Lib.hid hs
                          clear hs hxi hyi
                          go_wp2_with fail
                          go_meet
                          case rel => exact ⟨S, Lib.hid ⟨by rw [HS3.out]; exact HT5.out.keep HK6.out, HT.out.2⟩, Lib.hid (HS9.out.keep HK6.out), Lib.hid (HO5.out.trans (HK6.out.only _))⟩
                        case neg =>
                        have tX : decide (X0 < 0) = false := by simpa using hx0
                        by_cases hy0 : Y0 < 0
                        case pos =>
                          have tY : decide (Y0 < 0) = true := by simpa using hy0
                          have hs : (docL f l (n + 1)).2 = LL := by rw [HJD.out, if_pos (Or.inr (Or.inl hy0))]
                          have HS3 := Lib.hid hs
                          clear hs hxi hyi
                          go_wp2_with fail
                          go_meet
                          case rel => exact ⟨S, Lib.hid ⟨by rw [HS3.out]; exact HT5.out.keep HK6.out, HT.out.2⟩, Lib.hid (HS9.out.keep HK6.out), Lib.hid (HO5.out.trans (HK6.out.only _))⟩
                        case neg =>
                        have tY : decide (Y0 < 0) = false := by simpa using hy0
                        by_cases hxy : X0 = Y0
                        case pos =>
                          have tXY : (X0 == Y0) = true := by simpa using hxy
                          have hs : (docL f l (n + 1)).2 = LL := by rw [HJD.out, if_pos (Or.inr (Or.inr hxy))]
                          have HS3 := Lib.hid hs
                          clear hs hxi hyi hxy
                          go_wp2_with fail
                          go_meet
                          case rel => exact ⟨S, Lib.hid ⟨by rw [HS3.out]; exact HT5.out.keep HK6.out, HT.out.2⟩, Lib.hid (HS9.out.keep HK6.out), Lib.hid (HO5.out.trans (HK6.out.only _))⟩
                        case neg =>
                        have tXY : (X0 == Y0) = false := by simpa using hxy
                        have hs : (docL f l (n + 1)).2 = rebuild LL X0 Y0 LL.length := by rw [HJD.out, if_neg (fun q => by rcases q with q | q | q; exact hx0 q; exact hy0 q; exact hxy q)]
                        have HS3 := Lib.hid hs
                        obtain ⟨x, hx, hxl⟩ : ∃ x : Nat, X0 = x ∧ x < LL.length := by
                          rcases hxi with ⟨e, -⟩ | ⟨x, e, h, -⟩
                          · omega
                          · exact ⟨x, e, h⟩
                        obtain ⟨y, hy, hyl⟩ : ∃ y : Nat, Y0 = y ∧ y < LL.length := by
                          rcases hyi with ⟨e, -⟩ | ⟨y, e, h, -⟩
                          · omega
                          · exact ⟨y, e, h⟩
                        subst hx hy
                        clear hs hxi hyi
                        go_upto_region 35 with fail
                        obtain ⟨tv5, ⟨ao5, cap5, e50, c15, c25, -, c35⟩, rw5⟩ := (HT5.out.keep HK6.out).here
                        injection e50 with e51 e52 e53
                        subst e51 e53
                        obtain ⟨qb, qo, rfl, qc⟩ := c35 (by omega)
                        have HQC := Lib.hid qc
                        have HRW := Lib.hid rw5
                        have hs6 := HK6.out.size
                        have hyz : (y : Int) < (LL.length : Int) := by omega
                        clear qc rw5 c35
                        go_upto_block 8 with fail
                        go_cut [18] (fun s18 wx => ∃ vs : List Sle, Hid (RowSt wx w6.heap.size 24 s18 vs (docL f l (n + 1)).2) ∧ Hid (Keeps w6 wx))
                        case first =>
                          as_aux_lemma =>
                            go_wp2_with fail
                            go_loopw [18, 19] (fun s18 s19 wr => ∃ (i : Nat) (vs : List Sle), i ≤ LL.length ∧ s19 = .int .i64 i ∧ Hid (RowSt wr w6.heap.size 24 s18 vs (rebuild LL x y i)) ∧ Hid (Keeps w6 wr) ∧ Hid (vs.length ≤ i)) (fun _ s19 _ => LL.length - (intOf s19).toNat)
                            case atStart => exact ⟨0, [], Nat.zero_le _, rfl, Lib.hid (RowSt.nil _ _ _), Lib.hid (Keeps.refl _), Lib.hid (Nat.le_refl _)⟩
                            case round =>
                              obtain ⟨i, vs, hi, rfl, HR, HKK, HVL⟩ := hrel
                              obtain ⟨a18, c18, e18⟩ := own_form' HR.out.own
                              subst e18
                              by_cases hlti : i < LL.length
                              · have hltiz : (i : Int) < (LL.length : Int) := by omega
                                have c0 : wr.cell? ⟨qb, qo + i, none⟩ = some (tv5 i) := by have z := HKK.out.cell (HQC.out i 0 hlti (by omega)); simp only [Nat.mul_one, Nat.add_zero] at z; exact z
                                have cy0 : wr.cell? ⟨qb, qo + y, none⟩ = some (tv5 y) := by have z := HKK.out.cell (HQC.out y 0 hyl (by omega)); simp only [Nat.mul_one, Nat.add_zero] at z; exact z
                                have hri := Arr.keep (HRW.out i hlti) HKK.out
                                have hry := Arr.keep (HRW.out y hyl) HKK.out
                                obtain ⟨hcne, -, hcl⟩ := HLF.out (nth LL i) (nth_in hlti)
                                obtain ⟨hyne, -, hcly⟩ := HLF.out (nth LL y) (nth_in hyl)
                                obtain ⟨ai, ki, ei⟩ := Arr.form hri
                                obtain ⟨ay, ky, ey⟩ := Arr.form hry
                                rw [ei] at c0 hri
                                rw [ey] at cy0 hry
                                have hreb : rebuild LL x y (i + 1) = if (i : Int) = y then rebuild LL x y i else rebuild LL x y i ++ [if (i : Int) = x then nth LL i ++ nth LL (y : Int).toNat else nth LL i] := rfl
                                rw [Int.toNat_natCast] at hreb
                                have HREB := Lib.hid hreb
                                obtain ⟨CI, hCI⟩ : ∃ C, C = nth LL i := ⟨_, rfl⟩
                                obtain ⟨CY, hCY⟩ : ∃ C, C = nth LL y := ⟨_, rfl⟩
                                rw [← hCI] at HREB c0 hri hcl
                                rw [← hCY] at HREB cy0 hry hcly
                                have HRI := Lib.hid hri
                                have HRY := Lib.hid hry
                                have hbs := HKK.out.size
                                have hvl : vs.length ≤ 1073741824 := by have := HVL.out; omega
                                clear hri hry hreb ei ey hCI hCY hcne hyne
                                go_upto_region 40 with (go_at_call 20; refine (numsCopy_any _ CI _ (Arr.keep HRI.out (by repeat (with_reducible (first | assumption | exact Keeps.refl _ | refine Keeps.alloc ?_ _ | refine Keeps.drew ?_ | refine Keeps.drewN ?_ _)))) (by omega)).mono ?_; rintro e w8 ⟨v8, rfl, ho8, hk8⟩; obtain ⟨a8, c8, rfl⟩ := own_form' ho8; (repeat' (first | (with_reducible replace hk8 := Keeps.undrew hk8) | (with_reducible replace hk8 := Keeps.undrewN hk8))))
                                have HO8 := Lib.hid (show Own w8 wr.heap.size 3 1 ci (.slice a8 CI.length c8) CI from ho8)
                                have HK8 := Lib.hid hk8
                                have hs8 := hk8.size
                                clear ho8 hk8 c0
                                obtain ⟨wi, hwi⟩ : ∃ wi : World, wi = wr := ⟨_, rfl⟩
                                subst hwi
                                have hcI : CI.length ≤ 1073741824 := by omega
                                have hcY : CY.length ≤ 1073741824 := by omega
                                by_cases hix : i = x
                                case pos =>
                                  have tA : ((i : Int) == (x : Int)) = true := by simp; omega
                                  have hiy : ¬ i = y := fun e => hxy (by omega)
                                  have tB : ((i : Int) != (y : Int)) = true := by simp; omega
                                  have hr1 : rebuild LL x y (i + 1) = rebuild LL x y i ++ [CI ++ CY] := by rw [HREB.out, if_neg (fun e => hiy (by omega)), if_pos (by omega)]
                                  have HR1 := Lib.hid hr1
                                  clear hix hiy hr1
                                  go_upto_block 10 with fail
                                  go_cut [20] (fun s20 wx => Hid (Own wx wi.heap.size 3 1 ci s20 (CI ++ CY)) ∧ Hid (Keeps wi wx))
                                  case first =>
                                    as_aux_lemma =>
                                      go_wp2_with fail
                                      go_loopw [20, 21] (fun s20 s21 wr => ∃ k : Nat, k ≤ CY.length ∧ s21 = .int .i64 k ∧ Hid (Own wr wi.heap.size 3 1 ci s20 (CI ++ CY.take k)) ∧ Hid (Keeps wi wr)) (fun _ s21 _ => CY.length - (intOf s21).toNat)
                                      case atStart => exact ⟨0, Nat.zero_le _, rfl, Lib.hid (by rw [List.take_zero, List.append_nil]; exact HO8.out), HK8⟩
                                      case round =>
                                        obtain ⟨k, hk, rfl, HOC, HKC2⟩ := hrel
                                        obtain ⟨a20, c20, e20⟩ := own_form' HOC.out
                                        subst e20
                                        obtain ⟨M, hM⟩ : ∃ M, M = (CI ++ CY.take k).length := ⟨_, rfl⟩
                                        have hMl : M ≤ 2147483648 := by rw [hM, List.length_append, List.length_take]; omega
                                        have cyk := HKC2.out.cell cy0
                                        by_cases hltk : k < CY.length
                                        · have hltkz : (k : Int) < (CY.length : Int) := by omega
                                          obtain ⟨ao', ca', e', -, -, -, hh'⟩ := HRY.out
                                          injection e' with e1' e2' e3'
                                          subst e1' e3'
                                          obtain ⟨rb, ro, rfl, rc⟩ := hh' (by omega)
                                          obtain ⟨z, hz⟩ : ∃ z, z = nth CY k := ⟨_, rfl⟩
                                          have ck : wr.cell? ⟨rb, ro + k, none⟩ = some (.int .i64 z) := by have q := HKC2.out.cell (rc k 0 hltk (by omega)); simp only [Nat.mul_one, Nat.add_zero] at q; rw [hz]; exact q
                                          have hbs2 := HKC2.out.size
                                          rw [← hM]
                                          have HOC2 : Hid (Own wr wi.heap.size 3 1 ci (.slice a20 M c20) (CI ++ CY.take k)) := Lib.hid (by rw [hM]; exact HOC.out)
                                          have HM := Lib.hid hM
                                          have hst : CI ++ CY.take (k + 1) = (CI ++ CY.take k) ++ [z] := by rw [take_succ_nth _ _ hltk, hz, List.append_assoc]
                                          have HST := Lib.hid hst
                                          clear rc hh' hz hM hst HOC
                                          go_wp2_with (at_builtin; refine wpList_pushes (by rfl) (.tmp 199) (.tmp 207) 24 (by rfl) Try.underlying24 info_int (by rfl) (by decide) (base := wi.heap.size) (f := ci) (l := CI ++ CY.take k) (by rfl) (by exact HOC2.out.keep (by repeat (with_reducible (first | assumption | exact Keeps.refl _ | refine Keeps.alloc ?_ _ | refine Keeps.drew ?_ | refine Keeps.drewN ?_ _)))) [z] _ _ (by rfl) (by exact Blk.top' _ _ (by first | rfl | simp)) ci_len ci_one (by rw [← HM.out]; simp only [List.length_cons, List.length_nil]; omega) (by rw [← HM.out]; simp only [List.length_cons, List.length_nil]; unfold maxLen; omega) (by first | omega | (simp only [sz_alloc]; omega)) ?_; intro v7 w7 hown7 hbel7 hgr7 hfr7)
                                          have HO7 := Lib.hid (show Own w7 wi.heap.size 3 1 ci v7 (CI ++ CY.take (k + 1)) by rw [HST.out]; exact hown7)
                                          have HK7 := Lib.hid (HKC2.out.trans' (Below.trans (Below.mono (show Keeps wr _ from (by repeat (with_reducible (first | assumption | exact Keeps.refl _ | refine Keeps.alloc ?_ _ | refine Keeps.drew ?_ | refine Keeps.drewN ?_ _)))) hbs2) hbel7) (Nat.le_refl _))
                                          obtain ⟨a7', c7', e7'⟩ := own_form' HO7.out
                                          subst e7'
                                          clear hown7 hbel7 hgr7 hfr7
                                          go_roundw
                                          case rel => exact ⟨k + 1, by omega, by go_num, HO7, HK7⟩
                                          case measure => simp [intOf]; omega
                                        · obtain rfl : CY.length = k := by omega
                                          rw [List.take_length] at HOC
                                          go_wp2_with fail
                                          go_meet
                                          case rel => exact ⟨by rw [List.take_length]; exact HOC, HKC2⟩
                                  case rest =>
                                    obtain ⟨HOC, HKC2⟩ := hcut
                                    obtain ⟨a20, c20, e20⟩ := own_form' HOC.out
                                    obtain ⟨NC, hNC⟩ : ∃ NC, NC = (CI ++ CY).length := ⟨_, rfl⟩
                                    rw [← hNC] at e20
                                    subst e20
                                    have hsc := HKC2.out.size
                                    clear hNC
                                    go_wp2_with (at_builtin; refine wpList_pushes (by rfl) (.tmp 212) (.tmp 214) 23 (by rfl) Try.underlying23 info_ints (by rfl) (by decide) (base := w6.heap.size) (f := sle) (l := vs) (by rfl) (by exact (HR.out.own.keep HKC2.out).keep (by repeat (with_reducible (first | assumption | exact Keeps.refl _ | refine Keeps.alloc ?_ _ | refine Keeps.drew ?_ | refine Keeps.drewN ?_ _)))) [⟨a20, NC, c20⟩] _ _ (by rfl) (by exact Blk.top' _ _ (by first | rfl | simp)) sle_len sle_one (by simp only [List.length_cons, List.length_nil]; omega) (by simp only [List.length_cons, List.length_nil]; unfold maxLen; omega) (by first | omega | (simp only [sz_alloc]; omega)) ?_; intro v7 w7 hown7 hbel7 hgr7 hfr7)
                                    have hp := RowSt.push (p := ⟨a20, NC, c20⟩) (l := CI ++ CY) HR.out hbs HKC2.out HOC.out.ints (fun b q => ⟨HOC.out.row b q, own_lt' HOC.out q⟩) hown7 hgr7 hfr7 (by repeat (with_reducible (first | assumption | exact Keeps.refl _ | refine Keeps.alloc ?_ _ | refine Keeps.drew ?_ | refine Keeps.drewN ?_ _)))
                                    have HP := Lib.hid hp
                                    have hkk7 := HKK.out.trans' (Below.trans (Below.mono HKC2.out hbs) (Below.trans (Below.mono (show Keeps wc _ from (by repeat (with_reducible (first | assumption | exact Keeps.refl _ | refine Keeps.alloc ?_ _ | refine Keeps.drew ?_ | refine Keeps.drewN ?_ _)))) (Nat.le_trans hbs HKC2.out.size)) hbel7)) (Nat.le_refl _)
                                    have HK7 := Lib.hid hkk7
                                    obtain ⟨a7', c7', e7'⟩ := own_form' hown7
                                    subst e7'
                                    clear hown7 hbel7 hgr7 hfr7 hp hkk7
                                    go_roundw
                                    case rel => exact ⟨i + 1, vs ++ [⟨a20, NC, c20⟩], by omega, by go_num, Lib.hid (by have z := HP.out; rw [← HR1.out] at z; exact z), HK7, Lib.hid (by have := HVL.out; simp; omega)⟩
                                    case measure => simp [intOf]; omega
                                case neg =>
                                  have tA : ((i : Int) == (x : Int)) = false := by simp; omega
                                  by_cases hiy : i = y
                                  case pos =>
                                    have tB : ((i : Int) != (y : Int)) = false := by simp; omega
                                    have hr1 : rebuild LL x y (i + 1) = rebuild LL x y i := by rw [HREB.out, if_pos (by omega)]
                                    have HR1 := Lib.hid hr1
                                    clear hix hiy hr1
                                    go_wp2_with fail
                                    go_roundw
                                    case rel => exact ⟨i + 1, vs, by omega, by go_num, Lib.hid (by rw [HR1.out]; exact HR.out.keep HK8.out), Lib.hid (HKK.out.trans HK8.out), Lib.hid (by have := HVL.out; omega)⟩
                                    case measure => simp [intOf]; omega
                                  case neg =>
                                    have tB : ((i : Int) != (y : Int)) = true := by simp; omega
                                    have hr1 : rebuild LL x y (i + 1) = rebuild LL x y i ++ [CI] := by rw [HREB.out, if_neg (fun e => hiy (by omega)), if_neg (fun e => hix (by omega))]
                                    have HR1 := Lib.hid hr1
                                    obtain ⟨NC, hNC⟩ : ∃ NC, NC = CI.length := ⟨_, rfl⟩
                                    rw [← hNC] at HO8 ⊢
                                    clear hix hiy hr1 hNC
                                    go_wp2_with (at_builtin; refine wpList_pushes (by rfl) (.tmp 212) (.tmp 214) 23 (by rfl) Try.underlying23 info_ints (by rfl) (by decide) (base := w6.heap.size) (f := sle) (l := vs) (by rfl) (by exact (HR.out.own.keep HK8.out).keep (by repeat (with_reducible (first | assumption | exact Keeps.refl _ | refine Keeps.alloc ?_ _ | refine Keeps.drew ?_ | refine Keeps.drewN ?_ _)))) [⟨a8, NC, c8⟩] _ _ (by rfl) (by exact Blk.top' _ _ (by first | rfl | simp)) sle_len sle_one (by simp only [List.length_cons, List.length_nil]; omega) (by simp only [List.length_cons, List.length_nil]; unfold maxLen; omega) (by first | omega | (simp only [sz_alloc]; omega)) ?_; intro v7 w7 hown7 hbel7 hgr7 hfr7)
                                    have hp := RowSt.push (p := ⟨a8, NC, c8⟩) (l := CI) HR.out hbs HK8.out HO8.out.ints (fun b q => ⟨HO8.out.row b q, own_lt' HO8.out q⟩) hown7 hgr7 hfr7 (by repeat (with_reducible (first | assumption | exact Keeps.refl _ | refine Keeps.alloc ?_ _ | refine Keeps.drew ?_ | refine Keeps.drewN ?_ _)))
                                    have HP := Lib.hid hp
                                    have hkk7 := HKK.out.trans' (Below.trans (Below.mono HK8.out hbs) (Below.trans (Below.mono (show Keeps w8 _ from (by repeat (with_reducible (first | assumption | exact Keeps.refl _ | refine Keeps.alloc ?_ _ | refine Keeps.drew ?_ | refine Keeps.drewN ?_ _)))) (Nat.le_trans hbs HK8.out.size)) hbel7)) (Nat.le_refl _)
                                    have HK7 := Lib.hid hkk7
                                    obtain ⟨a7', c7', e7'⟩ := own_form' hown7
                                    subst e7'
                                    clear hown7 hbel7 hgr7 hfr7 hp hkk7
                                    go_roundw
                                    case rel => exact ⟨i + 1, vs ++ [⟨a8, NC, c8⟩], by omega, by go_num, Lib.hid (by have z := HP.out; rw [← HR1.out] at z; exact z), HK7, Lib.hid (by have := HVL.out; simp; omega)⟩
                                    case measure => simp [intOf]; omega
                              · obtain rfl : LL.length = i := by omega
                                go_wp2_with fail
                                go_meet
                                case rel => exact ⟨vs, by rw [HS3.out]; exact HR, HKK⟩
                        case rest =>
                          obtain ⟨vs', HR', HK'⟩ := hcut
                          obtain ⟨a18, c18, e18⟩ := own_form' HR'.out.own
                          subst e18
                          go_wp2_with fail
                          go_meet
                          case rel => exact ⟨_, Lib.hid ⟨HR'.out.foot, fun q => by omega⟩, Lib.hid ((HS9.out.keep HK6.out).keep HK'.out), Lib.hid ((HO5.out.trans (HK6.out.only _)).trans (HK'.out.only _))⟩
                case rest =>
                  obtain ⟨S', HT', HD', HO'⟩ := hcut
                  obtain ⟨tv', ⟨ao', cap', e', -⟩, -⟩ := HT'.out.1.here
                  subst e'
                  go_wp2_with fail
                  go_roundw
                  case rel => exact ⟨n + 1, S', by omega, by go_num, HT', HD', HO'⟩
                  case measure => simp [intOf]; omega
              · obtain rfl : l.length = n := by omega
                go_wp2_with fail
                go_meet
                case rel => exact ⟨Lib.hid HT.out.1.here, HO⟩
        case rest =>
          obtain ⟨HTE, HOE⟩ := hcut
          obtain ⟨w9, hw9⟩ : ∃ w9 : World, w9 = wc := ⟨_, rfl⟩
          subst hw9
          have hk9 : Keeps w w9 := HK2.out.trans' (Only.below HOE.out (B := w.heap.size) (fun b q => by omega) HK2.out.size) (Nat.le_refl _)
          have hfw9 : ∀ b, b < dk → w9.heap[b]? = w2.heap[b]? := fun b q => HOE.out.block b (by omega) (by omega)
          have z0 := (cell_of_heap (o := 0) (hfw9 fb hfd)).trans z0
          have z1 := (cell_of_heap (o := 1) (hfw9 fb hfd)).trans z1
          have z2 := (cell_of_heap (o := 2) (hfw9 fb hfd)).trans z2
          obtain ⟨-, hch, hLl, -⟩ := docL_ch f l HOK.out (n := l.length) (Nat.le_refl _)
          have hfl9 := docL_flat f l HOK.out
          obtain ⟨LL, hLL⟩ : ∃ LL, LL = (docL f l l.length).2 := ⟨_, rfl⟩
          have hS9 := HS.out
          rw [← hLL] at hch hLl hfl9 HTE hS9
          have HS9 := Lib.hid hS9
          obtain ⟨tvL, ⟨aoL, capL, eL, c1L, c2L, -, c3L⟩, rwL⟩ := HTE.out
          subst eL
          obtain ⟨row, hrow⟩ := sle_form tvL LL.length (fun j hj => by obtain ⟨ar, cr, e⟩ := Arr.form (rwL j hj); exact ⟨⟨ar, (nth LL j).length, cr⟩, e⟩)
          have hrw : ∀ j, j < LL.length → Ints w9 (row j).v (nth LL j) := fun j hj => by rw [← hrow j hj]; exact rwL j hj
          have hcl : 0 < LL.length → ∃ b o, aoL = some ⟨b, o, none⟩ ∧ ∀ j, j < LL.length → w9.cell? ⟨b, o + j, none⟩ = some (row j).v := fun h => by
            obtain ⟨b, o, e, hc⟩ := c3L h
            refine ⟨b, o, e, fun j hj => ?_⟩
            have z := hc j 0 hj (by omega)
            simp only [Nat.mul_one, Nat.add_zero] at z
            rw [z, ← hrow j hj]
          obtain ⟨PL, hPL⟩ : ∃ PL, PL = (List.range f.Firsts.length).map (paDoc f l LL) := ⟨_, rfl⟩
          have hPn : ∀ i, i < f.Firsts.length → nth PL i = ⟨(i : Int), (mineDoc f l LL i).flatten⟩ := fun i hi => by
            rw [hPL, nth_map _ _ (by simpa using hi), nth_eq (List.range f.Firsts.length) i (by simpa using hi), List.getElem_range]
            rfl
          obtain ⟨BT, hBT⟩ : ∃ BT : Nat → Nat → Bool, BT = fun a b => paLt (heatR l) (nth PL a) (nth PL b) := ⟨_, rfl⟩
          have hfin : outDoc f l LL = (insI BT (fun _ => true) f.Firsts.length).map (nth PL) := by
            unfold outDoc
            rw [← hPL, hBT]
            exact (insI_map (paLt (heatR l)) (fun _ => true) PL f.Firsts.length (by rw [hPL]; simp)).symm
          have hLn : LL.length ≤ 1073741824 := by omega
          have HCH := Lib.hid hch
          have HFL9 := Lib.hid hfl9
          have HRW := Lib.hid hrw
          have HCL := Lib.hid hcl
          have HPN := Lib.hid hPn
          have HBT := Lib.hid hBT
          have HFIN := Lib.hid hfin
          have HK9W := Lib.hid hk9
          have hs9 := hk9.size
          clear hch hfl9 hrw hcl hPn hBT hfin hk9 hS9 hPL hrow rwL c3L c1L c2L hLl hfw9 hLL
          have hlf9 : fb < w9.heap.size := lt_of_cell z0
          go_upto_block 12 with fail
          go_cut [22] (fun s22 wx => Hid (PartsAt wx s22 (outDoc f l LL)) ∧ Hid (Keeps w9 wx))
          case first =>
            as_aux_lemma =>
              go_wp2_with fail
              go_loopw [22, 23] (fun s22 s23 wr => ∃ (i : Nat) (raw : Nat → Pv), i ≤ f.Firsts.length ∧ s23 = .int .i64 i ∧ Hid (Own wr w9.heap.size 59 2 cPt s22 ((insI BT (fun _ => true) i).map raw)) ∧ Hid (∀ j, j < i → (raw j).F = j ∧ Ints wr (slP (raw j)) (nth PL j).Blocks ∧ ∀ b, (slP (raw j)).ownBlock = some b → w9.heap.size ≤ b ∧ b < wr.heap.size ∧ s22.ownBlock ≠ some b) ∧ Hid (Keeps w9 wr)) (fun _ s23 _ => f.Firsts.length - (intOf s23).toNat)
              case atStart => exact ⟨0, fun _ => default, Nat.zero_le _, rfl, Lib.hid (Own.nil _ _ _ _ _), Lib.hid (fun j hj => absurd hj (Nat.not_lt_zero _)), Lib.hid (Keeps.refl _)⟩
              case round =>
                obtain ⟨i, raw, hi, rfl, HOW, HRAW, HK9⟩ := hrel
                have y0 := HK9.out.cell z0
                have y2 := HK9.out.cell z2
                by_cases hlt : i < f.Firsts.length
                · have hltz : (i : Int) < (f.Firsts.length : Int) := by omega
                  obtain ⟨wo, hwo⟩ : ∃ wo : World, wo = wr := ⟨_, rfl⟩
                  subst hwo
                  obtain ⟨ID, hID⟩ : ∃ ID, ID = insI BT (fun _ => true) i := ⟨_, rfl⟩
                  have hIDl : ID.length ≤ i := by rw [hID]; exact insI_len i
                  have hIDlt : ∀ a, a ∈ ID → a < i := by rw [hID]; exact insI_lt i
                  rw [← hID] at HOW
                  have HID := Lib.hid hID
                  have HIDLT := Lib.hid hIDlt
                  obtain ⟨NI, hNI⟩ : ∃ NI, NI = ID.length := ⟨_, rfl⟩
                  obtain ⟨a22, c22, e22⟩ := own_form' HOW.out
                  rw [List.length_map, ← hNI] at e22
                  subst e22
                  have HNI := Lib.hid hNI
                  have hNIl : NI ≤ i := by omega
                  obtain ⟨FI, hFI⟩ : ∃ FI, FI = nth f.Firsts i := ⟨_, rfl⟩
                  obtain ⟨BM, hBM⟩ : ∃ BM : Nat → Nat → Bool, BM = fun a b => mineBt FI (heatR l) (nth LL a) (nth LL b) := ⟨_, rfl⟩
                  obtain ⟨PM, hPM⟩ : ∃ PM : Nat → Bool, PM = fun a => decide (fnc f (hdC (nth LL a)).toNat = i) := ⟨_, rfl⟩
                  have hmd : mineDoc f l LL i = (insI BM PM LL.length).map (nth LL) := by
                    unfold mineDoc
                    rw [hBM, hPM, hFI]
                    exact (insI_map (mineBt (nth f.Firsts i) (heatR l)) (fun c => decide (fnc f (hdC c).toNat = i)) LL LL.length (Nat.le_refl _)).symm
                  obtain ⟨fbk, fof, rfl, fc⟩ := f3 (by omega)
                  have q3 : wo.cell? ⟨fbk, fof + i, none⟩ = some (.int .i64 FI) := by
                    rw [hFI]
                    have z := (HK9W.out.trans HK9.out).cell (fc i 0 hlt (by omega))
                    simp only [Nat.mul_one, Nat.add_zero] at z
                    exact z
                  have HBM := Lib.hid hBM
                  have HPM := Lib.hid hPM
                  have HMD := Lib.hid hmd
                  have hlfo : fb < wo.heap.size := lt_of_cell y0
                  clear hBM hPM hmd fc f3 hFI hID hNI hIDlt hIDl
                  go_upto_block 14 with fail
                  go_cut [24] (fun s24 wx => Hid (Own wx wo.heap.size 24 1 sle s24 ((insI BM PM LL.length).map row)) ∧ Hid (Keeps wo wx))
                  case first =>
                    as_aux_lemma =>
                      go_wp2_with fail
                      go_loopw [24, 25] (fun s24 s25 wr => ∃ k : Nat, k ≤ LL.length ∧ s25 = .int .i64 k ∧ Hid (Own wr wo.heap.size 24 1 sle s24 ((insI BM PM k).map row)) ∧ Hid (Keeps wo wr)) (fun _ s25 _ => LL.length - (intOf s25).toNat)
                      case atStart => exact ⟨0, Nat.zero_le _, rfl, Lib.hid (Own.nil _ _ _ _ _), Lib.hid (Keeps.refl _)⟩
                      case round =>
                        obtain ⟨k, hk, rfl, HM, HKK⟩ := hrel
                        obtain ⟨M, hM⟩ : ∃ M, M = insI BM PM k := ⟨_, rfl⟩
                        rw [← hM] at HM
                        have hMl : M.length ≤ k := by rw [hM]; exact insI_len k
                        have hMlt : ∀ a, a ∈ M → a < k := by rw [hM]; exact insI_lt k
                        obtain ⟨ML, hML⟩ : ∃ ML, ML = M.length := ⟨_, rfl⟩
                        obtain ⟨a24, c24, e24⟩ := own_form' HM.out
                        rw [List.length_map, ← hML] at e24
                        subst e24
                        have HMI := Lib.hid hM
                        have HMLT := Lib.hid hMlt
                        have HMLE := Lib.hid hML
                        have hMLk : ML ≤ k := by omega
                        have y0 := HKK.out.cell y0
                        have y2 := HKK.out.cell y2
                        have q3 := HKK.out.cell q3
                        have hlfr : fb < wr.heap.size := lt_of_cell y0
                        clear hM hMlt hML hMl
                        by_cases hltk : k < LL.length
                        · have hltkz : (k : Int) < (LL.length : Int) := by omega
                          obtain ⟨qb, qo, rfl, qc⟩ := HCL.out (by omega)
                          obtain ⟨hcne, hcr, hcln⟩ := HCH.out (nth LL k) (nth_in hltk)
                          have hrk := Arr.keep (HRW.out k hltk) (HK9.out.trans HKK.out)
                          have c0 : wr.cell? ⟨qb, qo + k, none⟩ = some (row k).v := (HK9.out.trans HKK.out).cell (qc k hltk)
                          obtain ⟨C, hC⟩ : ∃ C, C = nth LL k := ⟨_, rfl⟩
                          rw [← hC] at hcne hcr hcln hrk
                          have hnd : C.Nodup := by rw [hC]; exact row_flat HFL9.out.1 (nth_in hltk)
                          have hht := heat_fine HOK.out hne hnd
                          have hL0 := List.length_pos_iff.2 hcne
                          obtain ⟨h0, hh0⟩ : ∃ h0 : Nat, hdC C = h0 := ⟨(hdC C).toNat, by have := hcr _ (hdC_mem hcne); omega⟩
                          have hh0n : h0 < f.Blocks.length := by have := hcr _ (hdC_mem hcne); omega
                          have HRK := Lib.hid hrk
                          obtain ⟨ar, cr, h1r, h2r, h3r, -, h4r⟩ := hrk
                          obtain ⟨rb, ro, rfl, rc⟩ := h4r hL0
                          rw [h1r] at c0 HRK
                          obtain ⟨LN, hLN⟩ : ∃ LN, LN = C.length := ⟨_, rfl⟩
                          rw [← hLN] at c0 HRK
                          have s0 : wr.cell? ⟨rb, ro, none⟩ = some (.int .i64 (h0 : Int)) := by have z := rc 0 0 hL0 (by omega); simp only [Nat.zero_mul, Nat.add_zero] at z; rw [← hh0]; exact z
                          obtain ⟨bb, bof, rfl, bc⟩ := b3 (by omega)
                          obtain ⟨yF, hyF⟩ : ∃ y, y = fnc f h0 := ⟨_, rfl⟩
                          have r1 : wr.cell? ⟨bb, bof + h0 * 14, none⟩ = some (.int .i64 yF) := by rw [hyF]; exact (HK9W.out.trans (HK9.out.trans HKK.out)).cell (bc h0 0 hh0n (by omega))
                          have h0z : (h0 : Int) < (f.Blocks.length : Int) := by omega
                          have lnz : (0 : Int) < (LN : Int) := by omega
                          have hpm : PM k = decide (yF = (i : Int)) := by rw [HPM.out]; dsimp only; rw [← hC, hh0, Int.toNat_natCast, hyF]
                          have HPK := Lib.hid hpm
                          have HHC : Hid (hdC C = (h0 : Int) ∧ C = nth LL k ∧ LN = C.length ∧ (row k).v = .slice (some ⟨rb, ro, none⟩) LN cr) := Lib.hid ⟨hh0, hC, hLN, by rw [h1r, hLN]⟩
                          have HHT := Lib.hid hht
                          have HBC := Lib.hid bc
                          have HRKC : Hid (Ints wr (.slice (some ⟨rb, ro, none⟩) LN cr) C) := Lib.hid (by rw [hLN]; rw [hLN] at HRK; exact HRK.out)
                          clear hpm hC hLN hyF bc rc h4r h1r h2r h3r qc hh0 hcr hnd hht hL0 hcne hcln
                          go_upto_region 56 with fail
                          by_cases hsel : yF = (i : Int)
                          case neg =>
                            have tE : (yF != (i : Int)) = true := by simpa using hsel
                            have hr1 : insI BM PM (k + 1) = M := by rw [HMI.out]; conv => lhs; unfold insI
                                                                    exact if_neg (by rw [HPK.out]; simpa using hsel)
                            have HR1 := Lib.hid hr1
                            clear hsel hr1
                            go_quiet (fail)
                            go_wp2_with fail
                            go_roundw
                            case rel => exact ⟨k + 1, by omega, by go_num, Lib.hid (by rw [HR1.out]; exact HM.out.keep (by repeat (with_reducible (first | assumption | exact Keeps.refl _ | refine Keeps.alloc ?_ _ | refine Keeps.drew ?_ | refine Keeps.drewN ?_ _)))), Lib.hid (HKK.out.trans (by repeat (with_reducible (first | assumption | exact Keeps.refl _ | refine Keeps.alloc ?_ _ | refine Keeps.drew ?_ | refine Keeps.drewN ?_ _))))⟩
                            case measure => simp [intOf]; omega
                          case pos =>
                          have tE : (yF != (i : Int)) = false := by simpa using hsel
                          obtain ⟨A, hA⟩ : ∃ A, A = atR (BM k) M M.length := ⟨_, rfl⟩
                          have hAl : A ≤ ML := by rw [HMLE.out, hA]; exact atR_le _ _ _
                          have hr1 : insI BM PM (k + 1) = putAt M k A := by rw [HMI.out] at hA ⊢; rw [hA]; conv => lhs; unfold insI
                                                                            exact if_pos (by rw [HPK.out]; simpa using hsel)
                          have HR1 := Lib.hid hr1
                          have HA := Lib.hid hA
                          obtain ⟨tf, htf⟩ : ∃ tf : Bool, ((h0 : Int) == FI) = tf := ⟨_, rfl⟩
                          clear hr1 hsel hA
                          go_quiet (fail)
                          go_upto_region 58 with fail
                          go_quiet (fail)
                          go_upto_block 16 with fail
                          go_cut [26] (fun s26 wx => s26 = .int .i64 (A : Int) ∧ Hid (Keeps wr wx))
                          case first =>
                            as_aux_lemma =>
                              go_wp2_with fail
                              obtain ⟨wq, hwq⟩ : ∃ wq : World, wq = wr := ⟨_, rfl⟩
                              subst hwq
                              go_loopw [26] (fun s26 wr => ∃ a : Nat, a ≤ ML ∧ s26 = .int .i64 a ∧ Hid (atR (BM k) M a = A) ∧ Hid (Keeps wq wr)) (fun s26 _ => (intOf s26).toNat)
                              case atStart => exact ⟨ML, Nat.le_refl _, rfl, Lib.hid (by rw [HA.out, HMLE.out]), Lib.hid (by repeat (with_reducible (first | assumption | exact Keeps.refl _ | refine Keeps.alloc ?_ _ | refine Keeps.drew ?_ | refine Keeps.drewN ?_ _)))⟩
                              case round =>
                                obtain ⟨a, ha, rfl, HAA, HKA⟩ := hrel
                                by_cases ha0 : a = 0
                                · have tA : decide ((0 : Int) < (a : Int)) = false := by simp; omega
                                  have tAn : decide (0 < a) = false := decide_eq_false (by omega)
                                  have eA : A = a := by rw [← HAA.out, ha0]; rfl
                                  have EA := Lib.hid eA
                                  clear ha0 eA
                                  go_wp2_with fail
                                  go_quiet (fail)
                                  go_wp2_with fail
                                  go_meet
                                  case rel => exact ⟨by rw [EA.out], Lib.hid (HKA.out.trans (by repeat (with_reducible (first | assumption | exact Keeps.refl _ | refine Keeps.alloc ?_ _ | refine Keeps.drew ?_ | refine Keeps.drewN ?_ _))))⟩
                                · have tA : decide ((0 : Int) < (a : Int)) = true := by simp; omega
                                  have tAn : decide (0 < a) = true := decide_eq_true (by omega)
                                  obtain ⟨J, hJ⟩ : ∃ J, J = a - 1 := ⟨_, rfl⟩
                                  have hJa : J < a := by omega
                                  have hJM : J < ML := by omega
                                  have wJ : IntKind.i64.wrap ((a : Int) - 1) = (J : Int) := by rw [IntKind.wrap_i64]; omega
                                  have hst : A = if BM k (nth M J) = true then atR (BM k) M J else J + 1 := by
                                    rw [← HAA.out, show a = J + 1 by omega]
                                    rfl
                                  have HST := Lib.hid hst
                                  have HJ := Lib.hid (show a = J + 1 by omega)
                                  clear hJ hst ha0
                                  cases tf with
                                  | true =>
                                    have hb : BM k (nth M J) = true := by
                                      rw [HBM.out]
                                      unfold mineBt
                                      dsimp only
                                      rw [← HHC.out.2.1, HHC.out.1]
                                      have e : (h0 : Int) = FI := by simpa using htf
                                      rw [decide_eq_true e]
                                      rfl
                                    have hnx : atR (BM k) M J = A := by rw [HST.out, if_pos hb]
                                    have HNX := Lib.hid hnx
                                    clear hb hnx
                                    go_wp2_with fail
                                    go_quiet (fail)
                                    go_wp2_with fail
                                    go_roundw
                                    case rel => exact ⟨J, by omega, by go_num, HNX, Lib.hid (HKA.out.trans (by repeat (with_reducible (first | assumption | exact Keeps.refl _ | refine Keeps.alloc ?_ _ | refine Keeps.drew ?_ | refine Keeps.drewN ?_ _))))⟩
                                    case measure => simp [intOf]; omega
                                  | false =>
                                    obtain ⟨x, hx⟩ : ∃ x, x = nth M J := ⟨_, rfl⟩
                                    have hxk : x < k := by rw [hx]; exact HMLT.out _ (nth_in (by rw [← HMLE.out]; exact hJM))
                                    obtain ⟨g24, cap24, e24, hbg, -, -, -, cs24, -⟩ := own_read1 (h := fun s : Sle => Value.slice s.a s.n s.c) (HM.out.keep HKA.out) (by rw [List.length_map, ← HMLE.out]; omega)
                                    injection e24 with e241 e242 e243
                                    subst e241
                                    have d0 := cs24 J (by rw [List.length_map, ← HMLE.out]; exact hJM)
                                    rw [nth_map row M (by rw [← HMLE.out]; exact hJM), ← hx] at d0
                                    obtain ⟨hdne, hdr, hdln⟩ := HCH.out (nth LL x) (nth_in (by omega))
                                    have hrx := Arr.keep (HRW.out x (by omega)) (HK9.out.trans (HKK.out.trans HKA.out))
                                    obtain ⟨D, hD⟩ : ∃ D, D = nth LL x := ⟨_, rfl⟩
                                    rw [← hD] at hdne hdr hdln hrx
                                    have hndD : D.Nodup := by rw [hD]; exact row_flat HFL9.out.1 (nth_in (by omega))
                                    have hhd := heat_fine HOK.out hne hndD
                                    have hD0 := List.length_pos_iff.2 hdne
                                    have HRX0 := Lib.hid hrx
                                    obtain ⟨ax, cx, h1x, h2x, h3x, -, h4x⟩ := hrx
                                    obtain ⟨xb, xo, rfl, xc⟩ := h4x hD0
                                    rw [h1x] at HRX0
                                    have d0' : wr.cell? ⟨g24, J, none⟩ = some (.slice (some ⟨xb, xo, none⟩) D.length cx) := by rw [d0]; exact congrArg some h1x
                                    obtain ⟨DN, hDN⟩ : ∃ DN, DN = D.length := ⟨_, rfl⟩
                                    rw [← hDN] at d0'
                                    have hrx2 : Ints wr (.slice (some ⟨xb, xo, none⟩) DN cx) D := by rw [hDN]; exact HRX0.out
                                    have HRX2 := Lib.hid hrx2
                                    clear hrx2
                                    obtain ⟨hdD, hhD⟩ : ∃ z, z = hdC D := ⟨_, rfl⟩
                                    have t0 : wr.cell? ⟨xb, xo, none⟩ = some (.int .i64 hdD) := by have z := xc 0 0 hD0 (by omega); simp only [Nat.zero_mul, Nat.add_zero] at z; rw [hhD]; exact z
                                    have dnz : (0 : Int) < (DN : Int) := by omega
                                    have hJz : (J : Int) < (ML : Int) := by omega
                                    have y0' := HKA.out.cell y0
                                    have y2' := HKA.out.cell y2
                                    have q3' := HKA.out.cell q3
                                    have c0' := HKA.out.cell c0
                                    have hbm : BM k x = (decide (hdD ≠ FI) && decide (heatR l D < heatR l C)) := by
                                      rw [HBM.out]
                                      unfold mineBt
                                      dsimp only
                                      rw [← HHC.out.2.1, HHC.out.1, ← hD, ← hhD]
                                      have e : ¬ (h0 : Int) = FI := by simpa using htf
                                      rw [decide_eq_false e, Bool.false_or]
                                      by_cases q : hdD = FI <;> simp [q]
                                    rw [← hx] at HST
                                    have HBMX := Lib.hid hbm
                                    have HHD := Lib.hid hhd
                                    have HXE := Lib.hid (show x < k from hxk)
                                    clear d0 cs24 e242 e243 xc h4x h1x h2x h3x hD hDN hhD hx hbm hdr hdne hdln hndD hhd hD0 hbg
                                    by_cases hfd' : hdD = FI
                                    · have tD : (hdD != FI) = false := by simpa using hfd'
                                      have eA : A = a := by rw [HST.out, HBMX.out, hfd', HJ.out]; simp
                                      have EA := Lib.hid eA
                                      clear hfd' eA
                                      go_wp2_with fail
                                      go_quiet (fail)
                                      go_wp2_with fail
                                      go_meet
                                      case rel => exact ⟨by rw [EA.out], Lib.hid (HKA.out.trans (by repeat (with_reducible (first | assumption | exact Keeps.refl _ | refine Keeps.alloc ?_ _ | refine Keeps.drew ?_ | refine Keeps.drewN ?_ _))))⟩
                                    · have tD : (hdD != FI) = true := by simpa using hfd'
                                      have hC2 : ∀ n, Calls Try.prog 21 #[.slice (some ⟨rb, ro, none⟩) LN cr, .slice lao l.length lcap] (wr.drewN n) fun e w' => e = .returned (.int .i64 (heatR l C)) ∧ ∃ m, w' = (wr.drewN n).drewN m := fun n =>
                                        heatOf_q _ _ C l _ (Arr.keep HRKC.out (HKA.out.drewN n)) (Arr.keep HL.out ((HK9W.out.trans (HK9.out.trans (HKK.out.trans HKA.out))).drewN n)) (fun e he => (HOK.out e he).2.2.1) HHT.out.2
                                      have hD2 : ∀ n, Calls Try.prog 21 #[.slice (some ⟨xb, xo, none⟩) DN cx, .slice lao l.length lcap] (wr.drewN n) fun e w' => e = .returned (.int .i64 (heatR l D)) ∧ ∃ m, w' = (wr.drewN n).drewN m := fun n =>
                                        heatOf_q _ _ D l _ (Arr.keep HRX2.out ((Keeps.refl _).drewN n)) (Arr.keep HL.out ((HK9W.out.trans (HK9.out.trans (HKK.out.trans HKA.out))).drewN n)) (fun e he => (HOK.out e he).2.2.1) HHD.out.2
                                      have H1 := Lib.hid hC2
                                      have H2 := Lib.hid hD2
                                      have hfn : (decide (hdD ≠ FI)) = true := by simpa using hfd'
                                      rw [hfn, Bool.true_and] at HBMX
                                      generalize heatR l C = HC0 at H1 HBMX
                                      generalize heatR l D = HD0 at H2 HBMX
                                      clear hC2 hD2 hfn hfd'
                                      by_cases hlt2 : HD0 < HC0
                                      · have tH : decide (HD0 < HC0) = true := by simpa using hlt2
                                        have hnx : atR (BM k) M J = A := by rw [HST.out, HBMX.out, if_pos tH]
                                        have HNX := Lib.hid hnx
                                        clear hnx hlt2
                                        go_wp2_with fail
                                        go_quiet ((go_at_call 21; first | (with_reducible exact Calls.quiet_of (H1.out _)) | (with_reducible exact Calls.quiet_of (H2.out _))))
                                        go_wp2_with fail
                                        go_roundw
                                        case rel => exact ⟨J, by omega, by go_num, HNX, Lib.hid (HKA.out.trans (by repeat (with_reducible (first | assumption | exact Keeps.refl _ | refine Keeps.alloc ?_ _ | refine Keeps.drew ?_ | refine Keeps.drewN ?_ _))))⟩
                                        case measure => simp [intOf]; omega
                                      · have tH : decide (HD0 < HC0) = false := by simpa using hlt2
                                        have eA : A = a := by rw [HST.out, HBMX.out, if_neg (by rw [tH]; exact Bool.false_ne_true), HJ.out]
                                        have EA := Lib.hid eA
                                        clear eA hlt2
                                        go_wp2_with fail
                                        go_quiet ((go_at_call 21; first | (with_reducible exact Calls.quiet_of (H1.out _)) | (with_reducible exact Calls.quiet_of (H2.out _))))
                                        go_wp2_with fail
                                        go_meet
                                        case rel => exact ⟨by rw [EA.out], Lib.hid (HKA.out.trans (by repeat (with_reducible (first | assumption | exact Keeps.refl _ | refine Keeps.alloc ?_ _ | refine Keeps.drew ?_ | refine Keeps.drewN ?_ _))))⟩
                          case rest =>
                            obtain ⟨rfl, HKA⟩ := hcut
                            obtain ⟨w6, hw6⟩ : ∃ w6 : World, w6 = wc := ⟨_, rfl⟩
                            subst hw6
                            have HM6 := Lib.hid (HM.out.keep HKA.out)
                            have hs6 := (HKK.out.trans HKA.out).size
                            obtain ⟨N1, hN1⟩ : ∃ N1, N1 = ML + 1 := ⟨_, rfl⟩
                            have hlen7 : (M.map row ++ [(⟨none, 0, 0⟩ : Sle)]).length = N1 := by rw [List.length_append, List.length_map, ← HMLE.out, hN1]; rfl
                            have HLEN7 := Lib.hid hlen7
                            have hlM : (M.map row).length = ML := by rw [List.length_map, ← HMLE.out]
                            have HLM := Lib.hid hlM
                            have w1 : IntKind.i64.wrap ((N1 : Int) - 1) = (ML : Int) := by rw [IntKind.wrap_i64]; omega
                            have HN1 := Lib.hid hN1
                            have hN1b : N1 ≤ 1073741825 := by omega
                            clear hlen7 hlM hN1
                            go_upto_block 18 with (at_builtin; refine wpList_pushes (by rfl) (.tmp 295) (.tmp 296) 23 (by rfl) Try.underlying23 info_ints (by rfl) (by decide) (base := wo.heap.size) (f := sle) (l := M.map row) (by rfl) (by exact HM6.out.keep (by repeat (with_reducible (first | assumption | exact Keeps.refl _ | refine Keeps.alloc ?_ _ | refine Keeps.drew ?_ | refine Keeps.drewN ?_ _)))) [⟨none, 0, 0⟩] _ _ (by rfl) (by exact Blk.top' _ _ (by first | rfl | simp)) sle_len sle_one (by rw [HLM.out]; simp only [List.length_cons, List.length_nil]; omega) (by rw [HLM.out]; simp only [List.length_cons, List.length_nil]; unfold maxLen; omega) (by first | omega | (simp only [sz_alloc]; omega)) ?_; intro v7 w7 hown7 hbel7 hgr7 hfr7; obtain ⟨a7, c7, e7⟩ := own_form' hown7; rw [HLEN7.out] at e7; subst e7)
                            have HO7 := Lib.hid (show Own w7 wo.heap.size 24 1 sle (.slice a7 N1 c7) (M.map row ++ [(⟨none, 0, 0⟩ : Sle)]) from hown7)
                            have HK7 := Lib.hid ((HKK.out.trans HKA.out).trans' (Below.trans (Below.mono (show Keeps w6 _ from (by repeat (with_reducible (first | assumption | exact Keeps.refl _ | refine Keeps.alloc ?_ _ | refine Keeps.drew ?_ | refine Keeps.drewN ?_ _)))) hs6) hbel7) (Nat.le_refl _))
                            clear hown7 hbel7 hgr7 hfr7
                            obtain ⟨ws, hws⟩ : ∃ ws : World, ws = w7 := ⟨_, rfl⟩
                            subst hws
                            go_cut [] (fun wx => Hid (Own wx wo.heap.size 24 1 sle (.slice a7 N1 c7) (shf (M.map row) ⟨none, 0, 0⟩ A)) ∧ Hid (Keeps wo wx))
                            case first =>
                              as_aux_lemma =>
                                go_wp2_with fail
                                go_loopw [28] (fun s28 wr => ∃ j : Nat, A ≤ j ∧ j ≤ ML ∧ s28 = .int .i64 j ∧ Hid (Own wr wo.heap.size 24 1 sle (.slice a7 N1 c7) (shf (M.map row) ⟨none, 0, 0⟩ j)) ∧ Hid (Keeps wo wr)) (fun s28 _ => (intOf s28).toNat)
                                case atStart => exact ⟨ML, hAl, Nat.le_refl _, rfl, Lib.hid (by rw [← HLM.out, shf_top]; exact HO7.out), HK7⟩
                                case round =>
                                  obtain ⟨j, hj1, hj2, rfl, HSJ, HKS⟩ := hrel
                                  by_cases hltj : A < j
                                  · have hltjz : (A : Int) < (j : Int) := by omega
                                    have hshl := shf_len (M.map row) (⟨none, 0, 0⟩ : Sle) j (by rw [HLM.out]; exact hj2)
                                    obtain ⟨hsp, hss⟩ := shf_step (M.map row) (⟨none, 0, 0⟩ : Sle) (j := j) (by omega) (by rw [HLM.out]; exact hj2)
                                    rw [HLM.out] at hshl
                                    obtain ⟨g7, cap7, e7, hb7, -, -, g7l, cs7, fz7, st7⟩ := own_set1 (h := fun s : Sle => Value.slice s.a s.n s.c) HSJ.out (i := j) (by rw [hshl]; omega)
                                    injection e7 with e71 e72 e73
                                    subst e71
                                    have p7 := cs7 (j - 1) (by rw [hshl]; omega)
                                    have f7 := fz7 j
                                    obtain ⟨ov, hov⟩ : ∃ v, wr.cell? ⟨g7, j, none⟩ = some v := ⟨_, cs7 j (by rw [hshl]; omega)⟩
                                    rw [hsp] at p7
                                    have sx := st7 (nth (M.map row) (j - 1))
                                    rw [hss] at sx
                                    obtain ⟨J, hJ⟩ : ∃ J, J = j - 1 := ⟨_, rfl⟩
                                    rw [← hJ] at p7 sx
                                    obtain ⟨⟨xa, xn, xc⟩, hxx⟩ : ∃ x : Sle, x = nth (M.map row) J := ⟨_, rfl⟩
                                    rw [← hxx] at p7 sx
                                    dsimp only at p7 sx
                                    have wJ : IntKind.i64.wrap ((j : Int) - 1) = (J : Int) := by rw [IntKind.wrap_i64]; omega
                                    have hjz : (j : Int) < (N1 : Int) := by have := HN1.out; omega
                                    have hJz : (J : Int) < (N1 : Int) := by have := HN1.out; omega
                                    have hJA : A ≤ J := by omega
                                    have hJj : J < j := by omega
                                    have SX := Lib.hid sx
                                    clear hshl hsp hss e72 e73 cs7 fz7 st7 hxx sx hJ
                                    go_wp2_with fail
                                    go_roundw
                                    case rel => exact ⟨J, by omega, by omega, by go_num, Lib.hid (SX.out), Lib.hid (Keeps.setCell HKS.out (by exact hb7) _)⟩
                                    case measure => simp [intOf]; omega
                                  · obtain rfl : A = j := by omega
                                    go_wp2_with fail
                                    go_meet
                                    case rel => exact ⟨HSJ, HKS⟩
                            case rest =>
                              obtain ⟨HSJ, HKS⟩ := hcut
                              obtain ⟨w8, hw8⟩ : ∃ w8 : World, w8 = wc := ⟨_, rfl⟩
                              subst hw8
                              have hshl := shf_len (M.map row) (⟨none, 0, 0⟩ : Sle) A (by rw [HLM.out]; exact hAl)
                              rw [HLM.out] at hshl
                              obtain ⟨g7, cap7, e7, hb7, -, -, g7l, cs7, fz7, st7⟩ := own_set1 (h := fun s : Sle => Value.slice s.a s.n s.c) HSJ.out (i := A) (by rw [hshl]; omega)
                              injection e7 with e71 e72 e73
                              subst e71
                              have f7 := fz7 A
                              obtain ⟨ov, hov⟩ : ∃ v, w8.cell? ⟨g7, A, none⟩ = some v := ⟨_, cs7 A (by rw [hshl]; omega)⟩
                              have sx := st7 (row k)
                              rw [shf_put (M.map row) (⟨none, 0, 0⟩ : Sle) (row k) (by rw [HLM.out]; exact hAl), ← putAt_map, ← HR1.out] at sx
                              have hv : Value.slice (row k).a (row k).n (row k).c = .slice (some ⟨rb, ro, none⟩) LN cr := HHC.out.2.2.2
                              try dsimp only at sx
                              rw [hv] at sx
                              have c0' : w8.cell? ⟨qb, qo + k, none⟩ = some (.slice (some ⟨rb, ro, none⟩) LN cr) := by rw [← HHC.out.2.2.2]; exact (HK9.out.trans HKS.out).cell ((HCL.out (by omega)).elim fun b hb => by obtain ⟨o, e, q⟩ := hb; injection e with e; injection e with e1 e2; subst e1 e2; exact q k hltk)
                              have hAz : (A : Int) < (N1 : Int) := by have := HN1.out; omega
                              have SX := Lib.hid sx
                              clear hshl e72 e73 cs7 fz7 st7 sx hv
                              go_wp2_with fail
                              go_roundw
                              case rel => exact ⟨k + 1, by omega, by go_num, Lib.hid (SX.out), Lib.hid (Keeps.setCell HKS.out (by exact hb7) _)⟩
                              case measure => simp [intOf]; omega
                        · obtain rfl : LL.length = k := by omega
                          go_wp2_with fail
                          go_meet
                          case rel => exact ⟨by rw [← HMI.out]; exact HM, HKK⟩
                  case rest =>
                    obtain ⟨HMINE, HKM⟩ := hcut
                    obtain ⟨wp, hwp⟩ : ∃ wp : World, wp = wc := ⟨_, rfl⟩
                    subst hwp
                    obtain ⟨M, hM⟩ : ∃ M, M = insI BM PM LL.length := ⟨_, rfl⟩
                    have hmd := HMD.out
                    rw [← hM] at HMINE hmd
                    have hMl : M.length ≤ LL.length := by rw [hM]; exact insI_len _
                    have hMlt : ∀ a, a ∈ M → a < LL.length := by rw [hM]; exact insI_lt _
                    obtain ⟨ML, hML⟩ : ∃ ML, ML = M.length := ⟨_, rfl⟩
                    obtain ⟨a24, c24, e24⟩ := own_form' HMINE.out
                    rw [List.length_map, ← hML] at e24
                    subst e24
                    have hmf := mine_flat (f := f) (l := l) HFL9.out i
                    rw [hmd] at hmf
                    have hpi := HPN.out i hlt
                    rw [hmd] at hpi
                    obtain ⟨FLT, hFLT⟩ : ∃ F, F = (M.map (nth LL)).flatten := ⟨_, rfl⟩
                    rw [← hFLT] at hmf hpi
                    have hheat := heat_fine HOK.out hne hmf.1
                    have hFl : FLT.length ≤ f.Blocks.length := hmf.2
                    obtain ⟨pb, hpb⟩ : ∃ pb, pb = wp.heap.size := ⟨_, rfl⟩
                    have HMLT := Lib.hid hMlt
                    have HMLE := Lib.hid hML
                    have HPI := Lib.hid hpi
                    have HFLT := Lib.hid hFLT
                    have HHEAT := Lib.hid hheat
                    have hMLl : ML ≤ LL.length := by omega
                    have hswo := HKM.out.size
                    have hs9o := HK9.out.size
                    have y0 := HKM.out.cell y0
                    have y2 := HKM.out.cell y2
                    have hol24 : ∀ b, (Value.slice a24 ML c24).ownBlock = some b → b < pb := fun b q => by have := own_lt' HMINE.out q; omega
                    have HOL24 := Lib.hid hol24
                    clear hM hmd hMl hMlt hML hmf hpi hFLT hheat hol24 q3
                    go_upto_block 20 with fail
                    rw [← hpb]
                    obtain ⟨wb9, hwb, hBP, hkb⟩ : ∃ wb9, wb9 = wp.alloc (.cells #[.int .i64 (i : Int), .slice none 0 0] 59) ∧ Blk wb9 pb (.cells #[.int .i64 (i : Int), .slice none 0 0] 59) ∧ Keeps wp wb9 := ⟨_, rfl, Blk.top' _ _ hpb, (Keeps.refl _).alloc _⟩
                    rw [← hwb]
                    have HBP := Lib.hid hBP
                    have HKB9 := Lib.hid hkb
                    have hpb1 : wp.heap.size ≤ pb := by omega
                    have hpb2 : pb ≤ wp.heap.size := by omega
                    clear hwb hBP hkb hpb
                    go_cut [] (fun wx => ∃ (a : Option Addr) (n c : Nat), n = FLT.length ∧ Hid (Blk wx pb (.cells #[.int .i64 (i : Int), .slice a n c] 59)) ∧ Hid (Own wx (pb + 1) 3 1 ci (.slice a n c) FLT) ∧ Hid (Keeps wp wx))
                    case first =>
                      as_aux_lemma =>
                        go_wp2_with fail
                        go_loopw [30] (fun s30 wr => ∃ (k : Nat) (a : Option Addr) (n c : Nat), k ≤ ML ∧ s30 = .int .i64 k ∧ Hid (Blk wr pb (.cells #[.int .i64 (i : Int), .slice a n c] 59)) ∧ Hid (Own wr (pb + 1) 3 1 ci (.slice a n c) ((M.take k).map (nth LL)).flatten) ∧ Hid (Keeps wp wr)) (fun s30 _ => ML - (intOf s30).toNat)
                        case atStart => exact ⟨0, none, 0, 0, Nat.zero_le _, rfl, HBP, Lib.hid (Own.nil _ _ _ _ _), HKB9⟩
                        case round =>
                          obtain ⟨k, a, n, c, hk, rfl, HB, HF, HKW⟩ := hrel
                          by_cases hltk : k < ML
                          · have hltkz : (k : Int) < (ML : Int) := by omega
                            have hkM : k < M.length := by rw [← HMLE.out]; exact hltk
                            obtain ⟨x, hx⟩ : ∃ x, x = nth M k := ⟨_, rfl⟩
                            have hxl : x < LL.length := by rw [hx]; exact HMLT.out _ (nth_in hkM)
                            obtain ⟨F0, hF0⟩ : ∃ F0, F0 = ((M.take k).map (nth LL)).flatten := ⟨_, rfl⟩
                            obtain ⟨C, hC⟩ : ∃ C, C = nth LL x := ⟨_, rfl⟩
                            have hFs : ((M.take (k + 1)).map (nth LL)).flatten = F0 ++ C := by rw [flat_succ _ _ hkM, ← hF0, ← hx, ← hC]
                            have hFl2 : F0.length + C.length ≤ FLT.length := by have z := flat_take (nth LL) M (k + 1); rw [hFs, List.length_append, ← HFLT.out] at z; exact z
                            rw [← hF0] at HF
                            obtain ⟨hcne, hcr, hcln⟩ := HCH.out (nth LL x) (nth_in hxl)
                            rw [← hC] at hcne
                            have hkr : Keeps w9 wp := HK9.out.trans HKM.out
                            have hrx := Arr.keep (HRW.out x hxl) hkr
                            rw [← hC] at hrx
                            have hL0 := List.length_pos_iff.2 hcne
                            obtain ⟨ar, cr, h1r, h2r, h3r, -, h4r⟩ := hrx
                            obtain ⟨rb, ro, rfl, rc⟩ := h4r hL0
                            obtain ⟨g24, cap24, e24, hbg, -, -, hgl, cs24, -⟩ := own_read1 (h := fun s : Sle => Value.slice s.a s.n s.c) HMINE.out (by rw [List.length_map, ← HMLE.out]; omega)
                            injection e24 with e241 e242 e243
                            subst e241
                            have m0 := cs24 k (by rw [List.length_map]; exact hkM)
                            rw [nth_map row M hkM, ← hx] at m0
                            obtain ⟨LN, hLN⟩ : ∃ LN, LN = C.length := ⟨_, rfl⟩
                            have m1 : wp.cell? ⟨g24, k, none⟩ = some (.slice (some ⟨rb, ro, none⟩) LN cr) := by rw [m0, hLN]; exact congrArg some h1r
                            have RC : Hid (∀ j, j < LN → wp.cell? ⟨rb, ro + j, none⟩ = some (.int .i64 (nth C j))) := Lib.hid fun j hj => by have z := rc j 0 (by omega) (by omega); simp only [Nat.mul_one, Nat.add_zero] at z; exact z
                            have HFS := Lib.hid hFs
                            have HLN := Lib.hid hLN
                            have HM1 := Lib.hid m1
                            have hFL3 : F0.length + LN ≤ 1073741824 := by omega
                            clear hx hF0 hC hFs hcne hcr hcln hkr hL0 h4r rc h1r h2r h3r cs24 e242 e243 m0 hLN m1 hFl2 hgl hbg
                            obtain ⟨wz, hwz⟩ : ∃ wz : World, wz = wr := ⟨_, rfl⟩
                            subst hwz
                            have m2 := HKW.out.cell HM1.out
                            go_wp2_with fail
                            go_loopw [31] (fun s31 wr => ∃ (j : Nat) (a : Option Addr) (n c : Nat), j ≤ LN ∧ s31 = .int .i64 j ∧ Hid (Blk wr pb (.cells #[.int .i64 (i : Int), .slice a n c] 59)) ∧ Hid (Own wr (pb + 1) 3 1 ci (.slice a n c) (F0 ++ C.take j)) ∧ Hid (Keeps wp wr)) (fun s31 _ => LN - (intOf s31).toNat)
                            case atStart => exact ⟨0, a, n, c, Nat.zero_le _, rfl, HB, Lib.hid (by rw [List.take_zero, List.append_nil]; exact HF.out), HKW⟩
                            case round =>
                              obtain ⟨j, a, n, c, hj, rfl, HBJ, HFJ, HKJ⟩ := hrel
                              have m3 := HKJ.out.cell HM1.out
                              by_cases hltj : j < LN
                              · have hltjz : (j : Int) < (LN : Int) := by omega
                                obtain ⟨z, hz⟩ : ∃ z, z = nth C j := ⟨_, rfl⟩
                                have r3 : wr.cell? ⟨rb, ro + j, none⟩ = some (.int .i64 z) := by rw [hz]; exact HKJ.out.cell (RC.out j hltj)
                                have b1 := HBJ.out.cell (j := 1) rfl
                                have hbl := HBJ.out.lt
                                have hjC : j < C.length := by rw [← HLN.out]; exact hltj
                                have hst : F0 ++ C.take (j + 1) = (F0 ++ C.take j) ++ [z] := by rw [take_succ_nth _ _ hjC, hz, List.append_assoc]
                                obtain ⟨FJ, hFJ⟩ : ∃ FJ, FJ = F0 ++ C.take j := ⟨_, rfl⟩
                                have hFJl : FJ.length ≤ 1073741824 := by rw [hFJ, List.length_append, List.length_take]; omega
                                rw [← hFJ] at HFJ hst
                                obtain ⟨N7, hN7⟩ : ∃ N7, N7 = (FJ ++ [z]).length := ⟨_, rfl⟩
                                have HN7 := Lib.hid hN7
                                have HST := Lib.hid hst
                                have hol : ∀ b, (Value.slice a n c).ownBlock = some b → b < wr.heap.size := fun b q => own_lt' HFJ.out q
                                have HOLJ := Lib.hid hol
                                clear hst hFJ hN7 hz hol
                                go_wp2_with fail
                                go_region_law
                                  (((refine step_push (by rfl) (.tmp 339) (.tmp 347) 24 (by rfl) Try.underlying24 info_int (by rfl) (by decide) (base := pb + 1) (f := ci) (l := FJ) (by rfl) (by exact HFJ.out.keep (by repeat (with_reducible (first | assumption | exact Keeps.refl _ | refine Keeps.alloc ?_ _ | refine Keeps.drew ?_ | refine Keeps.drewN ?_ _)))) z _ _ (by rfl) ?_ ci_len ci_one (by omega) (by unfold maxLen; omega) (by first | omega | ((repeat (first | (simp only [sz_alloc]) | (simp only [sz_drew]) | (simp only [sz_drewN]))); omega)) ?_); (focus ((repeat (first | (with_reducible assumption) | (refine Blk.top' _ _ ?_; first | (with_reducible rfl) | ((repeat (first | (simp only [sz_alloc]) | (simp only [sz_drew]) | (simp only [sz_drewN]))); done)) | (with_reducible refine blk_alloc ?_ _) | (with_reducible refine blk_drew ?_) | (with_reducible refine blk_drewN ?_ _))); done)); intro v7 w7 hown7 hbel7 hgr7 hfr7; obtain ⟨a7, c7, e7⟩ := own_form' hown7; rw [← HN7.out] at e7; subst e7; have hb7 := Blk.below (HBJ.out.keep (show Keeps wr _ from (by repeat (with_reducible (first | assumption | exact Keeps.refl _ | refine Keeps.alloc ?_ _ | refine Keeps.drew ?_ | refine Keeps.drewN ?_ _))))) hbel7 (Nat.lt_succ_self _); have f71 := hb7.thawed 1; have b71 := hb7.cell (j := 1) rfl; have l7 := hb7.lt; have HB7 := Lib.hid hb7; clear hb7))
                                all_goals
                                  as_aux_lemma =>
                                    go_wp2_with fail
                                    go_roundw
                                    case rel =>
                                      refine ⟨j + 1, a7, N7, c7, by omega, by go_num, Lib.hid ?_, Lib.hid ?_, Lib.hid ?_⟩
                                      · exact Blk.keep (Blk.set HB7.out 1 (.slice a7 N7 c7)) (by repeat (with_reducible (first | assumption | exact Keeps.refl _ | refine Keeps.alloc ?_ _ | refine Keeps.drew ?_ | refine Keeps.drewN ?_ _)))
                                      · rw [HST.out]
                                        exact (Own.other (grown_setCell _ pb 1 _) hown7 (fun b q e => by have := hown7.row b q; injection e with e; omega)).keep (by repeat (with_reducible (first | assumption | exact Keeps.refl _ | refine Keeps.alloc ?_ _ | refine Keeps.drew ?_ | refine Keeps.drewN ?_ _)))
                                      · exact Keeps.trans (Keeps.setCell (p := ⟨pb, 1, none⟩) (HKJ.out.trans' (Below.trans (Below.mono (show Keeps wr _ from (by repeat (with_reducible (first | assumption | exact Keeps.refl _ | refine Keeps.alloc ?_ _ | refine Keeps.drew ?_ | refine Keeps.drewN ?_ _)))) hbl) hbel7) (by omega)) (show wp.heap.size ≤ pb by omega) (.slice a7 N7 c7)) (by repeat (with_reducible (first | assumption | exact Keeps.refl _ | refine Keeps.alloc ?_ _ | refine Keeps.drew ?_ | refine Keeps.drewN ?_ _)))
                                    case measure => simp [intOf]; omega
                              · obtain rfl : LN = j := by omega
                                have hFe : F0 ++ C.take LN = F0 ++ C := by rw [HLN.out, List.take_length]
                                rw [hFe] at HFJ
                                clear hFe
                                go_wp2_with fail
                                go_roundw
                                case rel => exact ⟨k + 1, a, n, c, by omega, by go_num, HBJ, Lib.hid (by rw [HFS.out]; exact HFJ.out), HKJ⟩
                                case measure => simp [intOf]; omega
                          · obtain rfl : ML = k := by omega
                            have hFe : ((M.take ML).map (nth LL)).flatten = FLT := by rw [HMLE.out, List.take_length]; exact HFLT.out.symm
                            rw [hFe] at HF
                            have hn : n = FLT.length := by obtain ⟨a', c', e'⟩ := own_form' HF.out; injection e'
                            have HNN := Lib.hid hn
                            clear hFe hn
                            go_wp2_with fail
                            go_meet
                            case rel => exact ⟨a, n, c, HNN.out, HB, HF, HKW⟩
                    case rest =>
                      obtain ⟨a, n, c, hn, HB, HF, HKX⟩ := hcut
                      obtain ⟨wf, hwf⟩ : ∃ wf : World, wf = wc := ⟨_, rfl⟩
                      subst hwf
                      have HNF := Lib.hid hn
                      have hkof := HKM.out.trans HKX.out
                      have HKOF := Lib.hid hkof
                      have hb1 := HB.out.cell (j := 1) rfl
                      have hb0 := HB.out.cell (j := 0) rfl
                      have hpbl := HB.out.lt
                      have HOWF := Lib.hid (HOW.out.keep hkof)
                      have hH1 : ∀ w', Keeps wf w' → ∀ m, Calls Try.prog 21 #[.slice a n c, .slice lao l.length lcap] (w'.drewN m) fun e w'' => e = .returned (.int .i64 (heatR l FLT)) ∧ ∃ q, w'' = (w'.drewN m).drewN q := fun w' hk m =>
                        heatOf_q _ _ FLT l _ (by have z := HF.out.ints; exact Arr.keep z (hk.drewN m)) (Arr.keep HL.out ((HK9W.out.trans (HK9.out.trans (hkof.trans hk))).drewN m)) (fun e he => (HOK.out e he).2.2.1) HHEAT.out.2
                      have HH1 := Lib.hid hH1
                      obtain ⟨AO, hAO⟩ : ∃ AO, AO = atR (BT i) ID ID.length := ⟨_, rfl⟩
                      have hAOl : AO ≤ NI := by rw [HNI.out, hAO]; exact atR_le _ _ _
                      have hins : insI BT (fun _ => true) (i + 1) = putAt ID i AO := by
                        rw [hAO, HID.out]
                        conv => lhs; unfold insI
                        exact if_pos rfl
                      have HINS := Lib.hid hins
                      have HAO := Lib.hid hAO
                      have hlff : fb < wf.heap.size := by have := hkof.size; omega
                      clear hn hkof hH1 hAO hins
                      have hs0 : ∀ b, (Value.slice a22 NI c22).ownBlock = some b → b < wo.heap.size ∧ w9.heap.size ≤ b := fun b q => ⟨own_lt' HOW.out q, HOW.out.row b q⟩
                      have HS0 := Lib.hid hs0
                      have hwop : wo.heap.size ≤ pb := by omega
                      have hNIb : NI ≤ 1073741824 := by omega
                      clear hs0
                      go_upto_block 24 with fail
                      go_cut [32] (fun s32 wx => s32 = .int .i64 (AO : Int) ∧ Hid (Keeps wf wx))
                      case first =>
                        as_aux_lemma =>
                          go_wp2_with fail
                          go_loopw [32] (fun s32 wr => ∃ q : Nat, q ≤ NI ∧ s32 = .int .i64 q ∧ Hid (atR (BT i) ID q = AO) ∧ Hid (Keeps wf wr)) (fun s32 _ => (intOf s32).toNat)
                          case atStart => exact ⟨NI, Nat.le_refl _, rfl, Lib.hid (by rw [HAO.out, HNI.out]), Lib.hid (by repeat (with_reducible (first | assumption | exact Keeps.refl _ | refine Keeps.alloc ?_ _ | refine Keeps.drew ?_ | refine Keeps.drewN ?_ _)))⟩
                          case round =>
                            obtain ⟨q, hq, rfl, HAA, HKA⟩ := hrel
                            have p1 := HKA.out.cell hb1
                            by_cases hq0 : q = 0
                            · have tA : decide ((0 : Int) < (q : Int)) = false := by simp; omega
                              have tAn : decide (0 < q) = false := decide_eq_false (by omega)
                              have eA : AO = q := by rw [← HAA.out, hq0]; rfl
                              have EA := Lib.hid eA
                              clear hq0 eA
                              go_wp2_with fail
                              go_quiet (fail)
                              go_wp2_with fail
                              go_meet
                              case rel => exact ⟨by rw [EA.out], Lib.hid (HKA.out.trans (by repeat (with_reducible (first | assumption | exact Keeps.refl _ | refine Keeps.alloc ?_ _ | refine Keeps.drew ?_ | refine Keeps.drewN ?_ _))))⟩
                            · have tA : decide ((0 : Int) < (q : Int)) = true := by simp; omega
                              have tAn : decide (0 < q) = true := decide_eq_true (by omega)
                              obtain ⟨J, hJ⟩ : ∃ J, J = q - 1 := ⟨_, rfl⟩
                              have hJq : J < q := by omega
                              have hJN : J < NI := by omega
                              have wJ : IntKind.i64.wrap ((q : Int) - 1) = (J : Int) := by rw [IntKind.wrap_i64]; omega
                              have hst : AO = if BT i (nth ID J) = true then atR (BT i) ID J else J + 1 := by
                                rw [← HAA.out, show q = J + 1 by omega]
                                rfl
                              have hJI : J < ID.length := by rw [← HNI.out]; exact hJN
                              obtain ⟨x, hx⟩ : ∃ x, x = nth ID J := ⟨_, rfl⟩
                              have hxi : x < i := by rw [hx]; exact HIDLT.out _ (nth_in hJI)
                              obtain ⟨g22, cap22, e22, -, -, -, -, cs22, -, -⟩ := own_setk (f := cPt) (k := 2) (fun _ => rfl) (HOWF.out.keep HKA.out) (i := J) (by rw [List.length_map]; exact hJI)
                              injection e22 with e221 e222 e223
                              subst e221
                              obtain ⟨⟨xF, xa, xn, xc⟩, hrx⟩ : ∃ r, r = raw x := ⟨_, rfl⟩
                              have d1 : wr.cell? ⟨g22, J * 2 + 1, none⟩ = some (.slice xa xn xc) := cs22 J 1 _ (by rw [List.length_map]; exact hJI) (by decide) (by rw [nth_map raw ID hJI, ← hx, ← hrx]; rfl)
                              have hr := (HRAW.out x hxi).2.1
                              rw [← hrx] at hr
                              have hpx := HPN.out x (by omega)
                              obtain ⟨D, hD⟩ : ∃ D, D = (nth PL x).Blocks := ⟨_, rfl⟩
                              rw [← hD] at hr
                              have hndD : D.Nodup := by rw [hD, hpx]; exact (mine_flat (f := f) (l := l) HFL9.out x).1
                              have hhd := heat_fine HOK.out hne hndD
                              have hD2 : ∀ m, Calls Try.prog 21 #[.slice xa xn xc, .slice lao l.length lcap] (wr.drewN m) fun e w'' => e = .returned (.int .i64 (heatR l D)) ∧ ∃ q, w'' = (wr.drewN m).drewN q := fun m =>
                                heatOf_q _ _ D l _ (Arr.keep hr ((HKOF.out.trans HKA.out).drewN m)) (Arr.keep HL.out ((HK9W.out.trans (HK9.out.trans (HKOF.out.trans HKA.out))).drewN m)) (fun e he => (HOK.out e he).2.2.1) hhd.2
                              have hbt : BT i x = decide (heatR l D < heatR l FLT) := by
                                rw [HBT.out]
                                unfold paLt
                                dsimp only
                                rw [HPI.out, ← hD]
                              rw [← hx] at hst
                              have hH1 := HH1.out wr HKA.out
                              have H1 := Lib.hid hH1
                              have H2 := Lib.hid hD2
                              have HST := Lib.hid hst
                              have HBTX := Lib.hid hbt
                              have HJ := Lib.hid (show q = J + 1 by omega)
                              have hJz : (J : Int) < (NI : Int) := by omega
                              generalize heatR l FLT = HC0 at H1 HBTX
                              generalize heatR l D = HD0 at H2 HBTX
                              clear hJ hst hq0 hJI hx cs22 e222 e223 hrx hr hpx hD hndD hhd hD2 hbt hH1
                              by_cases hlt2 : HD0 < HC0
                              · have tH : decide (HD0 < HC0) = true := by simpa using hlt2
                                have hnx : atR (BT i) ID J = AO := by rw [HST.out, HBTX.out, if_pos tH]
                                have HNX := Lib.hid hnx
                                clear hnx hlt2
                                go_wp2_with fail
                                go_quiet ((go_at_call 21; first | (with_reducible exact Calls.quiet_of (H1.out _)) | (with_reducible exact Calls.quiet_of (H2.out _))))
                                go_wp2_with fail
                                go_roundw
                                case rel => exact ⟨J, by omega, by go_num, HNX, Lib.hid (HKA.out.trans (by repeat (with_reducible (first | assumption | exact Keeps.refl _ | refine Keeps.alloc ?_ _ | refine Keeps.drew ?_ | refine Keeps.drewN ?_ _))))⟩
                                case measure => simp [intOf]; omega
                              · have tH : decide (HD0 < HC0) = false := by simpa using hlt2
                                have eA : AO = q := by rw [HST.out, HBTX.out, if_neg (by rw [tH]; exact Bool.false_ne_true), HJ.out]
                                have EA := Lib.hid eA
                                clear eA hlt2
                                go_wp2_with fail
                                go_quiet ((go_at_call 21; first | (with_reducible exact Calls.quiet_of (H1.out _)) | (with_reducible exact Calls.quiet_of (H2.out _))))
                                go_wp2_with fail
                                go_meet
                                case rel => exact ⟨by rw [EA.out], Lib.hid (HKA.out.trans (by repeat (with_reducible (first | assumption | exact Keeps.refl _ | refine Keeps.alloc ?_ _ | refine Keeps.drew ?_ | refine Keeps.drewN ?_ _))))⟩
                      case rest =>
                        obtain ⟨rfl, HKA⟩ := hcut
                        obtain ⟨w6, hw6⟩ : ∃ w6 : World, w6 = wc := ⟨_, rfl⟩
                        subst hw6
                        have HO6 := Lib.hid (HOWF.out.keep HKA.out)
                        have hs6 : w9.heap.size ≤ w6.heap.size := (HK9.out.trans (HKOF.out.trans HKA.out)).size
                        obtain ⟨N1, hN1⟩ : ∃ N1, N1 = NI + 1 := ⟨_, rfl⟩
                        have hlen7 : (ID.map raw ++ [(⟨0, none, 0, 0⟩ : Pv)]).length = N1 := by rw [List.length_append, List.length_map, ← HNI.out, hN1]; rfl
                        have HLEN7 := Lib.hid hlen7
                        have hlM : (ID.map raw).length = NI := by rw [List.length_map, ← HNI.out]
                        have HLM := Lib.hid hlM
                        have w1 : IntKind.i64.wrap ((N1 : Int) - 1) = (NI : Int) := by rw [IntKind.wrap_i64]; omega
                        have HN1 := Lib.hid hN1
                        have hN1b : N1 ≤ 1073741825 := by omega
                        have hwf6 := HKA.out.size
                        clear hlen7 hlM hN1
                        go_upto_block 26 with (at_builtin; refine wpList_pushes (by rfl) (.tmp 371) (.tmp 373) 28 (by rfl) Try.underlying28 info_part (by rfl) (by decide) (base := w9.heap.size) (f := cPt) (l := ID.map raw) (by rfl) (by exact HO6.out.keep (by repeat (with_reducible (first | assumption | exact Keeps.refl _ | refine Keeps.alloc ?_ _ | refine Keeps.drew ?_ | refine Keeps.drewN ?_ _)))) [⟨0, none, 0, 0⟩] _ _ (by rfl) (by exact Blk.top' _ _ (by first | rfl | simp)) (fun _ => rfl) cPt_one (by rw [HLM.out]; simp only [List.length_cons, List.length_nil]; omega) (by rw [HLM.out]; simp only [List.length_cons, List.length_nil]; unfold maxLen; omega) (by first | omega | (simp only [sz_alloc]; omega)) ?_; intro v7 w7 hown7 hbel7 hgr7 hfr7; obtain ⟨a7, c7, e7⟩ := own_form' hown7; rw [HLEN7.out] at e7; subst e7)
                        have HO7 := Lib.hid (show Own w7 w9.heap.size 59 2 cPt (.slice a7 N1 c7) (ID.map raw ++ [(⟨0, none, 0, 0⟩ : Pv)]) from hown7)
                        have HOS7 := Lib.hid (((HKA.out.only fun b => (Value.slice a22 NI c22).ownBlock = some b).trans ((show Keeps w6 _ from (by repeat (with_reducible (first | assumption | exact Keeps.refl _ | refine Keeps.alloc ?_ _ | refine Keeps.drew ?_ | refine Keeps.drewN ?_ _)))).only _)).trans (grown_only hgr7 fun b e => e))
                        have HOWN7 : Hid (∀ b, (Value.slice a7 N1 c7).ownBlock = some b → (Value.slice a22 NI c22).ownBlock = some b ∨ wf.heap.size ≤ b) := Lib.hid fun b e => (hfr7 b e).imp id fun z => Nat.le_trans hwf6 (Nat.le_trans (Keeps.size (show Keeps w6 _ from (by repeat (with_reducible (first | assumption | exact Keeps.refl _ | refine Keeps.alloc ?_ _ | refine Keeps.drew ?_ | refine Keeps.drewN ?_ _))))) z)
                        clear hown7 hbel7 hgr7 hfr7
                        obtain ⟨ws, hws⟩ : ∃ ws : World, ws = w7 := ⟨_, rfl⟩
                        subst hws
                        go_cut [] (fun wx => Hid (Own wx w9.heap.size 59 2 cPt (.slice a7 N1 c7) (shf (ID.map raw) ⟨0, none, 0, 0⟩ AO)) ∧ Hid (Only (fun b => (Value.slice a22 NI c22).ownBlock = some b) wf wx))
                        case first =>
                          as_aux_lemma =>
                            go_wp2_with fail
                            go_loopw [33] (fun s33 wr => ∃ j : Nat, AO ≤ j ∧ j ≤ NI ∧ s33 = .int .i64 j ∧ Hid (Own wr w9.heap.size 59 2 cPt (.slice a7 N1 c7) (shf (ID.map raw) ⟨0, none, 0, 0⟩ j)) ∧ Hid (Only (fun b => (Value.slice a22 NI c22).ownBlock = some b) wf wr)) (fun s33 _ => (intOf s33).toNat)
                            case atStart => exact ⟨NI, hAOl, Nat.le_refl _, rfl, Lib.hid (by rw [← HLM.out, shf_top]; exact HO7.out), HOS7⟩
                            case round =>
                              obtain ⟨j, hj1, hj2, rfl, HSJ, HKS⟩ := hrel
                              by_cases hltj : AO < j
                              · have hltjz : (AO : Int) < (j : Int) := by omega
                                have hshl := shf_len (ID.map raw) (⟨0, none, 0, 0⟩ : Pv) j (by rw [HLM.out]; exact hj2)
                                obtain ⟨hsp, hss⟩ := shf_step (ID.map raw) (⟨0, none, 0, 0⟩ : Pv) (j := j) (by omega) (by rw [HLM.out]; exact hj2)
                                rw [HLM.out] at hshl
                                obtain ⟨g7, cap7, e7, hb7, -, -, g7l, cs7, fz7, st7⟩ := own_setk (f := cPt) (k := 2) (fun _ => rfl) HSJ.out (i := j) (by rw [hshl]; omega)
                                injection e7 with e71 e72 e73
                                subst e71
                                obtain ⟨⟨xF, xa, xn, xc⟩, hxx⟩ : ∃ x : Pv, x = nth (ID.map raw) (j - 1) := ⟨_, rfl⟩
                                obtain ⟨J, hJ⟩ : ∃ J, J = j - 1 := ⟨_, rfl⟩
                                have p70 : wr.cell? ⟨g7, J * 2, none⟩ = some (.int .i64 xF) := by rw [hJ]; exact cs7 (j - 1) 0 _ (by rw [hshl]; omega) (by decide) (by rw [hsp, ← hxx]; rfl)
                                have p71 : wr.cell? ⟨g7, J * 2 + 1, none⟩ = some (.slice xa xn xc) := by rw [hJ]; exact cs7 (j - 1) 1 _ (by rw [hshl]; omega) (by decide) (by rw [hsp, ← hxx]; rfl)
                                obtain ⟨oz, hoz⟩ : ∃ z : Pv, z = nth (shf (ID.map raw) (⟨0, none, 0, 0⟩ : Pv) j) j := ⟨_, rfl⟩
                                have o70 : wr.cell? ⟨g7, j * 2, none⟩ = some (.int .i64 oz.F) := cs7 j 0 _ (by rw [hshl]; omega) (by decide) (by rw [← hoz]; rfl)
                                have o71 : wr.cell? ⟨g7, j * 2 + 1, none⟩ = some (.slice oz.a oz.n oz.c) := cs7 j 1 _ (by rw [hshl]; omega) (by decide) (by rw [← hoz]; rfl)
                                have f70 := fz7 (j * 2)
                                have f71 := fz7 (j * 2 + 1)
                                have sx := st7 ⟨xF, xa, xn, xc⟩
                                rw [hxx, hss, ← hxx, ← hJ] at sx
                                have sx2 : Own ((wr.setCell ⟨g7, j * 2, none⟩ (.int .i64 xF)).setCell ⟨g7, j * 2 + 1, none⟩ (.slice xa xn xc)) w9.heap.size 59 2 cPt (.slice (some ⟨g7, 0, none⟩) N1 c7) (shf (ID.map raw) ⟨0, none, 0, 0⟩ J) := sx
                                have son := ((Only.set (S := fun b => b = g7) wr g7 (j * 2) (.int .i64 xF) rfl).trans (Only.set (S := fun b => b = g7) _ g7 (j * 2 + 1) (.slice xa xn xc) rfl))
                                have sonw := HKS.out.trans' son (fun x e => by subst e; exact HOWN7.out _ rfl)
                                have wJ : IntKind.i64.wrap ((j : Int) - 1) = (J : Int) := by rw [IntKind.wrap_i64]; omega
                                have hjz : (j : Int) < (N1 : Int) := by have := HN1.out; omega
                                have hJz : (J : Int) < (N1 : Int) := by have := HN1.out; omega
                                have hJA : AO ≤ J := by omega
                                have hJj : J < j := by omega
                                have SX := Lib.hid sx2
                                have SON := Lib.hid sonw
                                clear hshl hsp hss e72 e73 cs7 fz7 st7 hxx sx sx2 son sonw hJ hoz
                                go_wp2_with fail
                                go_roundw
                                case rel => exact ⟨J, by omega, by omega, by go_num, Lib.hid (SX.out), Lib.hid (SON.out)⟩
                                case measure => simp [intOf]; omega
                              · obtain rfl : AO = j := by omega
                                go_wp2_with fail
                                go_meet
                                case rel => exact ⟨HSJ, HKS⟩
                        case rest =>
                          obtain ⟨HSJ, HKS⟩ := hcut
                          obtain ⟨w8, hw8⟩ : ∃ w8 : World, w8 = wc := ⟨_, rfl⟩
                          subst hw8
                          have hshl := shf_len (ID.map raw) (⟨0, none, 0, 0⟩ : Pv) AO (by rw [HLM.out]; exact hAOl)
                          rw [HLM.out] at hshl
                          obtain ⟨g7, cap7, e7, hb7, -, -, g7l, cs7, fz7, st7⟩ := own_setk (f := cPt) (k := 2) (fun _ => rfl) HSJ.out (i := AO) (by rw [hshl]; omega)
                          injection e7 with e71 e72 e73
                          subst e71
                          obtain ⟨oz, hoz⟩ : ∃ z : Pv, z = nth (shf (ID.map raw) (⟨0, none, 0, 0⟩ : Pv) AO) AO := ⟨_, rfl⟩
                          have o70 : w8.cell? ⟨g7, AO * 2, none⟩ = some (.int .i64 oz.F) := cs7 AO 0 _ (by rw [hshl]; omega) (by decide) (by rw [← hoz]; rfl)
                          have o71 : w8.cell? ⟨g7, AO * 2 + 1, none⟩ = some (.slice oz.a oz.n oz.c) := cs7 AO 1 _ (by rw [hshl]; omega) (by decide) (by rw [← hoz]; rfl)
                          have f70 := fz7 (AO * 2)
                          have f71 := fz7 (AO * 2 + 1)
                          have sx := st7 ⟨(i : Int), a, n, c⟩
                          rw [shf_put (ID.map raw) (⟨0, none, 0, 0⟩ : Pv) _ (by rw [HLM.out]; exact hAOl)] at sx
                          have sx2 : Own ((w8.setCell ⟨g7, AO * 2, none⟩ (.int .i64 (i : Int))).setCell ⟨g7, AO * 2 + 1, none⟩ (.slice a n c)) w9.heap.size 59 2 cPt (.slice (some ⟨g7, 0, none⟩) N1 c7) (putAt (ID.map raw) ⟨(i : Int), a, n, c⟩ AO) := sx
                          have son := ((Only.set (S := fun b => b = g7) w8 g7 (AO * 2) (.int .i64 (i : Int)) rfl).trans (Only.set (S := fun b => b = g7) _ g7 (AO * 2 + 1) (.slice a n c) rfl))
                          have sonw := HKS.out.trans' son (fun x e => by subst e; exact HOWN7.out _ rfl)
                          have hpn : ¬ (Value.slice a22 NI c22).ownBlock = some pb := fun e => by have := (HS0.out pb e).1; omega
                          have hbp8 := HB.out.only HKS.out hpn
                          have t0 := hbp8.cell (j := 0) rfl
                          have t1 := hbp8.cell (j := 1) rfl
                          have hpb8 := hbp8.lt
                          have hAz : (AO : Int) < (N1 : Int) := by have := HN1.out; omega
                          have SX := Lib.hid sx2
                          have SON := Lib.hid sonw
                          have hpg : ¬ pb = g7 := fun e => by
                            rcases HOWN7.out g7 rfl with z | z
                            · have := (HS0.out g7 z).1; omega
                            · omega
                          have hgp : ¬ g7 = pb := fun e => hpg e.symm
                          clear hshl e72 e73 cs7 fz7 st7 sx sx2 son sonw hoz hbp8 hpn
                          go_wp2_with fail
                          go_roundw
                          case rel =>
                            refine ⟨i + 1, fun j => if j = i then ⟨(i : Int), a, n, c⟩ else raw j, by omega, by go_num, Lib.hid ?_, Lib.hid ?_, Lib.hid ?_⟩
                            · rw [HINS.out, putAt_map, if_pos rfl, map_turn (g := fun j => if j = i then (⟨(i : Int), a, n, c⟩ : Pv) else raw j) (h := raw) HIDLT.out (fun j hj => if_neg (by omega))]
                              exact SX.out
                            · intro j hj
                              dsimp only
                              by_cases hji : j = i
                              · rw [if_pos hji]
                                subst hji
                                have hblk : ∀ b, (slP ⟨(j : Int), a, n, c⟩).ownBlock = some b → pb + 1 ≤ b ∧ b < wf.heap.size := fun b e => ⟨HF.out.row b e, own_lt' HF.out e⟩
                                refine ⟨rfl, ?_, fun b e => ⟨by have := (hblk b e).1; omega, Nat.lt_of_lt_of_le (hblk b e).2 SON.out.size, fun z => ?_⟩⟩
                                · rw [HPI.out]
                                  exact arr_only SON.out HF.out.ints (by decide) fun b e z => by have h1 := (hblk b e).1; have h2 := (HS0.out b z).1; omega
                                · rcases HOWN7.out b z with y | y
                                  · have h1 := (hblk b e).1; have h2 := (HS0.out b y).1; omega
                                  · have h1 := (hblk b e).2; omega
                              · rw [if_neg hji]
                                have hr := HRAW.out j (by omega)
                                refine ⟨hr.1, ?_, fun b e => ?_⟩
                                · exact arr_only SON.out (Arr.keep hr.2.1 HKOF.out) (by decide) fun b e z => (hr.2.2 b e).2.2 z
                                · have h1 := hr.2.2 b e
                                  have h2 := HKOF.out.size
                                  refine ⟨h1.1, by have := SON.out.size; omega, fun z => ?_⟩
                                  rcases HOWN7.out b z with y | y
                                  · exact h1.2.2 y
                                  · omega
                            · exact (HK9.out.trans HKOF.out).trans' (Only.below SON.out (B := w9.heap.size) (fun b z => (HS0.out b z).2) (HK9.out.trans HKOF.out).size) (Nat.le_refl _)
                          case measure => simp [intOf]; omega
                · obtain rfl : f.Firsts.length = i := by omega
                  go_wp2_with fail
                  go_meet
                  case rel =>
                    refine ⟨Lib.hid ?_, HK9⟩
                    rw [HFIN.out]
                    refine partsAt_idx HOW.out fun j hj => ?_
                    have hj' := insI_lt _ j hj
                    have hr := HRAW.out j hj'
                    exact ⟨by rw [hr.1, HPN.out j hj'], hr.2.1⟩
          case rest =>
            obtain ⟨HPA, HKX⟩ := hcut
            go_wp2_with fail
            refine bodyPost_ret (results_tmp2 rfl _ _ _) rfl ?_
            exact ⟨_, by rw [HE.out]; rfl, by rw [HS9.out]; exact HPA.out, HK9W.out.trans HKX.out⟩
end Go.Proofs.Ytofaghcnkppmbaa
