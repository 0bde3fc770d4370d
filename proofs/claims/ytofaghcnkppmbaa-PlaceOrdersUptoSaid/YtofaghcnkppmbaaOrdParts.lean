/-
  place.parts: chains of each function, and functions, the hottest ones first.
-/
import Derived.Test.YtofaghcnkppmbaaOrdPartsM
import Derived.Test.YtofaghcnkppmbaaOrdCat
import Derived.Test.YtofaghcnkppmbaaOrdSt
import Derived.OwnWalk
namespace Go.Proofs.Ytofaghcnkppmbaa
open Go.RowKit BH Go.Sort
set_option maxHeartbeats 1000000000
set_option maxRecDepth 100000
theorem own_below {α : Type} {w w' : World} {B base : Nat} {e : TypeId} {k : Nat} {f : α → List Value} {v : Value} {l : List α} (h : Own w base e k f v l) (hb : Below B w w') (hv : ∀ g, v.ownBlock = some g → g < B) : Own w' base e k f v l :=
  Own.only (S := fun b => B ≤ b) ⟨hb.os, hb.tape, hb.output, hb.size, fun b _ hn => hb.block b (by omega)⟩ h (fun g hg hS => by have := hv g hg; omega)
theorem parts_any {f : Fl} {vs : List Sv} {R : Sv → List Int} {H : List Int} {vf vl vh : Value} {w : World} (hf : FlowAt w vf f) (hvl : Arr w vl vs.length 1 (fun j _ => argCh (nth vs j))) (hR : ∀ x, x ∈ vs → Ints w (argCh x) (R x)) (hH : Ints w vh H) (hHl : H.length = f.Blocks.length)
    (hnv : vs.length ≤ 1099511627776) (hnf : f.Firsts.length ≤ 1099511627776) (rg : ∀ x, x ∈ vs → ∀ b, b ∈ R x → 0 ≤ b ∧ b < H.length) (hn : ∀ j, j < H.length → 0 ≤ nth H j) (tot : (vs.map fun x => sumH H (R x)).sum ≤ 4611686018427387904) (fl : (vs.map R).flatten.length ≤ 1099511627776)
    (dis : ∀ i j, i < vs.length → j < vs.length → i ≠ j → R (nth vs i) ≠ [] → R (nth vs j) ≠ [] → hdC (R (nth vs i)) ≠ hdC (R (nth vs j))) :
    Calls Try.prog 17 #[vf, vl, vh] w (Gives (fun v w' => PartsAt w' v (partsC f (vs.map R) H)) w) := by
  obtain ⟨v0, v1, v2, rfl, ⟨cv, av, lv, ⟨ao, cap, rfl, b1, b2, -, b3⟩, -⟩, ⟨tv, ⟨tao, tcap, rfl, -⟩, -⟩, hF⟩ := hf
  obtain ⟨fao, fcap, e2⟩ := Arr.form hF
  subst e2
  obtain ⟨hao, hcap, eh⟩ := Arr.form hH
  subst eh
  obtain ⟨lao, lcap, rfl, l1, l2, -, l3⟩ := hvl
  unfold maxLen at b2 l2
  have HF := Lib.hid hF
  have HH := Lib.hid hH
  have HR := Lib.hid hR
  have HRG := Lib.hid rg
  have HHN := Lib.hid hn
  have HTOT := Lib.hid tot
  have HFL := Lib.hid fl
  have HDIS := Lib.hid dis
  have HHL := Lib.hid hHl
  clear hF hH hR rg hn tot fl dis hHl
  go_enter Try.func17, Try.ntmps17
  go_upto_region 2 with fail
  obtain ⟨W1, hW1, hBf, hBh, k1, s1⟩ : ∃ W1, W1 = (w.alloc (.cells #[.slice ao f.Blocks.length cap, .slice tao f.Tables.length tcap, .slice fao f.Firsts.length fcap] 26)).alloc (.cells #[.slice hao H.length hcap] 24) ∧ Blk W1 w.heap.size (.cells #[.slice ao f.Blocks.length cap, .slice tao f.Tables.length tcap, .slice fao f.Firsts.length fcap] 26) ∧ Blk W1 (w.heap.size + 1) (.cells #[.slice hao H.length hcap] 24) ∧ Keeps w W1 ∧ W1.heap.size = w.heap.size + 2 :=
    ⟨_, rfl, (Blk.top _ _).keep ((Keeps.refl _).alloc _), Blk.top' _ _ (by rw [sz_alloc]), ((Keeps.refl _).alloc _).alloc _, by rw [sz_alloc, sz_alloc]⟩
  have c2 := hBf.cell (j := 2) rfl
  have h0 := hBh.cell (j := 0) rfl
  have hs1 : w.heap.size + 2 ≤ W1.heap.size := by omega
  have hl1 := hBf.lt
  have hl2 := hBh.lt
  rw [← hW1]
  have HBf := Lib.hid hBf
  have HBh := Lib.hid hBh
  have HK1 := Lib.hid k1
  have HS1 := Lib.hid s1
  clear hW1 hBf hBh k1 s1
  obtain ⟨ti, hti, htz, hts, htb⟩ := info_parts info_int
  go_upto_region 3 with (at_make; refine wpList_make_full _ rfl _ _ 24 rfl W1.heap.size 3 ti (.int .i64 0) 1 Try.underlying24 hti htz hts .i64 .i64 _ _ f.Firsts.length rfl rfl rfl rfl (by rw [htb]; omega) (by unfold maxLen; omega) (Nat.le_refl _) ?_; intro w2 hown2 hgr2)
  obtain ⟨kb, hkb⟩ : ∃ kb, kb = W1.heap.size := ⟨_, rfl⟩
  rw [← hkb] at hown2 ⊢
  have k12 : Keeps W1 w2 := below_grown hgr2 (Nat.le_refl _) fun q e => by cases e
  have s12 := k12.size
  have hkl : kb < w2.heap.size := own_lt' (own_made hown2) rfl
  obtain ⟨W3, hW3, k23, hBo⟩ : ∃ W3, W3 = w2.alloc (.cells #[.slice (some ⟨kb, 0, none⟩) f.Firsts.length f.Firsts.length] 24) ∧ Keeps w2 W3 ∧ Blk W3 w2.heap.size (.cells #[.slice (some ⟨kb, 0, none⟩) f.Firsts.length f.Firsts.length] 24) := ⟨_, rfl, (Keeps.refl _).alloc _, Blk.top _ _⟩
  rw [← hW3]
  obtain ⟨ob, hob⟩ : ∃ ob, ob = w2.heap.size := ⟨_, rfl⟩
  rw [← hob] at hBo hkl ⊢
  obtain ⟨fb, hfb⟩ : ∃ fb, fb = w.heap.size := ⟨_, rfl⟩
  obtain ⟨hb, hhb⟩ : ∃ hb, hb = w.heap.size + 1 := ⟨_, rfl⟩
  rw [← hhb, ← hfb]
  rw [← hhb] at HBh
  rw [← hfb] at HBf
  have hBf := (HBf.out.keep k12).keep k23
  have hBh := (HBh.out.keep k12).keep k23
  have hown3 : Own W3 kb 3 1 ci (.slice (some ⟨kb, 0, none⟩) f.Firsts.length f.Firsts.length) (List.replicate f.Firsts.length 0) := (own_made hown2).keep k23
  have HKW3 : Hid (Keeps w W3) := Lib.hid ((HK1.out.trans k12).trans k23)
  have hlo := hBo.lt
  have HBO := Lib.hid hBo
  have HBF := Lib.hid hBf
  have HBH := Lib.hid hBh
  have HOWN := Lib.hid hown3
  have hfk : fb < kb := by omega
  have hhk : hb < kb := by omega
  have hwk : w.heap.size ≤ kb := by omega
  have hko : kb < ob := hkl
  clear hBo hBf hBh hown3 hown2 hgr2 k12 s12 k23 hW3 hob hfb hhb hkb HBf HBh HK1 HS1 hs1 hl1 hl2 c2 h0 hti htz hts htb hkl
  have c2 := HBF.out.cell (j := 2) rfl
  have h0 := HBH.out.cell (j := 0) rfl
  have o0 := HBO.out.cell (j := 0) rfl
  obtain ⟨B2, hB2⟩ : ∃ B2, B2 = W3.heap.size := ⟨_, rfl⟩
  have hoB : ob < B2 := by omega
  have HB2 := Lib.hid hB2
  clear hB2
  go_wp2_with fail
  go_loopw [7, 20] (fun s7 s20 wr => ∃ (i : Nat) (ps : List Pv) (hs : List Int), i ≤ f.Firsts.length ∧ s20 = .int .i64 i ∧ Hid (PartsSt wr B2 s7 ps ((List.range i).map (partC f (vs.map R) H))) ∧ Hid (Own wr kb 3 1 ci (.slice (some ⟨kb, 0, none⟩) f.Firsts.length f.Firsts.length) hs) ∧ Hid (hs.length = f.Firsts.length ∧ ∀ j, j < f.Firsts.length → nth hs j = if j < i then hotC f (vs.map R) H j else 0) ∧ Hid (W3.grownBy wr (some kb))) (fun _ s20 _ => f.Firsts.length - (intOf s20).toNat)
  case atStart => exact ⟨0, [], List.replicate f.Firsts.length 0, Nat.zero_le _, rfl, Lib.hid (PartsSt.nil _ _), HOWN, Lib.hid ⟨List.length_replicate, fun j hj => by rw [nth_eq _ _ (by rw [List.length_replicate]; exact hj), List.getElem_replicate]; simp⟩, Lib.hid (World.grownBy.refl _ _)⟩
  case round =>
    obtain ⟨i, ps, hs, hi, rfl, HPS, HHS, HHL2, HGW⟩ := hrel
    obtain ⟨a7, c7, e7⟩ := own_form' HPS.out.own
    subst e7
    have hBr : B2 ≤ wr.heap.size := by have := HGW.out.size; have := HB2.out; omega
    by_cases hlt : i < f.Firsts.length
    · have hltz : (i : Int) < (f.Firsts.length : Int) := by omega
      go_upto_region 6 with fail
      obtain ⟨wq, hwq, hBi, kq⟩ : ∃ wq, wq = wr.alloc (.cells #[.int .i64 (i : Int)] 3) ∧ Blk wq wr.heap.size (.cells #[.int .i64 (i : Int)] 3) ∧ Keeps wr wq := ⟨_, rfl, Blk.top _ _, (Keeps.refl _).alloc _⟩
      rw [← hwq]
      obtain ⟨ib, hib⟩ : ∃ ib, ib = wr.heap.size := ⟨_, rfl⟩
      rw [← hib] at hBi ⊢
      have hBib : B2 ≤ ib := by omega
      have hiq := hBi.lt
      obtain ⟨B3, hB3⟩ : ∃ B3, B3 = wq.heap.size := ⟨_, rfl⟩
      have hiB : ib < B3 := by omega
      have HBI := Lib.hid hBi
      have HB3 := Lib.hid hB3
      have HKQ := Lib.hid kq
      have HHQ := Lib.hid (HHS.out.keep kq)
      have HGQ := Lib.hid (grown_trans HGW.out (kq.grown _))
      have HIB := Lib.hid hib
      clear hwq hBi kq hB3 hib hiq
      obtain ⟨wo, hwo⟩ : ∃ wo : World, wo = wr := ⟨_, rfl⟩
      subst hwo
      obtain ⟨sel, hsel⟩ : ∃ sel : Sv → Bool, sel = fun x => selC f i (R x) := ⟨_, rfl⟩
      have HSEL := Lib.hid hsel
      obtain ⟨sm, hsm⟩ : ∃ sm : Nat → Int, sm = fun k => (((vs.take k).filter sel).map fun x => sumH H (R x)).sum := ⟨_, rfl⟩
      have HSM := Lib.hid hsm
      have hsmB : ∀ k, 0 ≤ sm k ∧ sm k ≤ 4611686018427387904 := fun k => by
        have hnn : ∀ x, x ∈ vs → 0 ≤ sumH H (R x) := fun x hx => sumH_nonneg H (R x) HHN.out (HRG.out x hx)
        rw [hsm]
        exact ⟨sum_nonneg' _ fun x hx => hnn x (List.mem_of_mem_take (List.mem_filter.1 hx).1), Int.le_trans (sum_sublist ((List.filter_sublist).trans (List.take_sublist k vs)) hnn) HTOT.out⟩
      have HSMB := Lib.hid hsmB
      clear hsel hsm hsmB
      go_wp2_with fail
      go_loopw [10, 25] (fun s10 s25 wr => ∃ k : Nat, k ≤ vs.length ∧ s25 = .int .i64 k ∧ Hid (Own wr B3 24 1 cCh s10 ((vs.take k).filter sel)) ∧ Hid (Own wr kb 3 1 ci (.slice (some ⟨kb, 0, none⟩) f.Firsts.length f.Firsts.length) (hs.set i (sm k))) ∧ Hid (wq.grownBy wr (some kb))) (fun _ s25 _ => vs.length - (intOf s25).toNat)
      case atStart =>
        refine ⟨0, Nat.zero_le _, rfl, Lib.hid (Own.nil _ _ _ _ _), Lib.hid ?_, Lib.hid (World.grownBy.refl _ _)⟩
        have e : hs.set i (sm 0) = hs := by
          have h1 := HHL2.out.2 i hlt
          rw [if_neg (Nat.lt_irrefl _)] at h1
          have e0 : sm 0 = 0 := by rw [HSM.out]; rfl
          have hil : i < hs.length := by rw [HHL2.out.1]; exact hlt
          rw [e0, ← h1, nth_eq _ _ hil, List.set_getElem_self]
        rw [e]
        exact HHQ.out
      case round =>
        obtain ⟨k, hk, rfl, HM, HHK, HGR⟩ := hrel
        obtain ⟨am, cm, em⟩ := own_form' HM.out
        subst em
        have hkwr : Keeps w wr := keeps_grown ((HKW3.out.trans' (below_grown HGW.out (Nat.le_trans hwk (by have := HB2.out; omega)) (fun q e => by cases e; exact hwk)) (Nat.le_refl _)).trans HKQ.out) HGR.out hwk
        have HKWR := Lib.hid hkwr
        have hB3r : B3 ≤ wr.heap.size := by have := HGR.out.size; have := HB3.out; omega
        clear hkwr
        by_cases hkl : k < vs.length
        · have hklz : (k : Int) < (vs.length : Int) := by omega
          obtain ⟨lb, lof, rfl, lc⟩ := l3 (by omega)
          obtain ⟨x, hx⟩ : ∃ x, x = nth vs k := ⟨_, rfl⟩
          have hxm : x ∈ vs := by rw [hx]; exact nth_in hkl
          have lck := HKWR.out.cell (lc k 0 hkl (by omega))
          rw [← hx] at lck
          have hC := HR.out x hxm
          obtain ⟨C, hCd⟩ : ∃ C, C = R x := ⟨_, rfl⟩
          rw [← hCd] at hC
          obtain ⟨xa, xn, xc⟩ := x
          obtain ⟨a0, c0', e0⟩ := Arr.form hC
          unfold argCh at lck e0
          dsimp only at lck e0
          injection e0 with e01 e02 e03
          subst e01 e02 e03
          have lck2 : wr.cell? ⟨lb, lof + k, none⟩ = some (.slice xa C.length xc) := by simpa using lck
          have hLn : C.length ≤ 1099511627776 := by
            have h1 : (R ⟨xa, C.length, xc⟩).length ≤ ((vs.map R).flatten).length := (List.sublist_flatten_of_mem (List.mem_map.2 ⟨_, hxm, rfl⟩)).length_le
            rw [hCd]
            exact Nat.le_trans h1 HFL.out
          have hst : vs.take (k + 1) = vs.take k ++ [⟨xa, C.length, xc⟩] := by rw [hx]; exact take_succ_nth _ _ hkl
          have HST := Lib.hid hst
          have HC := Lib.hid hC
          have HCD := Lib.hid hCd
          have HXM := Lib.hid hxm
          have HX := Lib.hid hx
          have hselx : sel ⟨xa, C.length, xc⟩ = selC f i C := by rw [HSEL.out]; show selC f i (R _) = _; rw [← hCd]
          clear lck lc hst hC hCd hxm hx l3
          by_cases hC0 : C = []
          · have hs0 : sel ⟨xa, C.length, xc⟩ = false := by rw [hselx, hC0]; rfl
            have e1 : (vs.take (k + 1)).filter sel = (vs.take k).filter sel := by rw [HST.out, List.filter_append]; simp [hs0]
            have HE1 := Lib.hid e1
            rw [show C.length = 0 by rw [hC0]; rfl] at lck2
            clear e1 hs0 hselx hC0
            go_wp2_with fail
            go_quiet (fail)
            go_wp2_with fail
            go_roundw
            case rel => exact ⟨k + 1, by omega, by go_num, Lib.hid (by rw [HE1.out]; exact HM.out.keep (by repeat (with_reducible (first | assumption | exact Keeps.refl _ | refine Keeps.alloc ?_ _ | refine Keeps.drew ?_ | refine Keeps.drewN ?_ _)))), Lib.hid (by rw [HSM.out]; dsimp only; rw [HE1.out]; have z := HHK.out.keep (by repeat (with_reducible (first | assumption | exact Keeps.refl _ | refine Keeps.alloc ?_ _ | refine Keeps.drew ?_ | refine Keeps.drewN ?_ _))); rw [HSM.out] at z; exact z), Lib.hid (grown_trans HGR.out (Keeps.grown (by repeat (with_reducible (first | assumption | exact Keeps.refl _ | refine Keeps.alloc ?_ _ | refine Keeps.drew ?_ | refine Keeps.drewN ?_ _))) _))⟩
            case measure => simp [intOf]; omega
          · have hL0 : 0 < C.length := List.length_pos_iff.2 hC0
            have hL0z : (0 : Int) < (C.length : Int) := by omega
            have tD : decide ((0 : Int) < (C.length : Int)) = true := by simpa using hL0z
            obtain ⟨qb, qo, rfl, qc⟩ : ∃ b off, xa = some ⟨b, off, none⟩ ∧ ∀ i j, i < C.length → j < 1 → wr.cell? ⟨b, off + i * 1 + j, none⟩ = some (.int .i64 (nth C i)) := by
              obtain ⟨ao', cap', e, -, -, -, h⟩ := HC.out.keep HKWR.out
              injection e with e1 e2 e3
              subst e1
              exact h hL0
            obtain ⟨h, hh⟩ : ∃ h, h = hdC C := ⟨_, rfl⟩
            have q0 : wr.cell? ⟨qb, qo, none⟩ = some (.int .i64 h) := by have z := qc 0 0 hL0 (by omega); simp only [Nat.zero_mul, Nat.add_zero] at z; rw [hh]; exact z
            have hhb := HRG.out _ HXM.out h (by rw [hh, ← HCD.out]; exact hdC_mem hC0)
            rw [HHL.out] at hhb
            obtain ⟨hN, hhN⟩ : ∃ hN : Nat, h = hN := ⟨h.toNat, by omega⟩
            subst hhN
            have hNl : hN < f.Blocks.length := by omega
            obtain ⟨bb, bof, rfl, bc⟩ := b3 (by omega)
            obtain ⟨y, hy⟩ : ∃ y, y = fnc f hN := ⟨_, rfl⟩
            have bc0 : wr.cell? ⟨bb, bof + hN * 14, none⟩ = some (.int .i64 y) := by rw [hy]; exact HKWR.out.cell (bc hN 0 hNl (by omega))
            have hNz : (hN : Int) < (f.Blocks.length : Int) := by omega
            have hne : ∀ q, q < B2 → q ≠ kb → some q ≠ some kb := fun q _ h e => h (Option.some.inj e)
            have hg3 := grown_trans HGQ.out HGR.out
            have f0 := hg3.cell (HBF.out.cell (j := 0) rfl) (by intro e; injection e with e; dsimp only at e; omega)
            have o1 := hg3.cell (HBO.out.cell (j := 0) rfl) (by intro e; injection e with e; dsimp only at e; omega)
            have hh1 := hg3.cell (HBH.out.cell (j := 0) rfl) (by intro e; injection e with e; dsimp only at e; omega)
            have i1 := HGR.out.cell (HBI.out.cell (j := 0) rfl) (by intro e; injection e with e; dsimp only at e; omega)
            have HY := Lib.hid hy
            have HHD := Lib.hid hh
            have hselv : sel ⟨some ⟨qb, qo, none⟩, C.length, xc⟩ = decide (y = i) := by
              rw [hselx]
              unfold selC
              rw [← hh, hy, Int.toNat_natCast]
              simp [hC0]
            clear hselx qc bc b3 hy hh hg3 hne
            by_cases hE : y = i
            · have tE : (y == (i : Int)) = true := by simpa using hE
              have hs1 : sel ⟨some ⟨qb, qo, none⟩, C.length, xc⟩ = true := by rw [hselv]; simpa using hE
              have e1 : (vs.take (k + 1)).filter sel = (vs.take k).filter sel ++ [⟨some ⟨qb, qo, none⟩, C.length, xc⟩] := by rw [HST.out, List.filter_append]; simp [hs1]
              have HE1 := Lib.hid e1
              clear e1 hs1 hselv hE
              go_wp2_with fail
              go_quiet (fail)
              go_wp2_with (at_builtin; refine wpList_pushes (by rfl) (.tmp 44) (.tmp 46) 23 (by rfl) Try.underlying23 info_ints (by rfl) (by decide) (base := B3) (f := cCh) (l := (vs.take k).filter sel) (by rfl) (by exact HM.out.keep (by repeat (with_reducible (first | assumption | exact Keeps.refl _ | refine Keeps.alloc ?_ _ | refine Keeps.drew ?_ | refine Keeps.drewN ?_ _)))) [⟨some ⟨qb, qo, none⟩, C.length, xc⟩] _ _ (by rfl) (by exact Blk.top' _ _ (by first | rfl | simp)) (fun _ => rfl) (fun y u hu => by simp only [cCh, List.mem_singleton] at hu; subst hu; rfl) (by have h1 : ((vs.take k).filter sel).length ≤ (vs.take k).length := List.length_filter_le _ _; have h2 : (vs.take k).length ≤ vs.length := List.length_take_le' _ _; simp only [List.length_cons, List.length_nil]; omega) (by have h1 : ((vs.take k).filter sel).length ≤ (vs.take k).length := List.length_filter_le _ _; have h2 : (vs.take k).length ≤ vs.length := List.length_take_le' _ _; simp only [List.length_cons, List.length_nil]; unfold maxLen; omega) (by first | omega | (simp only [sz_alloc]; omega) | (simp only [sz_alloc, sz_drewN]; omega)) ?_; intro v7 w7 hown7 hbel7 hgr7 hfr7; obtain ⟨am7, cm7, rfl⟩ := own_form' hown7)
              have hbw : Below B3 wr w7 := Below.trans (Below.mono (show Keeps wr _ from (by repeat (with_reducible (first | assumption | exact Keeps.refl _ | refine Keeps.alloc ?_ _ | refine Keeps.drew ?_ | refine Keeps.drewN ?_ _)))) hB3r) hbel7
              have ho7 : Only (fun b => B3 ≤ b) wr w7 := ⟨hbw.os, hbw.tape, hbw.output, hbw.size, fun b _ hn => hbw.block b (by omega)⟩
              have k7 : Keeps w w7 := Keeps.trans' HKWR.out hbw (by omega)
              have o1' := (Below.cell hbw (p := ⟨ob, 0, none⟩) (by dsimp only; omega)).trans o1
              have i1' := (Below.cell hbw (p := ⟨ib, 0, none⟩) (by dsimp only; omega)).trans i1
              have hh1' := (Below.cell hbw (p := ⟨hb, 0, none⟩) (by dsimp only; omega)).trans hh1
              have hhk7 := Own.only ho7 HHK.out (fun b hb' h => by have e : kb = b := Option.some.inj hb'; omega)
              have hil : i < (hs.set i (sm k)).length := by rw [List.length_set, HHL2.out.1]; exact hlt
              obtain ⟨kb', ck', ek', -, -, -, kl', kc', kf', kset⟩ := own_set1 (h := fun x : Int => Value.int .i64 x) hhk7 hil
              obtain rfl : kb' = kb := by injection ek' with e1 e2 e3; injection e1 with e1; injection e1 with e1; exact e1.symm
              have kci := kc' i hil
              have kfi := kf' i
              obtain ⟨S0, hS0⟩ : ∃ z, z = sm k := ⟨_, rfl⟩
              obtain ⟨s1, hs1⟩ : ∃ z, z = sumH H C := ⟨_, rfl⟩
              have hsk : sm (k + 1) = S0 + s1 := by
                rw [hS0, hs1, HSM.out]
                dsimp only
                rw [HE1.out, List.map_append, List.sum_append]
                have e : sumH H (R ⟨some ⟨qb, qo, none⟩, C.length, xc⟩) = sumH H C := by rw [← HCD.out]
                simp [e]
              have eni : nth (hs.set i (sm k)) i = S0 := by rw [nth_set _ _ _ _ (by rw [HHL2.out.1]; exact hlt), if_pos rfl, hS0]
              rw [eni] at kci
              have hb1 := HSMB.out k
              have hb2 := HSMB.out (k + 1)
              rw [hsk] at hb2
              rw [← hS0] at hb1
              have wS : IntKind.i64.wrap (S0 + s1) = S0 + s1 := by rw [IntKind.wrap_i64]; omega
              have hCx : Ints w7 (.slice (some ⟨qb, qo, none⟩) C.length xc) C := Arr.keep HC.out k7
              have hH7 : Ints w7 (.slice hao H.length hcap) H := Arr.keep HH.out k7
              have SUM : ∀ w', Keeps w7 w' → Calls Try.prog 33 #[.slice (some ⟨qb, qo, none⟩) C.length xc, .slice hao H.length hcap] w' fun e w'' => e = .returned (.int .i64 s1) ∧ w' = w'' := fun w' hk => by
                rw [hs1]
                have hxs : sumH H C ≤ 4611686018427387904 := by
                  have h0 := sumH_nonneg H C HHN.out (by rw [HCD.out]; exact HRG.out _ HXM.out)
                  omega
                exact sum_any _ _ C H w' (Arr.keep hCx hk) (Arr.keep hH7 hk) (by rw [HCD.out]; exact HRG.out _ HXM.out) HHN.out hxs
              have HSUM := Lib.hid SUM
              have hset2 : ∀ y, Own (w7.setCell ⟨kb', i, none⟩ (.int .i64 y)) kb' 3 1 ci (.slice (some ⟨kb', 0, none⟩) f.Firsts.length f.Firsts.length) (hs.set i y) := fun y => by
                have z := kset y
                rw [List.set_set] at z
                exact z
              have HSET := Lib.hid hset2
              have HOW7 := Lib.hid hown7
              have HG7 : Hid (wq.grownBy w7 (some kb')) := Lib.hid (grown_below HGR.out (by rw [← HB3.out]; exact hbw))
              have HSK := Lib.hid hsk
              have hp8 : Own (w7.setCell ⟨kb', i, none⟩ (.int .i64 (S0 + s1))) B3 24 1 cCh (.slice am7 (((vs.take k).filter sel).length + 1) cm7) ((vs.take k).filter sel ++ [⟨some ⟨qb, qo, none⟩, C.length, xc⟩]) := by
                have z := hown7.other (grown_setCell w7 kb' i (.int .i64 (S0 + s1))) (fun g hg e => by have := hown7.row g hg; injection e with e; omega)
                rw [List.length_append] at z
                exact z
              have HP8 := Lib.hid hp8
              have hkl7 := kl'
              clear hp8 hbw ho7 k7 hhk7 kc' kf' ek' kset hS0 hs1 hsk eni hCx hH7 SUM hset2 hown7 hbel7 hgr7 hfr7 o1 i1 hh1 f0 q0 bc0 lck2 kl'
              go_region_law ((go_simp; go_at_call 33; refine (HSUM.out _ (by repeat (with_reducible (first | assumption | exact Keeps.refl _ | refine Keeps.alloc ?_ _ | refine Keeps.drew ?_ | refine Keeps.drewN ?_ _)))).mono ?_; rintro e w6 ⟨rfl, rfl⟩))
              all_goals
                go_wp2_with fail
                go_roundw
                case rel => exact ⟨k + 1, by omega, by go_num, Lib.hid (by rw [HE1.out]; exact HP8.out.keep (by repeat (with_reducible (first | assumption | exact Keeps.refl _ | refine Keeps.alloc ?_ _ | refine Keeps.drew ?_ | refine Keeps.drewN ?_ _)))), Lib.hid (by rw [HSK.out]; exact (HSET.out _).keep (by repeat (with_reducible (first | assumption | exact Keeps.refl _ | refine Keeps.alloc ?_ _ | refine Keeps.drew ?_ | refine Keeps.drewN ?_ _)))), Lib.hid (grown_trans (grown_trans HG7.out (grown_setCell _ _ _ _)) (Keeps.grown (by repeat (with_reducible (first | assumption | exact Keeps.refl _ | refine Keeps.alloc ?_ _ | refine Keeps.drew ?_ | refine Keeps.drewN ?_ _))) _))⟩
                case measure => simp [intOf]; omega
            · have tE : (y == (i : Int)) = false := by simpa using hE
              have hs1 : sel ⟨some ⟨qb, qo, none⟩, C.length, xc⟩ = false := by rw [hselv]; simpa using hE
              have e1 : (vs.take (k + 1)).filter sel = (vs.take k).filter sel := by rw [HST.out, List.filter_append]; simp [hs1]
              have HE1 := Lib.hid e1
              clear e1 hs1 hselv hE
              go_wp2_with fail
              go_quiet (fail)
              go_wp2_with fail
              go_roundw
              case rel => exact ⟨k + 1, by omega, by go_num, Lib.hid (by rw [HE1.out]; exact HM.out.keep (by repeat (with_reducible (first | assumption | exact Keeps.refl _ | refine Keeps.alloc ?_ _ | refine Keeps.drew ?_ | refine Keeps.drewN ?_ _)))), Lib.hid (by rw [HSM.out]; dsimp only; rw [HE1.out]; have z := HHK.out.keep (by repeat (with_reducible (first | assumption | exact Keeps.refl _ | refine Keeps.alloc ?_ _ | refine Keeps.drew ?_ | refine Keeps.drewN ?_ _))); rw [HSM.out] at z; exact z), Lib.hid (grown_trans HGR.out (Keeps.grown (by repeat (with_reducible (first | assumption | exact Keeps.refl _ | refine Keeps.alloc ?_ _ | refine Keeps.drew ?_ | refine Keeps.drewN ?_ _))) _))⟩
              case measure => simp [intOf]; omega
        · obtain rfl : vs.length = k := by omega
          rw [List.take_length] at HM
          have hms : (vs.filter sel).length ≤ vs.length := List.length_filter_le _ _
          have hmem : ∀ x, x ∈ vs.filter sel → x ∈ vs ∧ R x ≠ [] := fun x hx => by
            have h1 := List.mem_filter.1 hx
            refine ⟨h1.1, fun e => ?_⟩
            have h2 := h1.2
            rw [HSEL.out] at h2
            simp [selC, e] at h2
          have hdis : ∀ i j, i < (vs.filter sel).length → j < (vs.filter sel).length → i ≠ j → hdC (R (nth (vs.filter sel) i)) ≠ hdC (R (nth (vs.filter sel) j)) := by
            have hp : (vs.filter sel).Pairwise fun x y => hdC (R x) ≠ hdC (R y) := by
              rw [List.pairwise_filter, List.pairwise_iff_getElem]
              intro a b ha hb hab s1 s2
              have m1 := (hmem vs[a] (List.mem_filter.2 ⟨List.getElem_mem ha, s1⟩)).2
              have m2 := (hmem vs[b] (List.mem_filter.2 ⟨List.getElem_mem hb, s2⟩)).2
              rw [← nth_eq _ _ ha] at m1 ⊢
              rw [← nth_eq _ _ hb] at m2 ⊢
              exact HDIS.out a b ha hb (by omega) m1 m2
            intro a b ha hb hab
            rw [List.pairwise_iff_getElem] at hp
            rw [nth_eq _ _ ha, nth_eq _ _ hb]
            rcases Nat.lt_or_ge a b with q | q
            · exact hp a b ha hb q
            · exact fun e => hp b a hb ha (by omega) e.symm
          have hg3 := grown_trans HGQ.out HGR.out
          have c2' := hg3.cell c2 (by intro e; injection e with e; dsimp only at e; omega)
          have hh1 := hg3.cell h0 (by intro e; injection e with e; dsimp only at e; omega)
          have i1 := HGR.out.cell (HBI.out.cell (j := 0) rfl) (by intro e; injection e with e; dsimp only at e; omega)
          have hsum : ∀ x, x ∈ vs.filter sel → sumH H (R x) ≤ 4611686018427387904 := fun x hx => by
            have h1 := HSMB.out vs.length
            rw [HSM.out] at h1
            dsimp only at h1
            rw [List.take_length] at h1
            have h2 := sum_sublist (g := fun x => sumH H (R x)) (List.singleton_sublist.2 hx) fun y hy => sumH_nonneg H (R y) HHN.out (HRG.out y (hmem y hy).1)
            simp only [List.map_cons, List.map_nil, List.sum_cons, List.sum_nil] at h2
            omega
          have SORT := sortMine (R := R) (i := i) HKWR.out (show w.heap.size ≤ B3 by omega) hB3r HM.out (by omega) (fun x hx => HR.out x (hmem x hx).1) HF.out HH.out c2' i1 hh1 (by omega) hiB (by omega) hlt (fun x hx => (hmem x hx).2) (fun x hx => HRG.out x (hmem x hx).1) HHN.out hsum hdis
          have HSORT := Lib.hid SORT
          have HMEM := Lib.hid hmem
          clear hdis SORT hsum hg3 hmem
          go_wp2_with (go_at_call 34; refine HSORT.out.mono ?_; rintro e w4 ⟨rfl, ho4, hg4⟩)
          have hbw : Below B3 wr w4 := below_grown hg4 hB3r (fun q hq => HM.out.row q hq)
          have HG4 := Lib.hid (show wq.grownBy w4 (some kb) from grown_below HGR.out (by rw [← HB3.out]; exact hbw))
          have ho7 : Only (fun b => B3 ≤ b) wr w4 := ⟨hbw.os, hbw.tape, hbw.output, hbw.size, fun b _ hn => hbw.block b (by omega)⟩
          have k4 : Keeps w w4 := Keeps.trans' HKWR.out hbw (by omega)
          have i4 := (Below.cell hbw (p := ⟨ib, 0, none⟩) (by dsimp only; omega)).trans i1
          have HHK4 := Lib.hid (Own.only ho7 HHK.out (fun b hb' h => by have e : kb = b := Option.some.inj hb'; omega))
          have HPS4 := Lib.hid ((HPS.out.keep HKQ.out).grown HG4.out (fun r e => by injection e with e; omega))
          have hs4 := hbw.size
          have htabs := tabs_rd (R := R) ho4 (fun x hx => Arr.keep (HR.out x (HMEM.out x (List.mem_mergeSort.1 hx)).1) k4)
          have emine : ((vs.filter sel).mergeSort (leOf fun x y => mineLt (nth f.Firsts i) (sumH H) (R x) (R y))).map R = (mineC f (vs.map R) i).mergeSort (leOf (mineLt (nth f.Firsts i) (sumH H))) := by rw [HSEL.out]; exact mine_map f vs R H i
          rw [emine] at htabs
          obtain ⟨LS, hLS⟩ : ∃ LS, LS = (mineC f (vs.map R) i).mergeSort (leOf (mineLt (nth f.Firsts i) (sumH H))) := ⟨_, rfl⟩
          rw [← hLS] at htabs
          have hLSf : LS.flatten.length ≤ 4398046511104 ∧ LS.length ≤ 4398046511104 := by
            have hp : LS.Perm (mineC f (vs.map R) i) := by rw [hLS]; exact List.mergeSort_perm _ _
            have e1 := hp.flatten.length_eq
            have e2 := hp.length_eq
            have e3 : (mineC f (vs.map R) i).flatten.length ≤ (vs.map R).flatten.length := flat_filter _ _
            have e4 : (mineC f (vs.map R) i).length ≤ (vs.map R).length := List.length_filter_le _ _
            rw [List.length_map] at e4
            have := HFL.out
            omega
          obtain ⟨NF, hNF⟩ : ∃ NF, NF = LS.flatten.length := ⟨_, rfl⟩
          have HNF := Lib.hid hNF
          have HLS := Lib.hid hLS
          clear hNF
          have HTABS := Lib.hid htabs
          have HLF := Lib.hid hLSf
          have HBS : Hid ((List.range (i + 1)).map (partC f (vs.map R) H) = (List.range i).map (partC f (vs.map R) H) ++ [⟨(i : Int), LS.flatten⟩]) := Lib.hid (by
            rw [List.range_succ, List.map_append]
            congr 1
            simp only [List.map_cons, List.map_nil, partC]
            rw [hLS])
          have HHL3 : Hid ((hs.set i (sm vs.length)).length = f.Firsts.length ∧ ∀ j, j < f.Firsts.length → nth (hs.set i (sm vs.length)) j = if j < i + 1 then hotC f (vs.map R) H j else 0) := Lib.hid (by
            refine ⟨by rw [List.length_set]; exact HHL2.out.1, fun j hj => ?_⟩
            rw [nth_set _ _ _ _ (by rw [HHL2.out.1]; exact hj), HHL2.out.2 j hj]
            by_cases q : i = j
            · subst q
              rw [if_pos rfl, if_pos (Nat.lt_succ_self _), HSM.out]
              dsimp only
              rw [List.take_length, HSEL.out]
              exact hot_map f vs R H i
            · rw [if_neg q]
              by_cases q2 : j < i
              · rw [if_pos q2, if_pos (by omega)]
              · rw [if_neg q2, if_neg (by omega)])
          have hps : ps.length ≤ 1099511627776 := by rw [HPS.out.len]; simp; omega
          have hBq : B2 ≤ w4.heap.size := by omega
          have hiw4 := lt_of_cell i4
          clear hbw ho7 k4 htabs emine hLS hLSf ho4 hg4 hh1 c2' i1
          go_region_law (first
            | (go_loud (refine step_push (by rfl) (.tmp 61) (.tmp 66) 28 (by rfl) Try.underlying28 info_part (by rfl) (by decide) (base := B2) (f := cPt) (l := ps) (by rfl) (by exact HPS4.out.own.keep (by repeat (with_reducible (first | assumption | exact Keeps.refl _ | refine Keeps.alloc ?_ _ | refine Keeps.drew ?_ | refine Keeps.drewN ?_ _ | refine Keeps.trans' ?_ (by assumption) (by assumption))))) ⟨i, a5, NF, c5⟩ _ _ (by rfl) (by exact Blk.top' _ _ (by first | rfl | simp)) (fun _ => rfl) (fun y u hu => by simp [cPt] at hu; rcases hu with rfl | rfl <;> rfl) (by omega) (by unfold maxLen; omega) (by first | omega | (simp only [sz_alloc]; omega) | (simp only [sz_drew]; omega) | (simp only [sz_alloc, sz_drew]; omega) | (simp only [sz_alloc, sz_drewN]; omega)) ?_); intro v7 w7 hown7 hbel7 hgr7 hfr7; obtain ⟨a7, c7, rfl⟩ := own_form' hown7)
            | (go_simp; go_at_call 36; refine (concat_any _ LS _ (Tabs.keep HTABS.out (by repeat (with_reducible (first | assumption | exact Keeps.refl _ | refine Keeps.alloc ?_ _ | refine Keeps.drew ?_ | refine Keeps.drewN ?_ _)))) HLF.out.1 HLF.out.2).mono ?_; rintro e w5 ⟨v5, rfl, ho5, hk5⟩; obtain ⟨a5, c5, e5⟩ := own_form' ho5; rw [← HNF.out] at e5; subst e5; (repeat' (first | (with_reducible replace hk5 := Keeps.undrew hk5) | (with_reducible replace hk5 := Keeps.undrewN hk5))); have i5 := hk5.cell i4; have hs5 := hk5.size))
          all_goals
            go_wp2_with fail
            go_roundw
            case rel =>
              have hwa := Below.trans (Below.mono (show Keeps w4 _ from (by repeat (with_reducible (first | assumption | exact Keeps.refl _ | refine Keeps.alloc ?_ _ | refine Keeps.drew ?_ | refine Keeps.drewN ?_ _)))) hBq) hbel7
              have hp := PartsSt.push (p := ⟨i, a5, NF, c5⟩) (l := LS.flatten) HPS4.out hBq hk5 (show Own w5 w4.heap.size 3 1 ci (slP ⟨i, a5, NF, c5⟩) LS.flatten from ho5) hown7 hgr7 hfr7 (by repeat (with_reducible (first | assumption | exact Keeps.refl _ | refine Keeps.alloc ?_ _ | refine Keeps.drew ?_ | refine Keeps.drewN ?_ _)))
              rw [List.length_append, ← HBS.out] at hp
              have hh := own_below HHK4.out hwa (fun g hg => by have e : kb = g := Option.some.inj hg; omega)
              exact ⟨i + 1, ps ++ [⟨i, a5, NF, c5⟩], hs.set i (sm vs.length), by omega, by go_num, Lib.hid (hp.keep (by repeat (with_reducible (first | assumption | exact Keeps.refl _ | refine Keeps.alloc ?_ _ | refine Keeps.drew ?_ | refine Keeps.drewN ?_ _)))), Lib.hid (hh.keep (by repeat (with_reducible (first | assumption | exact Keeps.refl _ | refine Keeps.alloc ?_ _ | refine Keeps.drew ?_ | refine Keeps.drewN ?_ _)))), HHL3, Lib.hid (grown_trans (grown_below (grown_trans HGQ.out HG4.out) (by rw [← HB2.out]; exact hwa)) (Keeps.grown (by repeat (with_reducible (first | assumption | exact Keeps.refl _ | refine Keeps.alloc ?_ _ | refine Keeps.drew ?_ | refine Keeps.drewN ?_ _))) _))⟩
            case measure => simp [intOf]; omega
    · obtain rfl : i = f.Firsts.length := by omega
      have hkwr : Keeps w wr := HKW3.out.trans' (below_grown HGW.out (B := w.heap.size) (HKW3.out.size) (fun q e => by cases e; exact hwk)) (Nat.le_refl _)
      have hpl : ps.length = f.Firsts.length := by rw [HPS.out.len]; simp
      have hBm : ∀ a, a ∈ (List.range f.Firsts.length).map (partC f (vs.map R) H) → ∃ j : Nat, j < f.Firsts.length ∧ a.Func = j := fun a ha => by
        obtain ⟨j, hj, rfl⟩ := List.mem_map.1 ha
        exact ⟨j, List.mem_range.1 hj, rfl⟩
      have hhot : ∀ j, j < f.Firsts.length → nth hs j = hotC f (vs.map R) H j := fun j hj => by rw [HHL2.out.2 j hj, if_pos hj]
      have SORT := sortParts (hb := ob) hBr HPS.out.own (by omega) HHS.out.ints (HGW.out.cell o0 (by intro e; injection e with e; dsimp only at e; omega)) hoB (fun b hb' => by have e : kb = b := Option.some.inj hb'; omega) (fun x hx => by
        obtain ⟨j, hj, e⟩ := List.mem_iff_getElem.1 hx
        rw [← nth_eq _ _ hj] at e
        have h1 := HPS.out.fld j hj
        rw [e, nth_map_range _ _ _ (by omega)] at h1
        have h2 : x.F = (j : Int) := h1
        rw [HHL2.out.1]
        omega) (fun j hj => by
        rw [hhot j (by rw [← HHL2.out.1]; exact hj)]
        exact hot_bd HRG.out HHN.out HTOT.out j)
      have HSORT := Lib.hid SORT
      have HKWR := Lib.hid hkwr
      have HBM := Lib.hid hBm
      have HHOT := Lib.hid hhot
      have hpl' : ps.length ≤ 1099511627776 := by omega
      clear SORT hkwr hBm hhot hpl
      go_wp2_with (go_at_call 37; refine HSORT.out.mono ?_; rintro e w4 ⟨rfl, ho4, hg4⟩)
      go_ret
      refine ⟨_, rfl, ?_, HKWR.out.trans' (below_grown hg4 (B := B2) hBr (fun q hq => HPS.out.own.row q hq)) (by omega)⟩
      refine PartsSt.sorted HPS.out hg4 ho4 fun x y a b ha hb hx hy => ?_
      obtain ⟨j1, hj1, e1⟩ := HBM.out a ha
      obtain ⟨j2, hj2, e2⟩ := HBM.out b hb
      unfold leOf
      dsimp only
      rw [hx, hy, e1, e2, Int.toNat_natCast, Int.toNat_natCast, HHOT.out j1 hj1, HHOT.out j2 hj2]
end Go.Proofs.Ytofaghcnkppmbaa
